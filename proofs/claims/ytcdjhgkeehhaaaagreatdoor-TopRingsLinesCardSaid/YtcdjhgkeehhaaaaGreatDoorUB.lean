/- LINEAR PROGRAMS: a pivot. -/
import Derived.Test.YtcdjhgkeehhaaaaGreatDoorUA
import Derived.OrdersIn
import Derived.TacticsIn
namespace Go.Proofs.Wk
open Go.RowKit Mt

def pvX (X : Nat → List Rat) (r c : Nat) : Nat → List Rat := fun i => if i = r then Lp.divR (Lp.at_ (X r) c) (X r) else Lp.dropR (Lp.divR (Lp.at_ (X r) c) (X r)) (Lp.at_ (X i) c) (X i)
/-- The first n rows are done. -/
def pvS (X : Nat → List Rat) (ys : List Rat) (r c n : Nat) : Nat → List Rat := fun j => if j = r then ys else if j < n then Lp.dropR ys (Lp.at_ (X j) c) (X j) else X j
theorem pvS_r (X : Nat → List Rat) (ys : List Rat) (r c n : Nat) : pvS X ys r c n r = ys := if_pos rfl
theorem pvS_at (X : Nat → List Rat) (ys : List Rat) {r c n j : Nat} (h : j ≠ r) (hn : n ≤ j) : pvS X ys r c n j = X j := by
  unfold pvS; rw [if_neg h, if_neg (by omega)]
theorem pvS_skip {X : Nat → List Rat} {ys : List Rat} {r c n : Nat} (h : n = r ∨ Lp.at_ (X n) c = 0) (j : Nat) : pvS X ys r c n j = pvS X ys r c (n + 1) j := by
  unfold pvS
  by_cases e : j = r
  · rw [if_pos e, if_pos e]
  · rw [if_neg e, if_neg e]
    by_cases g : j < n
    · rw [if_pos g, if_pos (by omega)]
    · rw [if_neg g]
      by_cases k : j = n
      · subst k
        rw [if_pos (by omega)]
        rcases h with h | h
        · exact absurd h e
        · rw [h, Lp.dropR_zero]
      · rw [if_neg (by omega)]
theorem pvS_step {X : Nat → List Rat} {ys : List Rat} {r c n : Nat} (h : n ≠ r) (j : Nat) : upd (pvS X ys r c n) n (Lp.dropR ys (Lp.at_ (X n) c) (X n)) j = pvS X ys r c (n + 1) j := by
  by_cases k : j = n
  · subst k
    rw [upd_same]
    unfold pvS
    rw [if_neg h, if_pos (by omega)]
  · rw [upd_other _ _ k]
    unfold pvS
    by_cases e : j = r
    · rw [if_pos e, if_pos e]
    · rw [if_neg e, if_neg e]
      by_cases g : j < n
      · rw [if_pos g, if_pos (by omega)]
      · rw [if_neg g, if_neg (by omega)]
theorem pvS_zero {X : Nat → List Rat} {ys : List Rat} {r c : Nat} (j : Nat) : upd X r ys j = pvS X ys r c 0 j := by
  unfold pvS upd
  by_cases e : j = r
  · rw [if_pos e, if_pos e]
  · rw [if_neg e, if_neg e, if_neg (by omega)]
theorem pvS_end {X : Nat → List Rat} {r c : Nat} (j : Nat) (hj : j < 7) : pvS X (Lp.divR (Lp.at_ (X r) c) (X r)) r c 7 j = pvX X r c j := by
  unfold pvS pvX
  by_cases e : j = r
  · rw [if_pos e, if_pos e]
  · rw [if_neg e, if_neg e, if_pos hj]
theorem box3 (W : World) (x y z : Value) (T U V : TypeId) :
    Below W.heap.size W (((W.alloc (.cells #[x] T)).alloc (.cells #[y] U)).alloc (.cells #[z] V)) ∧ (((W.alloc (.cells #[x] T)).alloc (.cells #[y] U)).alloc (.cells #[z] V)).cell? ⟨W.heap.size, 0, none⟩ = some x ∧
      (((W.alloc (.cells #[x] T)).alloc (.cells #[y] U)).alloc (.cells #[z] V)).cell? ⟨W.heap.size + 1, 0, none⟩ = some y ∧ (((W.alloc (.cells #[x] T)).alloc (.cells #[y] U)).alloc (.cells #[z] V)).cell? ⟨W.heap.size + 1 + 1, 0, none⟩ = some z := by
  have h1 := heap_alloc_new W (.cells #[x] T)
  have b1 : Below W.heap.size W (W.alloc (.cells #[x] T)) := (Below.refl _ _).alloc (Nat.le_refl _) _
  have s1 : (W.alloc (.cells #[x] T)).heap.size = W.heap.size + 1 := by simp
  generalize W.alloc (.cells #[x] T) = W1 at *
  have h2 := heap_alloc_new W1 (.cells #[y] U)
  have b2 : Below W1.heap.size W1 (W1.alloc (.cells #[y] U)) := (Below.refl _ _).alloc (Nat.le_refl _) _
  have s2 : (W1.alloc (.cells #[y] U)).heap.size = W1.heap.size + 1 := by simp
  generalize W1.alloc (.cells #[y] U) = W2 at *
  have h3 := heap_alloc_new W2 (.cells #[z] V)
  have b3 : Below W2.heap.size W2 (W2.alloc (.cells #[z] V)) := (Below.refl _ _).alloc (Nat.le_refl _) _
  have k1 := keepB (keepB h1 b2) b3
  have k2 := keepB h2 b3
  rw [s1] at k2
  rw [s2, s1] at h3
  exact ⟨(b1.trans (b2.mono b1.size)).trans (b3.mono (b1.trans (b2.mono b1.size)).size), one_cell k1, one_cell k2, one_cell h3⟩
set_option maxRecDepth 100000 in
set_option linter.unusedSimpArgs false in
set_option maxHeartbeats 4000000 in
theorem pivot_c {w0 W : World} (hg : Good w0) {ad : Nat → Nat} {cr cb : Nat} {X : Nat → List Rat} {b : Nat → Nat} (h : TB w0 ad cr cb W X b) {r c : Nat} (hr : r < 6) (hc : c < 15)
    (hX : ∀ i, i < 7 → Lp.smL (X i) = true) (hne : Lp.at_ (X r) c ≠ 0) (hy : Lp.smL (Lp.divR (Lp.at_ (X r) c) (X r)) = true) :
    Calls Tryz.prog 107 #[.pointer (some ⟨ad 10, 0, none⟩), .int .i64 (r : Int), .int .i64 (c : Int)] W (TbP w0 ad cr cb W (pvX X r c) (fun i => if i = r then c else b i)) := by
  obtain ⟨hb, a0, a1, a2⟩ := box3 W (.pointer (some ⟨ad 10, 0, none⟩)) (.int .i64 (r : Int)) (.int .i64 (c : Int)) 128 3 3
  have HT0 := Lib.hid (h.later hb)
  have HK0 := Lib.hid (Kp.below (ad := ad) hb)
  have HBX := Lib.hid (⟨a2, a0, a1, h.new (by omega), h.new (by omega), h.new (by omega)⟩ : Bx ad _ (W.heap.size + 1 + 1) W.heap.size (W.heap.size + 1) r c)
  have HXL := Lib.hid (show (X r).length = 16 from (h.row r (by omega)).2)
  have HEND := Lib.hid (show Lp.divS (Lp.at_ (X r) c) (X r) 16 = Lp.divR (Lp.at_ (X r) c) (X r) from Lp.divS_all (by rw [HXL.out]; exact Nat.le_refl _))
  have HV0 := Lib.hid (fun W' (T : TB w0 ad cr cb W' X b) => (T.congr (fun i _ => by
    by_cases q : i = r
    · rw [q, upd_same, Lp.divS_zero]
    · rw [upd_other _ _ q]) (fun _ _ => rfl) : TB w0 ad cr cb W' (upd X r (Lp.divS (Lp.at_ (X r) c) (X r) 0)) b))
  have HDV := Lib.hid (fun k (hk : k < 16) W' (T : TB w0 ad cr cb W' (upd X r (Lp.divS (Lp.at_ (X r) c) (X r) k)) b) => ldiv_c (sm_sz (Lp.smL_at (hX r (by omega)) hk)) (sm_sz (Lp.smL_at (hX r (by omega)) (show c < 16 by omega))) (by omega) hne W' (T.good hg))
  have HOF := Lib.hid (fun (a : Txt) W' (T : ∃ X' b', TB w0 ad cr cb W' X' b') => (by obtain ⟨X', b', T⟩ := T; exact pof_c a (ad 9) W' T.sum : Calls Tryz.prog 104 #[.pointer (some ⟨ad 9, 0, none⟩), .string ⟨a.toArray⟩, .int .i64 0] W' (Ret W' (.string ⟨a.toArray⟩))))
  have HCK := Lib.hid (fun k (hk : k < 16) W' (T : TB w0 ad cr cb W' (upd X r (Lp.divS (Lp.at_ (X r) c) (X r) k)) b) => (by rw [T.cell (show r < 7 by omega) hk, upd_same, Lp.divS_at (by rw [HXL.out]; exact hk)] : W'.cell? ⟨ad r, k, none⟩ = some ((Value.string ⟨(rtoa (Lp.at_ (X r) k)).toArray⟩))))
  have HZ := Lib.hid (fun k (hk : k < 16) => (zer_is (q := Lp.at_ (X r) k)))
  have HSK := Lib.hid (fun k (_ : k < 16) (hz : Lp.at_ (X r) k = 0) W' (T : TB w0 ad cr cb W' (upd X r (Lp.divS (Lp.at_ (X r) c) (X r) k)) b) => (by
    have e := Lp.divS_step (b := Lp.at_ (X r) c) (xs := X r) (k := k)
    rw [hz, Rat.div_def, Rat.zero_mul] at e
    have e2 : (Lp.divS (Lp.at_ (X r) c) (X r) k).set k 0 = Lp.divS (Lp.at_ (X r) c) (X r) k := by
      have hl : k < (Lp.divS (Lp.at_ (X r) c) (X r) k).length := by rw [Lp.divS_len, HXL.out]; assumption
      have := Lp.set_self hl
      rwa [Lp.divS_at (by rw [HXL.out]; assumption), hz] at this
    rw [e2] at e
    rwa [e] at T : TB w0 ad cr cb W' (upd X r (Lp.divS (Lp.at_ (X r) c) (X r) (k + 1))) b))
  have HST := Lib.hid (fun k W' (T : TB w0 ad cr cb W' (upd X r (Lp.divS (Lp.at_ (X r) c) (X r) k)) b) => T.vstep (show r < 7 by omega))
  have HDR := Lib.hid (fun e (he : e < 7) (her : r ≠ e) W' (T : TB w0 ad cr cb W' (pvS X (Lp.divR (Lp.at_ (X r) c) (X r)) r c e) b) cc ct cr' (B : Bx ad W' cc ct cr' r c) => (by
    have := drop_c hg T he hr her (show c < 16 by omega) (by rw [pvS_at X _ (Ne.symm her) (Nat.le_refl _)]; exact hX e he) (by rw [pvS_r]; exact hy) B
    rw [pvS_r, pvS_at X _ (Ne.symm her) (Nat.le_refl _)] at this
    refine this.mono ?_
    rintro en W'' ⟨rfl, T', K'⟩
    exact ⟨rfl, T'.congr (fun j _ => pvS_step (Ne.symm her) j) (fun _ _ => rfl), K'⟩ :
      Calls Tryz.prog 147 #[.slice (some ⟨ad e, 0, none⟩) 16 16, .pointer (some ⟨cc, 0, none⟩), .pointer (some ⟨ct, 0, none⟩), .pointer (some ⟨cr', 0, none⟩)] W' (TbP w0 ad cr cb W' (pvS X (Lp.divR (Lp.at_ (X r) c) (X r)) r c (e + 1)) b)))
  have HXC := Lib.hid (fun i (hi : i < 6) (hir : i ≠ r) W' (T : TB w0 ad cr cb W' (pvS X (Lp.divR (Lp.at_ (X r) c) (X r)) r c i) b) => (by
    rw [T.cell (show i < 7 by omega) (show c < 16 by omega), pvS_at X _ hir (Nat.le_refl _)] : W'.cell? ⟨ad i, c, none⟩ = some ((Value.string ⟨(rtoa (Lp.at_ (X i) c)).toArray⟩))))
  have HZC := Lib.hid (fun i => (zer_is (q := Lp.at_ (X i) c)))
  have HPS := Lib.hid (fun i (hz : i = r ∨ Lp.at_ (X i) c = 0) W' (T : TB w0 ad cr cb W' (pvS X (Lp.divR (Lp.at_ (X r) c) (X r)) r c i) b) => (T.congr (fun j _ => pvS_skip hz j) (fun _ _ => rfl) : TB w0 ad cr cb W' (pvS X (Lp.divR (Lp.at_ (X r) c) (X r)) r c (i + 1)) b))
  have HPE := Lib.hid (fun W' (T : TB w0 ad cr cb W' (pvS X (Lp.divR (Lp.at_ (X r) c) (X r)) r c 7) b) => ((T.setB hr c).congr (fun j hj => pvS_end j hj) (fun _ _ => rfl) : TB w0 ad cr cb (W'.setCell ⟨ad 7, r, none⟩ (.int .i64 (c : Int))) (pvX X r c) (fun i => if i = r then c else b i)))
  have HP0 := Lib.hid (fun W' (T : TB w0 ad cr cb W' (upd X r (Lp.divR (Lp.at_ (X r) c) (X r))) b) => (T.congr (fun j _ => pvS_zero j) (fun _ _ => rfl) : TB w0 ad cr cb W' (pvS X (Lp.divR (Lp.at_ (X r) c) (X r)) r c 0) b))
  have HNZ := Lib.hid (show (rtoa (Lp.at_ (X r) c) == [48]) = false by rw [zer_is]; exact decide_eq_false hne)
  have i0 : (0 : Int) ≤ (c : Int) := by omega
  have i1 : (c : Int) < 16 := by omega
  have i2 : (0 : Int) ≤ (r : Int) := by omega
  have i3 : (r : Int) < 6 := by omega
  obtain ⟨t0, -, -, t3, -⟩ := HT0.out.tcell
  have r0 := HT0.out.rcell hr
  have x0 := HT0.out.cell (show r < 7 by omega) (show c < 16 by omega)
  clear h hb hX hne hy HXL
  go_enter Tryz.func107, Tryz.ntmps107
  go_upto_region 1 with fail
  generalize ((W.alloc (.cells #[.pointer (some ⟨ad 10, 0, none⟩)] 128)).alloc (.cells #[.int .i64 (r : Int)] 3)).alloc (.cells #[.int .i64 (c : Int)] 3) = W1 at *
  generalize W.heap.size + 1 + 1 = gc at *
  generalize W.heap.size + 1 = gr at *
  generalize W.heap.size = gt at *
  have HTV := Lib.hid (HV0.out _ HT0.out)
  clear HV0 HT0
  generalize hx : Lp.at_ (X r) c = x at *
  clear hx
  generalize hys : Lp.divR x (X r) = ys at *
  clear hys
  obtain ⟨b0, b1, b2⟩ : W1.cell? ⟨gt, 0, none⟩ = some (.pointer (some ⟨ad 10, 0, none⟩)) ∧ W1.cell? ⟨gr, 0, none⟩ = some (.int .i64 (r : Int)) ∧ W1.cell? ⟨gc, 0, none⟩ = some (.int .i64 (c : Int)) := ⟨HBX.out.t, HBX.out.r, HBX.out.c⟩
  clear a0 a1 a2
  go_quiet (fail)
  go_wp2_with fail
  go_quiet (fail)
  generalize hW2 : (W1.drewN _).drewN _ = W2 at *
  have HTV2 := Lib.hid (show TB w0 ad cr cb W2 _ b from hW2 ▸ (HTV.out.drewN _).drewN _)
  have HKV2 := Lib.hid (show Kp ad W W2 from hW2 ▸ (HK0.out.drewN _).drewN _)
  have HBV2 := Lib.hid (show Bx ad W2 gc gt gr r c from hW2 ▸ (HBX.out.kp ((Kp.refl ad W1).drewN _)).kp ((Kp.refl ad (W1.drewN _)).drewN _))
  clear hW2 HTV HK0 HBX t0 t3 r0 x0 b0 b1 b2
  go_wp2_with fail
  go_loopw [30] (fun si wr => ∃ k : Nat, si = .int .i64 (k : Int) ∧ k ≤ 16 ∧ Hid (TB w0 ad cr cb wr (upd X r (Lp.divS x (X r) k)) b) ∧ Hid (Kp ad W2 wr)) (fun si _ => 16 - (intOf si).toNat)
  case atStart => exact ⟨0, rfl, Nat.zero_le _, HTV2.out, Kp.refl _ _⟩
  case round =>
    obtain ⟨k, rfl, hk, hT, hK⟩ := hrel
    by_cases hlt : k < 16
    · have k0 := HCK.out k hlt _ hT.out
      have zk := HZ.out k hlt
      have i4 : (0 : Int) ≤ (k : Int) := by omega
      have i5 : (k : Int) < 16 := by omega
      by_cases hz : Lp.at_ (X r) k = 0
      · have T3 := Lib.hid (HSK.out k hlt hz _ hT.out)
        rw [decide_eq_true hz] at zk
        clear HDV HOF HCK HZ HSK HST HDR HXC HZC HPS HPE HP0 HNZ HEND hT hz
        generalize rtoa (Lp.at_ (X r) k) = tk at *
        go_wp2
        go_roundw
        case rel => exact ⟨k + 1, by go_num, by omega, T3.out, hK.out⟩
        case measure => simp [intOf]; omega
      · rw [decide_eq_false hz] at zk
        have HDV1 := Lib.hid (HDV.out k hlt)
        have HST1 := Lib.hid (HST.out k)
        have HCK1 := Lib.hid (HCK.out k hlt)
        have HALL := Lib.hid (fun (W' : World) (hb : Below wr.heap.size wr W') => by
          have T := hT.out.later hb
          have B := HBV2.out.kp (hK.out.trans (Kp.below hb))
          obtain ⟨t0, -, -, t3, -⟩ := T.tcell
          exact (⟨B.t, B.r, t0, t3, T.rcell hr⟩ : W'.cell? ⟨gt, 0, none⟩ = some (.pointer (some ⟨ad 10, 0, none⟩)) ∧ W'.cell? ⟨gr, 0, none⟩ = some (.int .i64 (r : Int)) ∧ W'.cell? ⟨ad 10, 0, none⟩ = some (.pointer (some ⟨ad 9, 0, none⟩)) ∧ W'.cell? ⟨ad 10, 3, none⟩ = some (.slice (some ⟨ad 8, 0, none⟩) 6 cr) ∧ W'.cell? ⟨ad 8, r, none⟩ = some (.slice (some ⟨ad r, 0, none⟩) 16 16)))
        have HOF1 := Lib.hid (fun (a : Txt) W' (hb : Below wr.heap.size wr W') => HOF.out a W' ⟨_, _, hT.out.later hb⟩)
        have hB := Below.refl wr.heap.size wr
        clear HDV HOF HCK HZ HSK HST HDR HXC HZC HPS HPE HP0 HEND hz HNZ
        generalize Lp.at_ (X r) k / x = q at *
        generalize Lp.at_ (X r) k = qk at *
        go_wp2_with fail
        refine Go.Front.wp_region_front (S := fun V => V.cell? ⟨gt, 0, none⟩ = some (.pointer (some ⟨ad 10, 0, none⟩)) ∧ V.cell? ⟨gr, 0, none⟩ = some (.int .i64 (r : Int)) ∧ V.cell? ⟨ad 10, 0, none⟩ = some (.pointer (some ⟨ad 9, 0, none⟩)) ∧ V.cell? ⟨ad 10, 3, none⟩ = some (.slice (some ⟨ad 8, 0, none⟩) 6 cr) ∧ V.cell? ⟨ad 8, r, none⟩ = some (.slice (some ⟨ad r, 0, none⟩) 16 16)) 18 (by kernel_rfl) (by simp) (by kernel_rfl) (by kernel_rfl) (by kernel_rfl) (by kernel_rfl) ?_ (fun hHeld => ?_)
        · (first | with_reducible exact HALL.out _ B3 | with_reducible exact HALL.out _ B2 | with_reducible exact HALL.out _ hB.drew)
        simp only [List.take_succ_cons, List.take_zero, List.drop_succ_cons, List.drop_zero]
        refine wpAnyH_take (i := 0) (v := ?_) rfl (by kernel_rfl) (by kernel_rfl) (by kernel_rfl) (fun _ _ _ h => h) (Or.inl ⟨by rfl, ?_⟩) hHeld ?_
        rotate_left
        · intro W hSw; (try dsimp only at hSw); go_simp <;> with_reducible rfl
        (try simp only [Act.put, List.setIfInBounds_toArray, List.set_cons_zero, List.set_cons_succ])
        refine wpAnyH_take (i := 1) (v := ?_) rfl (by kernel_rfl) (by kernel_rfl) (by kernel_rfl) (fun _ _ _ h => h) (Or.inl ⟨by rfl, ?_⟩) hHeld ?_
        rotate_left
        · intro W hSw; (try dsimp only at hSw); go_simp <;> with_reducible rfl
        (try simp only [Act.put, List.setIfInBounds_toArray, List.set_cons_zero, List.set_cons_succ])
        refine wpAnyH_take (i := 2) (v := ?_) rfl (by kernel_rfl) (by kernel_rfl) (by kernel_rfl) (fun _ _ _ h => h) (Or.inl ⟨by rfl, ?_⟩) hHeld ?_
        rotate_left
        · intro W hSw; (try dsimp only at hSw); go_simp <;> with_reducible rfl
        (try simp only [Act.put, List.setIfInBounds_toArray, List.set_cons_zero, List.set_cons_succ])
        refine wpAnyH_take (i := 3) (v := ?_) rfl (by kernel_rfl) (by kernel_rfl) (by kernel_rfl) (fun _ _ _ h => h) (Or.inl ⟨by rfl, ?_⟩) hHeld ?_
        rotate_left
        · intro W hSw; (try dsimp only at hSw); go_simp <;> with_reducible rfl
        (try simp only [Act.put, List.setIfInBounds_toArray, List.set_cons_zero, List.set_cons_succ])
        refine wpAnyH_take (i := 4) (v := ?_) rfl (by kernel_rfl) (by kernel_rfl) (by kernel_rfl) (fun _ _ _ h => h) (Or.inl ⟨by rfl, ?_⟩) hHeld ?_
        rotate_left
        · intro W hSw; (try dsimp only at hSw); go_simp <;> with_reducible rfl
        (try simp only [Act.put, List.setIfInBounds_toArray, List.set_cons_zero, List.set_cons_succ])
        refine wpAnyH_take (i := 5) (v := ?_) rfl (by kernel_rfl) (by kernel_rfl) (by kernel_rfl) (fun _ _ _ h => h) (Or.inl ⟨by rfl, ?_⟩) hHeld ?_
        rotate_left
        · intro W hSw; (try dsimp only at hSw); go_simp <;> with_reducible rfl
        (try simp only [Act.put, List.setIfInBounds_toArray, List.set_cons_zero, List.set_cons_succ])
        refine wpAnyH_take (i := 6) (v := ?_) rfl (by kernel_rfl) (by kernel_rfl) (by kernel_rfl) (fun _ _ _ h => h) (Or.inl ⟨by rfl, ?_⟩) hHeld ?_
        rotate_left
        · intro W hSw; (try dsimp only at hSw); go_simp <;> with_reducible rfl
        (try simp only [Act.put, List.setIfInBounds_toArray, List.set_cons_zero, List.set_cons_succ])
        refine wpAnyH_take (i := 7) (v := ?_) rfl (by kernel_rfl) (by kernel_rfl) (by kernel_rfl) (fun _ _ _ h => h) (Or.inl ⟨by rfl, ?_⟩) hHeld ?_
        rotate_left
        · intro W hSw; (try dsimp only at hSw); go_simp <;> with_reducible rfl
        (try simp only [Act.put, List.setIfInBounds_toArray, List.set_cons_zero, List.set_cons_succ])
        refine wpAnyH_take (i := 8) (v := ?_) rfl (by kernel_rfl) (by kernel_rfl) (by kernel_rfl) (fun _ _ _ h => h) (Or.inl ⟨by rfl, ?_⟩) hHeld ?_
        rotate_left
        · intro W hSw; (try dsimp only at hSw); go_simp <;> with_reducible rfl
        (try simp only [Act.put, List.setIfInBounds_toArray, List.set_cons_zero, List.set_cons_succ])
        refine wpAnyH_take (i := 9) (v := ?_) rfl (by kernel_rfl) (by kernel_rfl) (by kernel_rfl) (fun _ _ _ h => h) (Or.inl ⟨by rfl, ?_⟩) hHeld ?_
        rotate_left
        · intro W hSw; (try dsimp only at hSw); go_simp <;> with_reducible rfl
        (try simp only [Act.put, List.setIfInBounds_toArray, List.set_cons_zero, List.set_cons_succ])
        refine wpAnyH_take (i := 10) (v := ?_) rfl (by kernel_rfl) (by kernel_rfl) (by kernel_rfl) (fun _ _ _ h => h) (Or.inl ⟨by rfl, ?_⟩) hHeld ?_
        rotate_left
        · intro W hSw; (try dsimp only at hSw); go_simp <;> with_reducible rfl
        (try simp only [Act.put, List.setIfInBounds_toArray, List.set_cons_zero, List.set_cons_succ])
        refine wpAnyH_take (i := 11) (v := ?_) rfl (by kernel_rfl) (by kernel_rfl) (by kernel_rfl) (fun _ _ _ h => h) (Or.inl ⟨by rfl, ?_⟩) hHeld ?_
        rotate_left
        · intro W hSw; (try dsimp only at hSw); go_simp <;> with_reducible rfl
        (try simp only [Act.put, List.setIfInBounds_toArray, List.set_cons_zero, List.set_cons_succ])
        refine wpAnyH_take (i := 12) (v := ?_) rfl (by kernel_rfl) (by kernel_rfl) (by kernel_rfl) (fun _ _ _ h => h) (Or.inl ⟨by rfl, ?_⟩) hHeld ?_
        rotate_left
        · intro W hSw; (try dsimp only at hSw); go_simp <;> with_reducible rfl
        (try simp only [Act.put, List.setIfInBounds_toArray, List.set_cons_zero, List.set_cons_succ])
        refine wpAnyH_take (i := 13) (v := ?_) rfl (by kernel_rfl) (by kernel_rfl) (by kernel_rfl) (fun _ _ _ h => h) (Or.inl ⟨by rfl, ?_⟩) hHeld ?_
        rotate_left
        · intro W hSw; (try dsimp only at hSw); go_simp <;> with_reducible rfl
        (try simp only [Act.put, List.setIfInBounds_toArray, List.set_cons_zero, List.set_cons_succ])
        refine wpAnyH_ready (rs := [14]) (by kernel_rfl) (by simp) ?_
        refine AllReadyH.cons rfl (fun K hK => ?_) AllReadyH.nil
        go_simp
        ((with_reducible refine (HDV1.out _ hT.out.drew).mono ?_); rintro en w2 ⟨rfl, hb2⟩; have B2 := hB.drew.nxt hb2; go_simp)
        refine hK.out _ _ ?_ (fun hHeld => ?_)
        · ((try dsimp only); first | with_reducible exact HALL.out _ B3 | with_reducible exact HALL.out _ B2 | with_reducible exact HALL.out _ hB.drew)
        clear hK K
        (try simp only [Act.put, List.setIfInBounds_toArray, List.set_cons_zero, List.set_cons_succ])
        refine wpAnyH_take (i := 15) (v := ?_) rfl (by kernel_rfl) (by kernel_rfl) (by kernel_rfl) (fun _ _ _ h => h) (Or.inl ⟨by rfl, ?_⟩) hHeld ?_
        rotate_left
        · intro W hSw; (try dsimp only at hSw); go_simp <;> with_reducible rfl
        (try simp only [Act.put, List.setIfInBounds_toArray, List.set_cons_zero, List.set_cons_succ])
        refine wpAnyH_take (i := 16) (v := ?_) rfl (by kernel_rfl) (by kernel_rfl) (by kernel_rfl) (fun _ _ _ h => h) (Or.inl ⟨by rfl, ?_⟩) hHeld ?_
        rotate_left
        · intro W hSw; (try dsimp only at hSw); go_simp <;> with_reducible rfl
        (try simp only [Act.put, List.setIfInBounds_toArray, List.set_cons_zero, List.set_cons_succ])
        refine wpAnyH_ready (rs := [17]) (by kernel_rfl) (by simp) ?_
        refine AllReadyH.cons rfl (fun K hK => ?_) AllReadyH.nil
        go_simp
        ((with_reducible refine (HOF1.out _ _ B2).mono ?_); rintro en w3 ⟨rfl, hb3⟩; have B3 := B2.nxt hb3)
        refine hK.out _ _ ?_ (fun hHeld => ?_)
        · ((try dsimp only); first | with_reducible exact HALL.out _ B3 | with_reducible exact HALL.out _ B2 | with_reducible exact HALL.out _ hB.drew)
        clear hK K
        (try simp only [Act.put, List.setIfInBounds_toArray, List.set_cons_zero, List.set_cons_succ])
        refine wpAnyH_done (by kernel_rfl) ?_ _
        show wpList _ _ _ _ _ _
        have T2 := hT.out.later B3
        have T3 := Lib.hid (HST1.out _ T2)
        have K3 := Lib.hid ((hK.out.trans (Kp.below B3)).trans (Kp.set _ (show r < 11 by omega) k (.string ⟨(rtoa q).toArray⟩)))
        have f1 := T2.free (show r < 7 by omega) k
        have f2 := HCK1.out _ T2
        clear T2 hT hK HALL HDV1 HOF1 HST1 hHeld HCK1 B2 B3 hb2 hb3
        go_wp2
        go_roundw
        case rel => exact ⟨k + 1, by go_num, by omega, T3.out, K3.out⟩
        case measure => simp [intOf]; omega
    · obtain rfl : k = 16 := by omega
      rw [show ((16 : Nat) : Int) = 16 from rfl]
      have hT1 := hT.out
      rw [HEND.out] at hT1
      have HT1 := Lib.hid (HP0.out _ hT1)
      clear hT1 hT HP0 HEND HDV HCK HZ HSK HST HTV2 HOF HNZ
      have HBW := Lib.hid (HBV2.out.kp hK.out)
      have HKW := Lib.hid (HKV2.out.trans hK.out)
      obtain ⟨t0, -, -, t3, -⟩ := HT1.out.tcell
      have b0 := HBW.out.t
      clear hK HBV2 HKV2
      go_wp2_with fail
      clear t0 t3 b0
      go_loopw [63] (fun si wq => ∃ i : Nat, si = .int .i64 (i : Int) ∧ i ≤ 6 ∧ Hid (TB w0 ad cr cb wq (pvS X ys r c i) b) ∧ Hid (Kp ad wr wq)) (fun si _ => 6 - (intOf si).toNat)
      case atStart => exact ⟨0, rfl, Nat.zero_le _, HT1.out, Kp.refl _ _⟩
      case round =>
        obtain ⟨i, rfl, hi, hT, hK⟩ := hrel
        by_cases hlt : i < 6
        · have r1 := hT.out.rcell hlt
          have hbx := HBW.out.kp hK.out
          have b1 := hbx.r
          have b2 := hbx.c
          have i4 : (0 : Int) ≤ (i : Int) := by omega
          have i5 : (i : Int) < 6 := by omega
          by_cases hir : i = r
          · have T3 := Lib.hid (HPS.out i (.inl hir) _ hT.out)
            have y1 : ((i : Int) != (r : Int)) = false := by rw [hir]; simp
            clear HDR HXC HZC HPS HPE hT hbx hir
            go_wp2
            go_roundw
            case rel => exact ⟨i + 1, by go_num, by omega, T3.out, hK.out⟩
            case measure => simp [intOf]; omega
          · have y1 : ((i : Int) != (r : Int)) = true := by rw [bne_iff_ne]; omega
            have x1 := HXC.out i hlt hir _ hT.out
            have zc := HZC.out i
            by_cases hz : Lp.at_ (X i) c = 0
            · have T3 := Lib.hid (HPS.out i (.inr hz) _ hT.out)
              rw [decide_eq_true hz] at zc
              clear HDR HXC HZC HPS HPE hT hbx hz hir
              generalize rtoa (Lp.at_ (X i) c) = tc at *
              go_wp2
              go_roundw
              case rel => exact ⟨i + 1, by go_num, by omega, T3.out, hK.out⟩
              case measure => simp [intOf]; omega
            · rw [decide_eq_false hz] at zc
              have HD := Lib.hid (HDR.out i (by omega) (Ne.symm hir) _ hT.out _ _ _ hbx)
              clear HDR HXC HZC HPS HPE hT hbx hz hir
              generalize rtoa (Lp.at_ (X i) c) = tc at *
              go_wp2_with fail
              ((with_reducible refine HD.out.mono ?_); rintro en w5 ⟨rfl, hT5, hK5⟩)
              have T3 := Lib.hid hT5
              have K3 := Lib.hid (hK.out.trans hK5)
              clear hT5 hK5 hK HD r1 b1 b2 x1
              go_wp2
              go_roundw
              case rel => exact ⟨i + 1, by go_num, by omega, T3.out, K3.out⟩
              case measure => simp [intOf]; omega
        · obtain rfl : i = 6 := by omega
          rw [show ((6 : Nat) : Int) = 6 from rfl]
          have HBQ := Lib.hid (HBW.out.kp hK.out)
          have HKQ := Lib.hid (HKW.out.trans hK.out)
          have HD := Lib.hid (HDR.out 6 (by omega) (by omega) _ hT.out _ _ _ HBQ.out)
          obtain ⟨-, -, -, -, -, t5⟩ := hT.out.tcell
          have b0 := HBQ.out.t
          clear HDR HXC HZC HPS hT hK HBW HKW
          go_wp2_with fail
          ((with_reducible refine HD.out.mono ?_); rintro en w5 ⟨rfl, hT5, hK5⟩)
          clear HD t5 b0
          have HT5 := Lib.hid hT5
          have HB5 := Lib.hid (HBQ.out.kp hK5)
          have HK5 := Lib.hid (HKQ.out.trans hK5)
          clear hT5 hK5 HBQ HKQ
          have HALL := Lib.hid (fun (W' : World) (hb : Below w5.heap.size w5 W') => by
            have T := HT5.out.later hb
            have B := HB5.out.kp (Kp.below hb)
            obtain ⟨-, -, -, -, t4, -⟩ := T.tcell
            exact (⟨B.t, B.r, B.c, t4⟩ : W'.cell? ⟨gt, 0, none⟩ = some (.pointer (some ⟨ad 10, 0, none⟩)) ∧ W'.cell? ⟨gr, 0, none⟩ = some (.int .i64 (r : Int)) ∧ W'.cell? ⟨gc, 0, none⟩ = some (.int .i64 (c : Int)) ∧ W'.cell? ⟨ad 10, 4, none⟩ = some (.slice (some ⟨ad 7, 0, none⟩) 6 cb)))
          have hB := Below.refl w5.heap.size w5
          go_wp2_with fail
          refine Go.Front.wp_region_front (S := fun V => V.cell? ⟨gt, 0, none⟩ = some (.pointer (some ⟨ad 10, 0, none⟩)) ∧ V.cell? ⟨gr, 0, none⟩ = some (.int .i64 (r : Int)) ∧ V.cell? ⟨gc, 0, none⟩ = some (.int .i64 (c : Int)) ∧ V.cell? ⟨ad 10, 4, none⟩ = some (.slice (some ⟨ad 7, 0, none⟩) 6 cb)) 6 (by kernel_rfl) (by simp) (by kernel_rfl) (by kernel_rfl) (by kernel_rfl) (by kernel_rfl) ?_ (fun hHeld => ?_)
          · (first | with_reducible exact HALL.out _ hB.drew)
          simp only [List.take_succ_cons, List.take_zero, List.drop_succ_cons, List.drop_zero]
          refine wpAnyH_take (i := 0) (v := ?_) rfl (by kernel_rfl) (by kernel_rfl) (by kernel_rfl) (fun _ _ _ h => h) (Or.inl ⟨by rfl, ?_⟩) hHeld ?_
          rotate_left
          · intro W hSw; (try dsimp only at hSw); go_simp <;> with_reducible rfl
          (try simp only [Act.put, List.setIfInBounds_toArray, List.set_cons_zero, List.set_cons_succ])
          refine wpAnyH_take (i := 1) (v := ?_) rfl (by kernel_rfl) (by kernel_rfl) (by kernel_rfl) (fun _ _ _ h => h) (Or.inl ⟨by rfl, ?_⟩) hHeld ?_
          rotate_left
          · intro W hSw; (try dsimp only at hSw); go_simp <;> with_reducible rfl
          (try simp only [Act.put, List.setIfInBounds_toArray, List.set_cons_zero, List.set_cons_succ])
          refine wpAnyH_take (i := 2) (v := ?_) rfl (by kernel_rfl) (by kernel_rfl) (by kernel_rfl) (fun _ _ _ h => h) (Or.inl ⟨by rfl, ?_⟩) hHeld ?_
          rotate_left
          · intro W hSw; (try dsimp only at hSw); go_simp <;> with_reducible rfl
          (try simp only [Act.put, List.setIfInBounds_toArray, List.set_cons_zero, List.set_cons_succ])
          refine wpAnyH_take (i := 3) (v := ?_) rfl (by kernel_rfl) (by kernel_rfl) (by kernel_rfl) (fun _ _ _ h => h) (Or.inl ⟨by rfl, ?_⟩) hHeld ?_
          rotate_left
          · intro W hSw; (try dsimp only at hSw); go_simp <;> with_reducible rfl
          (try simp only [Act.put, List.setIfInBounds_toArray, List.set_cons_zero, List.set_cons_succ])
          refine wpAnyH_take (i := 4) (v := ?_) rfl (by kernel_rfl) (by kernel_rfl) (by kernel_rfl) (fun _ _ _ h => h) (Or.inl ⟨by rfl, ?_⟩) hHeld ?_
          rotate_left
          · intro W hSw; (try dsimp only at hSw); go_simp <;> with_reducible rfl
          (try simp only [Act.put, List.setIfInBounds_toArray, List.set_cons_zero, List.set_cons_succ])
          refine wpAnyH_take (i := 5) (v := ?_) rfl (by kernel_rfl) (by kernel_rfl) (by kernel_rfl) (fun _ _ _ h => h) (Or.inl ⟨by rfl, ?_⟩) hHeld ?_
          rotate_left
          · intro W hSw; (try dsimp only at hSw); go_simp <;> with_reducible rfl
          (try simp only [Act.put, List.setIfInBounds_toArray, List.set_cons_zero, List.set_cons_succ])
          refine wpAnyH_done (by kernel_rfl) ?_ _
          show wpList _ _ _ _ _ _
          have f1 := HT5.out.drew.bfree r
          have f2 := HT5.out.drew.bcell hr
          have HT6 := Lib.hid (HPE.out _ HT5.out.drew)
          have HK6 := Lib.hid ((HK5.out.drew).trans (Kp.set _ (show 7 < 11 by omega) r (.int .i64 (c : Int))))
          clear HALL hB hHeld HT5 HK5 HB5 HPE
          go_wp2
          refine bodyPost_ret (results_none rfl _ _ _) rfl ?_
          exact ⟨rfl, HT6.out, HK6.out⟩
end Go.Proofs.Wk
/- LINEAR PROGRAMS: the row that leaves. -/
namespace Go.Proofs.Wk
open Go.RowKit Mt

/-- What a table says of its rows and its goal. -/
def tX (t : Lp.Tab) : Nat → List Rat := fun i => if i = 6 then t.goal else t.row i
theorem tX_row (t : Lp.Tab) {i : Nat} (h : i < 6) : tX t i = t.row i := if_neg (by omega)
theorem tX_goal (t : Lp.Tab) : tX t 6 = t.goal := if_pos rfl
theorem tX_sm {t : Lp.Tab} (h : Lp.SmT t) : ∀ i, i < 7 → Lp.smL (tX t i) = true := fun i hi => by
  by_cases e : i = 6
  · rw [e, tX_goal]; exact h.goal
  · rw [tX_row t (by omega)]; exact h.row i (by omega)
theorem cmp3 (p q : Rat) : (p < q ∧ cmpQ p q = -1) ∨ (p = q ∧ cmpQ p q = 0) ∨ (q < p ∧ cmpQ p q = 1) := by
  rw [cmpQ_sub]
  rcases sgnQ_spec (p - q) with ⟨h, e⟩ | ⟨h, e⟩ | ⟨h, e⟩
  · exact .inl ⟨by grind, e⟩
  · exact .inr (.inl ⟨by grind, e⟩)
  · exact .inr (.inr ⟨by grind, e⟩)
theorem lv_sz {t : Lp.Tab} (ht : Lp.SmT t) {c : Nat} (hc : c < 16) : ∀ i, i ≤ 6 → szQ (Lp.leavS t c i).2 8 ∧ ((Lp.leavS t c i).1 = -1 ∨ ∃ j : Nat, j < i ∧ (Lp.leavS t c i).1 = (j : Int))
  | 0, _ => ⟨szQ_zero.mono (by omega), .inl rfl⟩
  | i + 1, hi => by
    obtain ⟨h1, h2⟩ := lv_sz ht hc i (by omega)
    have h3 : (Lp.leavS t c i).1 = -1 ∨ ∃ j : Nat, j < i + 1 ∧ (Lp.leavS t c i).1 = (j : Int) := h2.imp id fun ⟨j, h, e⟩ => ⟨j, by omega, e⟩
    rw [Lp.leavS]
    split
    · exact ⟨h1, h3⟩
    · rename_i hp
      split
      · exact ⟨szQ_div (sm_sz (Lp.smL_at (ht.row i (by omega)) (by omega))) (sm_sz (Lp.smL_at (ht.row i (by omega)) hc)) (fun e => hp (by rw [e]; exact Rat.le_refl)), .inr ⟨i, by omega, rfl⟩⟩
      · exact ⟨h1, h3⟩
theorem lv_skip {t : Lp.Tab} {c i : Nat} (h : Lp.at_ (t.row i) c ≤ 0) : Lp.leavS t c (i + 1) = Lp.leavS t c i := by rw [Lp.leavS, if_pos h]
theorem lv_take {t : Lp.Tab} {c i : Nat} (h : ¬ Lp.at_ (t.row i) c ≤ 0)
    (k : (Lp.leavS t c i).1 < 0 ∨ Lp.at_ (t.row i) 15 / Lp.at_ (t.row i) c < (Lp.leavS t c i).2 ∨ Lp.at_ (t.row i) 15 / Lp.at_ (t.row i) c = (Lp.leavS t c i).2 ∧ t.bas i < t.bas (Lp.leavS t c i).1.toNat) :
    Lp.leavS t c (i + 1) = ((i : Int), Lp.at_ (t.row i) 15 / Lp.at_ (t.row i) c) := by rw [Lp.leavS, if_neg h, if_pos k]
theorem lv_keep {t : Lp.Tab} {c i : Nat} (h : ¬ Lp.at_ (t.row i) c ≤ 0)
    (k : ¬ ((Lp.leavS t c i).1 < 0 ∨ Lp.at_ (t.row i) 15 / Lp.at_ (t.row i) c < (Lp.leavS t c i).2 ∨ Lp.at_ (t.row i) 15 / Lp.at_ (t.row i) c = (Lp.leavS t c i).2 ∧ t.bas i < t.bas (Lp.leavS t c i).1.toNat)) :
    Lp.leavS t c (i + 1) = Lp.leavS t c i := by rw [Lp.leavS, if_neg h, if_neg k]
set_option maxRecDepth 100000 in
set_option linter.unusedSimpArgs false in
set_option maxHeartbeats 4000000 in
theorem leaving_c {w0 W : World} (hg : Good w0) {ad : Nat → Nat} {cr cb : Nat} {t : Lp.Tab} (ht : Lp.SmT t) (h : TB w0 ad cr cb W (tX t) t.bas) {c : Nat} (hc : c < 15) :
    Calls Tryz.prog 111 #[.pointer (some ⟨ad 10, 0, none⟩), .int .i64 (c : Int)] W (Ret W (.int .i64 (Lp.leavS t c 6).1)) := by
  have HT := Lib.hid (fun W' (k : Below W.heap.size W W') => h.later k)
  have HCP := Lib.hid (fun i (hi : i < 6) W' (k : Below W.heap.size W W') => (by
    have T := h.later k
    have q1 := T.cell (show i < 7 by omega) (show c < 16 by omega)
    have q2 := T.cell (show i < 7 by omega) (show 15 < 16 by omega)
    rw [tX_row t hi] at q1 q2
    exact ⟨q1, q2⟩ : W'.cell? ⟨ad i, c, none⟩ = some ((Value.string ⟨(rtoa (Lp.at_ (t.row i) c)).toArray⟩)) ∧ W'.cell? ⟨ad i, 15, none⟩ = some ((Value.string ⟨(rtoa (Lp.at_ (t.row i) 15)).toArray⟩))))
  have HSG := Lib.hid (fun i (hi : i < 6) W' (k : Below W.heap.size W W') => psign_c (sm_sz (Lp.smL_at (ht.row i hi) (show c < 16 by omega))) (by omega) (ad 9) W' ((h.later k).good hg) (h.later k).sum)
  have HDV := Lib.hid (fun i (hi : i < 6) (hp : ¬ Lp.at_ (t.row i) c ≤ 0) W' (k : Below W.heap.size W W') => ldiv_c (sm_sz (Lp.smL_at (ht.row i hi) (show 15 < 16 by omega))) (sm_sz (Lp.smL_at (ht.row i hi) (show c < 16 by omega))) (by omega) (fun e => hp (by rw [e]; exact Rat.le_refl)) W' ((h.later k).good hg))
  have HOF := Lib.hid (fun (a : Txt) W' (k : Below W.heap.size W W') => pof_c a (ad 9) W' (h.later k).sum)
  have HWD := Lib.hid (fun W' (k : Below W.heap.size W W') => pwidth_c (h.later k))
  have HCM := Lib.hid (fun i (hi : i < 6) (hp : ¬ Lp.at_ (t.row i) c ≤ 0) W' (k : Below W.heap.size W W') => lcmp_c (szQ_div (sm_sz (Lp.smL_at (ht.row i hi) (show 15 < 16 by omega))) (sm_sz (Lp.smL_at (ht.row i hi) (show c < 16 by omega))) (fun e => hp (by rw [e]; exact Rat.le_refl))) (lv_sz ht (show c < 16 by omega) i (by omega)).1 (by omega) W' ((h.later k).good hg))
  have HBD := Lib.hid (fun i (hi : i < 6) => (lv_sz ht (show c < 16 by omega) i (by omega)).2)
  have HSP := Lib.hid (fun i => sgnQ_spec (Lp.at_ (t.row i) c))
  have HL0 := Lib.hid (show rtoa (Lp.leavS t c 0).2 = [48] from rtoa_zero)
  have i0 : (0 : Int) ≤ (c : Int) := by omega
  have i1 : (c : Int) < 16 := by omega
  obtain ⟨-, -, -, t3, -⟩ := h.tcell
  clear h
  go_enter Tryz.func111, Tryz.ntmps111
  go_wp2_with fail
  clear t3
  go_loopw [5, 6, 17] (fun sb sl si wr => ∃ i : Nat, si = .int .i64 (i : Int) ∧ i ≤ 6 ∧ sb = .int .i64 (Lp.leavS t c i).1 ∧ sl = (Value.string ⟨(rtoa (Lp.leavS t c i).2).toArray⟩) ∧ Hid (Below W.heap.size W wr)) (fun _ _ si _ => 6 - (intOf si).toNat)
  case atStart => exact ⟨0, rfl, Nat.zero_le _, rfl, by rw [HL0.out], Below.refl _ _⟩
  case round =>
    clear HL0
    obtain ⟨i, rfl, hi, rfl, rfl, hB0⟩ := hrel
    by_cases hlt : i < 6
    · have r1 := (HT.out _ hB0.out).rcell hlt
      have i4 : (0 : Int) ≤ (i : Int) := by omega
      have i5 : (i : Int) < 6 := by omega
      have HC1 := Lib.hid (HCP.out i hlt)
      have HS1 := Lib.hid (HSG.out i hlt)
      have HALL := Lib.hid (fun (W' : World) (hb : Below wr.heap.size wr W') => by
        have T := HT.out _ (hB0.out.nxt hb)
        obtain ⟨t0, -⟩ := T.tcell
        obtain ⟨q1, q2⟩ := HC1.out _ (hB0.out.nxt hb)
        exact (⟨t0, q1, q2⟩ : W'.cell? ⟨ad 10, 0, none⟩ = some (.pointer (some ⟨ad 9, 0, none⟩)) ∧ W'.cell? ⟨ad i, c, none⟩ = some ((Value.string ⟨(rtoa (Lp.at_ (t.row i) c)).toArray⟩)) ∧ W'.cell? ⟨ad i, 15, none⟩ = some ((Value.string ⟨(rtoa (Lp.at_ (t.row i) 15)).toArray⟩))))
      have hB := Below.refl wr.heap.size wr
      have hsp := HSP.out i
      have hbd := HBD.out i hlt
      by_cases hp : Lp.at_ (t.row i) c ≤ 0
      · have HE := Lib.hid (lv_skip hp)
        have y1 : decide (sgnQ (Lp.at_ (t.row i) c) ≤ 0) = true := decide_eq_true (by rcases hsp with ⟨-, e⟩ | ⟨-, e⟩ | ⟨e, -⟩ <;> first | (rw [e]; omega) | exact absurd hp (by grind))
        clear HCP HSG HDV HCM HBD HSP HC1 hsp hbd hp HWD HOF
        generalize rtoa (Lp.at_ (t.row i) c) = tp at *
        generalize rtoa (Lp.at_ (t.row i) 15) = tv at *
        generalize sgnQ (Lp.at_ (t.row i) c) = sg at *
        go_wp2_with fail
        refine Go.Front.wp_region_front (S := fun V => V.cell? ⟨ad 10, 0, none⟩ = some (.pointer (some ⟨ad 9, 0, none⟩)) ∧ V.cell? ⟨ad i, c, none⟩ = some (.string ⟨tp.toArray⟩) ∧ V.cell? ⟨ad i, 15, none⟩ = some (.string ⟨tv.toArray⟩)) 9 (by kernel_rfl) (by simp) (by kernel_rfl) (by kernel_rfl) (by kernel_rfl) (by kernel_rfl) ?_ (fun hHeld => ?_)
        · (first | with_reducible exact HALL.out _ B2 | with_reducible exact HALL.out _ hB.drew)
        simp only [List.take_succ_cons, List.take_zero, List.drop_succ_cons, List.drop_zero]
        refine wpAnyH_take (i := 0) (v := ?_) rfl (by kernel_rfl) (by kernel_rfl) (by kernel_rfl) (fun _ _ _ h => h) (Or.inl ⟨by rfl, ?_⟩) hHeld ?_
        rotate_left
        · intro W hSw; (try dsimp only at hSw); go_simp <;> with_reducible rfl
        (try simp only [Act.put, List.setIfInBounds_toArray, List.set_cons_zero, List.set_cons_succ])
        refine wpAnyH_take (i := 1) (v := ?_) rfl (by kernel_rfl) (by kernel_rfl) (by kernel_rfl) (fun _ _ _ h => h) (Or.inl ⟨by rfl, ?_⟩) hHeld ?_
        rotate_left
        · intro W hSw; (try dsimp only at hSw); go_simp <;> with_reducible rfl
        (try simp only [Act.put, List.setIfInBounds_toArray, List.set_cons_zero, List.set_cons_succ])
        refine wpAnyH_take (i := 2) (v := ?_) rfl (by kernel_rfl) (by kernel_rfl) (by kernel_rfl) (fun _ _ _ h => h) (Or.inl ⟨by rfl, ?_⟩) hHeld ?_
        rotate_left
        · intro W hSw; (try dsimp only at hSw); go_simp <;> with_reducible rfl
        (try simp only [Act.put, List.setIfInBounds_toArray, List.set_cons_zero, List.set_cons_succ])
        refine wpAnyH_take (i := 3) (v := ?_) rfl (by kernel_rfl) (by kernel_rfl) (by kernel_rfl) (fun _ _ _ h => h) (Or.inl ⟨by rfl, ?_⟩) hHeld ?_
        rotate_left
        · intro W hSw; (try dsimp only at hSw); go_simp <;> with_reducible rfl
        (try simp only [Act.put, List.setIfInBounds_toArray, List.set_cons_zero, List.set_cons_succ])
        refine wpAnyH_take (i := 4) (v := ?_) rfl (by kernel_rfl) (by kernel_rfl) (by kernel_rfl) (fun _ _ _ h => h) (Or.inl ⟨by rfl, ?_⟩) hHeld ?_
        rotate_left
        · intro W hSw; (try dsimp only at hSw); go_simp <;> with_reducible rfl
        (try simp only [Act.put, List.setIfInBounds_toArray, List.set_cons_zero, List.set_cons_succ])
        refine wpAnyH_take (i := 5) (v := ?_) rfl (by kernel_rfl) (by kernel_rfl) (by kernel_rfl) (fun _ _ _ h => h) (Or.inl ⟨by rfl, ?_⟩) hHeld ?_
        rotate_left
        · intro W hSw; (try dsimp only at hSw); go_simp <;> with_reducible rfl
        (try simp only [Act.put, List.setIfInBounds_toArray, List.set_cons_zero, List.set_cons_succ])
        refine wpAnyH_take (i := 6) (v := ?_) rfl (by kernel_rfl) (by kernel_rfl) (by kernel_rfl) (fun _ _ _ h => h) (Or.inl ⟨by rfl, ?_⟩) hHeld ?_
        rotate_left
        · intro W hSw; (try dsimp only at hSw); go_simp <;> with_reducible rfl
        (try simp only [Act.put, List.setIfInBounds_toArray, List.set_cons_zero, List.set_cons_succ])
        refine wpAnyH_take (i := 7) (v := ?_) rfl (by kernel_rfl) (by kernel_rfl) (by kernel_rfl) (fun _ _ _ h => h) (Or.inl ⟨by rfl, ?_⟩) hHeld ?_
        rotate_left
        · intro W hSw; (try dsimp only at hSw); go_simp <;> with_reducible rfl
        (try simp only [Act.put, List.setIfInBounds_toArray, List.set_cons_zero, List.set_cons_succ])
        refine wpAnyH_ready (rs := [8]) (by kernel_rfl) (by simp) ?_
        refine AllReadyH.cons rfl (fun K hK => ?_) AllReadyH.nil
        go_simp
        ((with_reducible refine (HS1.out _ (hB0.out.nxt hB.drew)).mono ?_); rintro en w2 ⟨rfl, hb2⟩; have B2 := hB.drew.nxt hb2)
        refine hK.out _ _ ?_ (fun hHeld => ?_)
        · ((try dsimp only); first | with_reducible exact HALL.out _ B2 | with_reducible exact HALL.out _ hB.drew)
        clear hK K
        (try simp only [Act.put, List.setIfInBounds_toArray, List.set_cons_zero, List.set_cons_succ])
        refine wpAnyH_done (by kernel_rfl) ?_ _
        show wpList _ _ _ _ _ _
        have HB8 := Lib.hid (hB0.out.nxt B2)
        clear HALL hHeld B2 hb2 hB HS1 r1 hB0
        go_wp2
        go_roundw
        case rel => exact ⟨i + 1, by go_num, by omega, by rw [HE.out], by rw [HE.out], HB8.out⟩
        case measure => simp [intOf]; omega
      · have y1 : decide (sgnQ (Lp.at_ (t.row i) c) ≤ 0) = false := decide_eq_false (by rcases hsp with ⟨e, -⟩ | ⟨e, -⟩ | ⟨-, e⟩ <;> first | (rw [e]; omega) | exact absurd (show Lp.at_ (t.row i) c ≤ 0 by grind) hp)
        have HDV1 := Lib.hid (HDV.out i hlt hp)
        have HCM1 := Lib.hid (HCM.out i hlt hp)
        have HTK := Lib.hid (lv_take (t := t) (c := c) (i := i) hp)
        have HKP := Lib.hid (lv_keep (t := t) (c := c) (i := i) hp)
        have HC3 := Lib.hid (cmp3 (Lp.at_ (t.row i) 15 / Lp.at_ (t.row i) c) (Lp.leavS t c i).2)
        clear HCP HSG HDV HCM HBD HSP HC1 hsp hp
        generalize Lp.at_ (t.row i) 15 / Lp.at_ (t.row i) c = q at *
        generalize rtoa (Lp.at_ (t.row i) c) = tp at *
        generalize rtoa (Lp.at_ (t.row i) 15) = tv at *
        generalize sgnQ (Lp.at_ (t.row i) c) = sg at *
        obtain ⟨bl, hbl⟩ : ∃ z, Lp.leavS t c i = z := ⟨_, rfl⟩
        rw [hbl] at HTK HKP HC3 HCM1 hbd
        rw [hbl]
        clear hbl
        obtain ⟨be, le⟩ := bl
        simp only at HTK HKP HC3 HCM1 hbd
        simp only
        go_wp2_with fail
        refine Go.Front.wp_region_front (S := fun V => V.cell? ⟨ad 10, 0, none⟩ = some (.pointer (some ⟨ad 9, 0, none⟩)) ∧ V.cell? ⟨ad i, c, none⟩ = some (.string ⟨tp.toArray⟩) ∧ V.cell? ⟨ad i, 15, none⟩ = some (.string ⟨tv.toArray⟩)) 9 (by kernel_rfl) (by simp) (by kernel_rfl) (by kernel_rfl) (by kernel_rfl) (by kernel_rfl) ?_ (fun hHeld => ?_)
        · (first | with_reducible exact HALL.out _ B2 | with_reducible exact HALL.out _ hB.drew)
        simp only [List.take_succ_cons, List.take_zero, List.drop_succ_cons, List.drop_zero]
        refine wpAnyH_take (i := 0) (v := ?_) rfl (by kernel_rfl) (by kernel_rfl) (by kernel_rfl) (fun _ _ _ h => h) (Or.inl ⟨by rfl, ?_⟩) hHeld ?_
        rotate_left
        · intro W hSw; (try dsimp only at hSw); go_simp <;> with_reducible rfl
        (try simp only [Act.put, List.setIfInBounds_toArray, List.set_cons_zero, List.set_cons_succ])
        refine wpAnyH_take (i := 1) (v := ?_) rfl (by kernel_rfl) (by kernel_rfl) (by kernel_rfl) (fun _ _ _ h => h) (Or.inl ⟨by rfl, ?_⟩) hHeld ?_
        rotate_left
        · intro W hSw; (try dsimp only at hSw); go_simp <;> with_reducible rfl
        (try simp only [Act.put, List.setIfInBounds_toArray, List.set_cons_zero, List.set_cons_succ])
        refine wpAnyH_take (i := 2) (v := ?_) rfl (by kernel_rfl) (by kernel_rfl) (by kernel_rfl) (fun _ _ _ h => h) (Or.inl ⟨by rfl, ?_⟩) hHeld ?_
        rotate_left
        · intro W hSw; (try dsimp only at hSw); go_simp <;> with_reducible rfl
        (try simp only [Act.put, List.setIfInBounds_toArray, List.set_cons_zero, List.set_cons_succ])
        refine wpAnyH_take (i := 3) (v := ?_) rfl (by kernel_rfl) (by kernel_rfl) (by kernel_rfl) (fun _ _ _ h => h) (Or.inl ⟨by rfl, ?_⟩) hHeld ?_
        rotate_left
        · intro W hSw; (try dsimp only at hSw); go_simp <;> with_reducible rfl
        (try simp only [Act.put, List.setIfInBounds_toArray, List.set_cons_zero, List.set_cons_succ])
        refine wpAnyH_take (i := 4) (v := ?_) rfl (by kernel_rfl) (by kernel_rfl) (by kernel_rfl) (fun _ _ _ h => h) (Or.inl ⟨by rfl, ?_⟩) hHeld ?_
        rotate_left
        · intro W hSw; (try dsimp only at hSw); go_simp <;> with_reducible rfl
        (try simp only [Act.put, List.setIfInBounds_toArray, List.set_cons_zero, List.set_cons_succ])
        refine wpAnyH_take (i := 5) (v := ?_) rfl (by kernel_rfl) (by kernel_rfl) (by kernel_rfl) (fun _ _ _ h => h) (Or.inl ⟨by rfl, ?_⟩) hHeld ?_
        rotate_left
        · intro W hSw; (try dsimp only at hSw); go_simp <;> with_reducible rfl
        (try simp only [Act.put, List.setIfInBounds_toArray, List.set_cons_zero, List.set_cons_succ])
        refine wpAnyH_take (i := 6) (v := ?_) rfl (by kernel_rfl) (by kernel_rfl) (by kernel_rfl) (fun _ _ _ h => h) (Or.inl ⟨by rfl, ?_⟩) hHeld ?_
        rotate_left
        · intro W hSw; (try dsimp only at hSw); go_simp <;> with_reducible rfl
        (try simp only [Act.put, List.setIfInBounds_toArray, List.set_cons_zero, List.set_cons_succ])
        refine wpAnyH_take (i := 7) (v := ?_) rfl (by kernel_rfl) (by kernel_rfl) (by kernel_rfl) (fun _ _ _ h => h) (Or.inl ⟨by rfl, ?_⟩) hHeld ?_
        rotate_left
        · intro W hSw; (try dsimp only at hSw); go_simp <;> with_reducible rfl
        (try simp only [Act.put, List.setIfInBounds_toArray, List.set_cons_zero, List.set_cons_succ])
        refine wpAnyH_ready (rs := [8]) (by kernel_rfl) (by simp) ?_
        refine AllReadyH.cons rfl (fun K hK => ?_) AllReadyH.nil
        go_simp
        ((with_reducible refine (HS1.out _ (hB0.out.nxt hB.drew)).mono ?_); rintro en w2 ⟨rfl, hb2⟩; have B2 := hB.drew.nxt hb2)
        refine hK.out _ _ ?_ (fun hHeld => ?_)
        · ((try dsimp only); first | with_reducible exact HALL.out _ B2 | with_reducible exact HALL.out _ hB.drew)
        clear hK K
        (try simp only [Act.put, List.setIfInBounds_toArray, List.set_cons_zero, List.set_cons_succ])
        refine wpAnyH_done (by kernel_rfl) ?_ _
        show wpList _ _ _ _ _ _
        clear hHeld hb2 HS1
        go_wp2_with fail
        refine Go.Front.wp_region_front (S := fun V => V.cell? ⟨ad 10, 0, none⟩ = some (.pointer (some ⟨ad 9, 0, none⟩)) ∧ V.cell? ⟨ad i, c, none⟩ = some (.string ⟨tp.toArray⟩) ∧ V.cell? ⟨ad i, 15, none⟩ = some (.string ⟨tv.toArray⟩)) 17 (by kernel_rfl) (by simp) (by kernel_rfl) (by kernel_rfl) (by kernel_rfl) (by kernel_rfl) ?_ (fun hHeld => ?_)
        · (first | with_reducible exact HALL.out _ B5 | with_reducible exact HALL.out _ B4 | with_reducible exact HALL.out _ B3 | with_reducible exact HALL.out _ B2.drew)
        simp only [List.take_succ_cons, List.take_zero, List.drop_succ_cons, List.drop_zero]
        refine wpAnyH_take (i := 0) (v := ?_) rfl (by kernel_rfl) (by kernel_rfl) (by kernel_rfl) (fun _ _ _ h => h) (Or.inl ⟨by rfl, ?_⟩) hHeld ?_
        rotate_left
        · intro W hSw; (try dsimp only at hSw); go_simp <;> with_reducible rfl
        (try simp only [Act.put, List.setIfInBounds_toArray, List.set_cons_zero, List.set_cons_succ])
        refine wpAnyH_take (i := 1) (v := ?_) rfl (by kernel_rfl) (by kernel_rfl) (by kernel_rfl) (fun _ _ _ h => h) (Or.inl ⟨by rfl, ?_⟩) hHeld ?_
        rotate_left
        · intro W hSw; (try dsimp only at hSw); go_simp <;> with_reducible rfl
        (try simp only [Act.put, List.setIfInBounds_toArray, List.set_cons_zero, List.set_cons_succ])
        refine wpAnyH_take (i := 2) (v := ?_) rfl (by kernel_rfl) (by kernel_rfl) (by kernel_rfl) (fun _ _ _ h => h) (Or.inl ⟨by rfl, ?_⟩) hHeld ?_
        rotate_left
        · intro W hSw; (try dsimp only at hSw); go_simp <;> with_reducible rfl
        (try simp only [Act.put, List.setIfInBounds_toArray, List.set_cons_zero, List.set_cons_succ])
        refine wpAnyH_take (i := 3) (v := ?_) rfl (by kernel_rfl) (by kernel_rfl) (by kernel_rfl) (fun _ _ _ h => h) (Or.inl ⟨by rfl, ?_⟩) hHeld ?_
        rotate_left
        · intro W hSw; (try dsimp only at hSw); go_simp <;> with_reducible rfl
        (try simp only [Act.put, List.setIfInBounds_toArray, List.set_cons_zero, List.set_cons_succ])
        refine wpAnyH_take (i := 4) (v := ?_) rfl (by kernel_rfl) (by kernel_rfl) (by kernel_rfl) (fun _ _ _ h => h) (Or.inl ⟨by rfl, ?_⟩) hHeld ?_
        rotate_left
        · intro W hSw; (try dsimp only at hSw); go_simp <;> with_reducible rfl
        (try simp only [Act.put, List.setIfInBounds_toArray, List.set_cons_zero, List.set_cons_succ])
        refine wpAnyH_take (i := 5) (v := ?_) rfl (by kernel_rfl) (by kernel_rfl) (by kernel_rfl) (fun _ _ _ h => h) (Or.inl ⟨by rfl, ?_⟩) hHeld ?_
        rotate_left
        · intro W hSw; (try dsimp only at hSw); go_simp <;> with_reducible rfl
        (try simp only [Act.put, List.setIfInBounds_toArray, List.set_cons_zero, List.set_cons_succ])
        refine wpAnyH_take (i := 9) (v := ?_) rfl (by kernel_rfl) (by kernel_rfl) (by kernel_rfl) (fun _ _ _ h => h) (Or.inl ⟨by rfl, ?_⟩) hHeld ?_
        rotate_left
        · intro W hSw; (try dsimp only at hSw); go_simp <;> with_reducible rfl
        (try simp only [Act.put, List.setIfInBounds_toArray, List.set_cons_zero, List.set_cons_succ])
        refine wpAnyH_take (i := 10) (v := ?_) rfl (by kernel_rfl) (by kernel_rfl) (by kernel_rfl) (fun _ _ _ h => h) (Or.inl ⟨by rfl, ?_⟩) hHeld ?_
        rotate_left
        · intro W hSw; (try dsimp only at hSw); go_simp <;> with_reducible rfl
        (try simp only [Act.put, List.setIfInBounds_toArray, List.set_cons_zero, List.set_cons_succ])
        refine wpAnyH_take (i := 11) (v := ?_) rfl (by kernel_rfl) (by kernel_rfl) (by kernel_rfl) (fun _ _ _ h => h) (Or.inl ⟨by rfl, ?_⟩) hHeld ?_
        rotate_left
        · intro W hSw; (try dsimp only at hSw); go_simp <;> with_reducible rfl
        (try simp only [Act.put, List.setIfInBounds_toArray, List.set_cons_zero, List.set_cons_succ])
        refine wpAnyH_take (i := 12) (v := ?_) rfl (by kernel_rfl) (by kernel_rfl) (by kernel_rfl) (fun _ _ _ h => h) (Or.inl ⟨by rfl, ?_⟩) hHeld ?_
        rotate_left
        · intro W hSw; (try dsimp only at hSw); go_simp <;> with_reducible rfl
        (try simp only [Act.put, List.setIfInBounds_toArray, List.set_cons_zero, List.set_cons_succ])
        refine wpAnyH_ready (rs := [6]) (by kernel_rfl) (by simp) ?_
        refine AllReadyH.cons rfl (fun K hK => ?_) AllReadyH.nil
        go_simp
        ((with_reducible refine (HWD.out _ (hB0.out.nxt B2.drew)).mono ?_); rintro en w3 ⟨rfl, rfl⟩; have B3 := B2.drew.drew; go_simp)
        refine hK.out _ _ ?_ (fun hHeld => ?_)
        · ((try dsimp only); first | with_reducible exact HALL.out _ B5 | with_reducible exact HALL.out _ B4 | with_reducible exact HALL.out _ B3 | with_reducible exact HALL.out _ B2.drew)
        clear hK K
        (try simp only [Act.put, List.setIfInBounds_toArray, List.set_cons_zero, List.set_cons_succ])
        refine wpAnyH_take (i := 7) (v := ?_) rfl (by kernel_rfl) (by kernel_rfl) (by kernel_rfl) (fun _ _ _ h => h) (Or.inl ⟨by rfl, ?_⟩) hHeld ?_
        rotate_left
        · intro W hSw; (try dsimp only at hSw); go_simp <;> with_reducible rfl
        (try simp only [Act.put, List.setIfInBounds_toArray, List.set_cons_zero, List.set_cons_succ])
        refine wpAnyH_take (i := 8) (v := ?_) rfl (by kernel_rfl) (by kernel_rfl) (by kernel_rfl) (fun _ _ _ h => h) (Or.inl ⟨by rfl, ?_⟩) hHeld ?_
        rotate_left
        · intro W hSw; (try dsimp only at hSw); go_simp <;> with_reducible rfl
        (try simp only [Act.put, List.setIfInBounds_toArray, List.set_cons_zero, List.set_cons_succ])
        refine wpAnyH_ready (rs := [13]) (by kernel_rfl) (by simp) ?_
        refine AllReadyH.cons rfl (fun K hK => ?_) AllReadyH.nil
        go_simp
        ((with_reducible refine (HDV1.out _ (hB0.out.nxt B3)).mono ?_); rintro en w4 ⟨rfl, hb4⟩; have B4 := B3.nxt hb4; go_simp)
        refine hK.out _ _ ?_ (fun hHeld => ?_)
        · ((try dsimp only); first | with_reducible exact HALL.out _ B5 | with_reducible exact HALL.out _ B4 | with_reducible exact HALL.out _ B3 | with_reducible exact HALL.out _ B2.drew)
        clear hK K
        (try simp only [Act.put, List.setIfInBounds_toArray, List.set_cons_zero, List.set_cons_succ])
        refine wpAnyH_take (i := 14) (v := ?_) rfl (by kernel_rfl) (by kernel_rfl) (by kernel_rfl) (fun _ _ _ h => h) (Or.inl ⟨by rfl, ?_⟩) hHeld ?_
        rotate_left
        · intro W hSw; (try dsimp only at hSw); go_simp <;> with_reducible rfl
        (try simp only [Act.put, List.setIfInBounds_toArray, List.set_cons_zero, List.set_cons_succ])
        refine wpAnyH_take (i := 15) (v := ?_) rfl (by kernel_rfl) (by kernel_rfl) (by kernel_rfl) (fun _ _ _ h => h) (Or.inl ⟨by rfl, ?_⟩) hHeld ?_
        rotate_left
        · intro W hSw; (try dsimp only at hSw); go_simp <;> with_reducible rfl
        (try simp only [Act.put, List.setIfInBounds_toArray, List.set_cons_zero, List.set_cons_succ])
        refine wpAnyH_ready (rs := [16]) (by kernel_rfl) (by simp) ?_
        refine AllReadyH.cons rfl (fun K hK => ?_) AllReadyH.nil
        go_simp
        ((with_reducible refine (HOF.out _ _ (hB0.out.nxt B4)).mono ?_); rintro en w5 ⟨rfl, hb5⟩; have B5 := B4.nxt hb5)
        refine hK.out _ _ ?_ (fun hHeld => ?_)
        · ((try dsimp only); first | with_reducible exact HALL.out _ B5 | with_reducible exact HALL.out _ B4 | with_reducible exact HALL.out _ B3 | with_reducible exact HALL.out _ B2.drew)
        clear hK K
        (try simp only [Act.put, List.setIfInBounds_toArray, List.set_cons_zero, List.set_cons_succ])
        refine wpAnyH_done (by kernel_rfl) ?_ _
        show wpList _ _ _ _ _ _
        clear hHeld hb4 hb5 B2 B3 B4 HDV1 HWD
        go_wp2_with fail
        ((with_reducible refine (HCM1.out _ (hB0.out.nxt B5)).mono ?_); rintro en w6 ⟨rfl, hb6⟩)
        have B6 := B5.nxt hb6
        obtain ⟨t0, -⟩ := HALL.out _ B6
        clear B5 hb6 HCM1
        simp only
        go_wp2_with fail
        ((with_reducible refine (HOF.out _ _ (hB0.out.nxt B6)).mono ?_); rintro en w7 ⟨rfl, hb7⟩)
        have HB8 := Lib.hid (hB0.out.nxt (B6.nxt hb7))
        obtain ⟨-, -, -, -, t4, -⟩ := (HT.out _ HB8.out).tcell
        have bi := (HT.out _ HB8.out).bcell hlt
        clear B6 hb7 hB0 t0 HALL r1 y1 HOF hB
        rcases hbd with rfl | ⟨j, hj, rfl⟩
        · have HE := Lib.hid (HTK.out (.inl (by omega)))
          clear HTK HKP HC3 HT t4 bi
          generalize cmpQ q le = n at *
          go_wp2_with fail
          go_quiet (fail)
          go_wp2
          go_roundw
          case rel => exact ⟨i + 1, by go_num, by omega, by rw [HE.out], by rw [HE.out], (HB8.out).drewN _⟩
          case measure => simp [intOf]; omega
        · have bj := (HT.out _ HB8.out).bcell (show j < 6 by omega)
          have y3 : decide ((j : Int) < 0) = false := decide_eq_false (by omega)
          have i6 : (0 : Int) ≤ (j : Int) := by omega
          have i7 : (j : Int) < 6 := by omega
          rcases HC3.out with ⟨h, e⟩ | ⟨h, e⟩ | ⟨h, e⟩
          · rw [e]
            have HE := Lib.hid (HTK.out (.inr (.inl h)))
            clear HTK HKP HC3 HT t4 bi bj h e
            go_wp2_with fail
            go_quiet (fail)
            go_wp2
            go_roundw
            case rel => exact ⟨i + 1, by go_num, by omega, by rw [HE.out], by rw [HE.out], (HB8.out).drewN _⟩
            case measure => simp [intOf]; omega
          · rw [e]
            by_cases hbb : t.bas i < t.bas j
            · have HE := Lib.hid (HTK.out (.inr (.inr ⟨h, by simpa using hbb⟩)))
              have y4 : decide ((t.bas i : Int) < (t.bas j : Int)) = true := decide_eq_true (by omega)
              have y5 : decide (t.bas i < t.bas j) = true := decide_eq_true hbb
              clear HTK HKP HC3 HT h e hbb
              go_wp2_with fail
              go_quiet (fail)
              go_wp2
              go_roundw
              case rel => exact ⟨i + 1, by go_num, by omega, by rw [HE.out], by rw [HE.out], (HB8.out).drewN _⟩
              case measure => simp [intOf]; omega
            · have HE := Lib.hid (HKP.out (by rintro (k | k | ⟨-, k⟩) <;> first | omega | exact absurd k (by rw [h]; exact Rat.lt_irrefl) | exact hbb (by simpa using k)))
              have y4 : decide ((t.bas i : Int) < (t.bas j : Int)) = false := decide_eq_false (by omega)
              have y5 : decide (t.bas i < t.bas j) = false := decide_eq_false hbb
              clear HTK HKP HC3 HT h e hbb
              go_wp2_with fail
              go_quiet (fail)
              go_wp2
              go_roundw
              case rel => exact ⟨i + 1, by go_num, by omega, by rw [HE.out], by rw [HE.out], (HB8.out).drewN _⟩
              case measure => simp [intOf]; omega
          · rw [e]
            have HE := Lib.hid (HKP.out (by rintro (k | k | ⟨k, -⟩) <;> first | omega | exact absurd h (by grind)))
            clear HTK HKP HC3 HT t4 bi bj h e
            go_wp2_with fail
            go_quiet (fail)
            go_wp2
            go_roundw
            case rel => exact ⟨i + 1, by go_num, by omega, by rw [HE.out], by rw [HE.out], (HB8.out).drewN _⟩
            case measure => simp [intOf]; omega
    · obtain rfl : i = 6 := by omega
      rw [show ((6 : Nat) : Int) = 6 from rfl]
      clear HT HCP HSG HDV HCM HBD HSP HWD HOF
      go_wp2
      go_ret
      exact ⟨rfl, hB0.out⟩
end Go.Proofs.Wk
/- THE SAME INSIDE A FENCE THAT ADMITS ALL: the head holds no round of a range over a function, the rest may. -/
namespace Go.Front
open Go
variable {P : Program} {Q Q' : Exit → Act → World → Prop} {l : List Oper} {n m : Nat}

/-- Nothing but an ordinary end. -/
def OnlyEnd (Q' : Exit → Act → World → Prop) : Prop := ∀ e a w, e ≠ .normal → ¬ Q' e a w
theorem OnlyEnd.lets (h : OnlyEnd Q') (k : LetsOut Q') : False := by
  obtain ⟨a, w, k⟩ := k
  exact h _ _ _ (by simp) k
def noDefer (l : List Oper) (n : Nat) : Bool := (l.take n).all fun o => match o.op with | .defer _ => false | _ => true
theorem noDefer_spec (h : noDefer l n = true) {i : Nat} (hi : i < n) {o : Oper} (ho : l[i]? = some o) : ∀ c, o.op ≠ .defer c := by
  intro c e
  have hm : o ∈ l.take n := List.mem_iff_getElem?.2 ⟨i, by rw [List.getElem?_take, if_pos hi]; exact ho⟩
  have := List.all_eq_true.1 h o hm
  rw [e] at this
  cases this
theorem rowsIn_wide {k : Nat} {row : String} {args : Array Value} {w : World} {R : Value → World → Prop} (h : Rows P row args w R) : RowsIn Fence.wide k P row args w R :=
  fun c cs _ => let ⟨v, w', r, s⟩ := h c cs; ⟨v, w', r, stepsIn_wide.2 s⟩
theorem oper_in (hq : OnlyEnd Q') {o : Oper} (hd : ∀ c, o.op ≠ .defer c) {a : Act} {w : World} {K : Act → World → Prop} (h : o.wp P a w K Q') : o.wpIn Fence.wide m P a w K Q := by
  refine ⟨fun _ _ => trivial, ?_⟩
  rw [Oper.semAt_eq _ _ _ hd]
  unfold Oper.wp at h
  generalize (execOp a.eval o).run P w = r at *
  cases r with
  | ok x w' =>
    cases x <;> simp only [Oper.upon] at h <;> simp only [Oper.uponIn]
    case value => exact h
    case skip => exact h
    case defer => exact h
    case enter f args =>
      refine ⟨fun e => (by cases e), callsIn_wide.2 (Calls.mono h fun e w'' he => ?_)⟩
      cases e with
      | returned v => exact he
      | panicked c => exact absurd he (hq _ _ _ (by simp))
      | outgrown => exact (hq.lets he).elim
    case row row args => exact ⟨fun e => (by cases e), rowsIn_wide h⟩
  | halt x w' =>
    cases x <;> simp only [Oper.upon] at h <;> simp only [Oper.uponIn]
    case panic v => exact absurd h (hq _ _ _ (by simp))
theorem wpOpIn_take (hq : OnlyEnd Q') (hd : noDefer l n = true) (hB : headB l n = true) {i : Nat} (hi : i < n) {K : Act → World → Prop} {a : Act} {w : World} (h : wpOp P (l.take n).toArray Q' i K a w) : wpOpIn Fence.wide m P l.toArray Q i K a w := by
  unfold wpOp at h
  unfold wpOpIn
  rw [take_at hi] at h
  cases ho : l.toArray[i]? with
  | none => rw [ho] at h; exact h
  | some o =>
    rw [ho] at h
    simp only at h ⊢
    have ho' : l[i]? = some o := by simpa using ho
    rw [wanted_take (headB_spec hB hi ho').2] at h
    split
    · rename_i hw
      rw [if_pos hw] at h
      rcases h with h | ⟨-, k⟩
      · exact oper_in hq (noDefer_spec hd hi ho') h
      · exact (hq.lets k).elim
    · rename_i hw
      rw [if_neg hw] at h
      exact ⟨fun _ _ => trivial, h⟩
theorem wpAnyIn_seq : ∀ (r : List Oper) (k : Nat) (listed : Array Bool) (a : Act) (w : World) (f : Nat), (∀ j, r[j]? = l.toArray[k + j]?) → Region.seqB .any l.toArray r.length k listed = true → wpListIn Fence.wide m P l.toArray Q r a w →
    wpAnyIn Fence.wide m P .any l.toArray Q (r.length + f) listed a w
  | [], k, listed, a, w, f, _, hB, h => by
    have hr : Region.ready .any l.toArray listed = [] := by simpa [Region.seqB] using hB
    cases f with
    | zero => exact ⟨hr, h⟩
    | succ f => exact ⟨fun _ => h, fun i hi => by rw [hr] at hi; cases hi⟩
  | o :: r, k, listed, a, w, f, hl, hB, h => by
    have h0 : l.toArray[k]? = some o := by simpa using (hl 0).symm
    simp only [List.length_cons, Region.seqB, Bool.and_eq_true, decide_eq_true_eq] at hB
    rw [List.length_cons, show r.length + 1 + f = (r.length + f) + 1 by omega]
    refine ⟨fun h1 => (by rw [hB.1] at h1; cases h1), fun i hi => ?_⟩
    rw [hB.1] at hi
    have hik : i = k := by simpa using hi
    subst hik
    have hw : wpOpIn Fence.wide m P l.toArray Q i (wpListIn Fence.wide m P l.toArray Q r) a w := by unfold wpOpIn; simp only [h0]; exact h
    exact wpOpIn_mono (fun a' w' h' => wpAnyIn_seq r (i + 1) _ a' w' f (fun j => by have := hl (j + 1); simpa [Nat.add_assoc, Nat.add_comm 1 j] using this) hB.2 h') hw
theorem wpAnyIn_front (hq : OnlyEnd Q') (hd : noDefer l n = true) (hn : n < l.length) (hB : headB l n = true) (hs : Region.sinkB .any l.toArray n = true) (hc : Region.chainB .any l.toArray n = true)
    (hseq : Region.seqB .any l.toArray (l.length - n) n (Array.replicate n true ++ Array.replicate (l.length - n) false) = true)
    (hend : ∀ a w, Q' .normal a w → wpListIn Fence.wide m P l.toArray Q (l.drop n) a w) :
    ∀ (f : Nat) (L L' : Array Bool) (a : Act) (w : World), Both l n L L' → wpAny P .any (l.take n).toArray Q' f L' a w → wpAnyIn Fence.wide m P .any l.toArray Q (l.length - n + f) L a w := by
  have fin : ∀ (f : Nat) (L L' : Array Bool) (a : Act) (w : World), Both l n L L' → Region.ready .any (l.take n).toArray L' = [] → Q' .normal a w → wpAnyIn Fence.wide m P .any l.toArray Q (l.length - n + f) L a w := by
    intro f L L' a w b hr h
    have ha := all_in (by omega) hB b hr
    have hL : L = Array.replicate n true ++ Array.replicate (l.length - n) false := by
      have hsz : L.size = l.length := by simpa using b.inv.size
      refine Array.ext (by simp; omega) fun i h1 h2 => ?_
      rw [Array.getElem_append]
      by_cases hi : i < n
      · have := ha i hi
        rw [dif_pos (by simpa using hi)]
        simpa [h1] using this
      · have := b.inv.tail i (by omega) (by simpa using (by omega : i < l.length))
        rw [dif_neg (by simpa using hi)]
        simpa [h1] using this
    have hdl : (l.drop n).length = l.length - n := by simp
    have := wpAnyIn_seq (m := m) (P := P) (Q := Q) (l := l) (l.drop n) n L a w f (fun j => by simp [List.getElem?_drop]) (by rw [hdl, hL]; exact hseq) (hend a w h)
    rwa [hdl] at this
  intro f
  induction f with
  | zero => exact fun L L' a w b h => fin 0 L L' a w b h.1 h.2
  | succ f ih =>
    intro L L' a w b h
    by_cases hr : Region.ready .any (l.take n).toArray L' = []
    · exact fin (f + 1) L L' a w b hr (h.1 hr)
    · obtain ⟨i0, hi0⟩ := List.exists_mem_of_ne_nil _ hr
      have hlt0 : i0 < n := by
        obtain ⟨_, o, ho, _⟩ := mem_ready.1 hi0
        have := (Array.getElem?_eq_some_iff.1 ho).1
        simp at this; omega
      have hun0 : L.getD i0 true = false := by rw [← b.same i0 hlt0]; exact (mem_ready.1 hi0).1
      have hmem : ∀ i, i ∈ Region.ready .any l.toArray L → i < n ∧ i ∈ Region.ready .any (l.take n).toArray L' := by
        intro i hi
        have hin : i < n := by
          rcases Nat.lt_or_ge i n with h' | h'
          · exact h'
          · exact absurd hi (tail_waits hs hc (by simpa using hn) b.inv _ i0 rfl hlt0 hun0 i h')
        obtain ⟨hu, o, ho, hall⟩ := mem_ready.1 hi
        have ho' : l[i]? = some o := by simpa using ho
        refine ⟨hin, mem_ready.2 ⟨by rw [b.same i hin]; exact hu, o, by rw [take_at hin]; exact ho, fun e he hb => ?_⟩⟩
        have h1 := (headB_spec hB hin ho').1 e he hb
        have hsz : L.size = l.length := by simpa using b.inv.size
        rw [getD_flip (by rw [b.size]; omega), b.same _ (by omega), ← getD_flip (by omega)]
        exact hall e he hb
      rw [show l.length - n + (f + 1) = (l.length - n + f) + 1 by omega]
      refine ⟨fun h0 => ?_, fun i hi => ?_⟩
      · exfalso
        obtain ⟨hu, o, ho, hall⟩ := mem_ready.1 hi0
        rw [take_at hlt0] at ho
        have ho' : l[i0]? = some o := by simpa using ho
        have hsz : L.size = l.length := by simpa using b.inv.size
        have : i0 ∈ Region.ready .any l.toArray L := mem_ready.2 ⟨hun0, o, ho, fun e he hb => by
          have h1 := (headB_spec hB hlt0 ho').1 e he hb
          rw [getD_flip (by omega), ← b.same _ (by omega), ← getD_flip (by rw [b.size]; omega)]
          exact hall e he hb⟩
        rw [h0] at this
        cases this
      · obtain ⟨hin, hi'⟩ := hmem i hi
        refine wpOpIn_mono (fun a' w' hh => ih _ _ a' w' ⟨b.inv.set hi hin, by simpa using b.size, fun j hj => ?_⟩ hh) (wpOpIn_take hq hd hB hin (h.2 i hi'))
        have hsz : L.size = l.length := by simpa using b.inv.size
        by_cases hij : i = j
        · subst hij
          simp [b.size, hsz, hin, show i < l.length by omega]
        · rw [getD_set_ne true hij, getD_set_ne true hij]
          exact b.same j hj
/-- **The head under a condition S, then the rest, inside the fence.** -/
theorem wpIn_region_front {S : World → Prop} {id : Nat} {a : Act} {w : World} (n : Nat) (hm : P.follows .mixedOrders = true) (hn : n < l.length) (hB : headB l n = true) (hd : noDefer l n = true) (hs : Region.sinkB .any l.toArray n = true) (hc : Region.chainB .any l.toArray n = true)
    (hseq : Region.seqB .any l.toArray (l.length - n) n (Array.replicate n true ++ Array.replicate (l.length - n) false) = true) (hS : S w.drew)
    (h : S w.drew → wpAnyH P .any (l.take n).toArray (fun e a w => match e with | .normal => wpListIn Fence.wide m P l.toArray Q (l.drop n) a w | _ => False) S n (Array.replicate n false) a w.drew) : (Code.region id l.toArray true).wpIn Fence.wide m P Q a w := by
  refine wpIn_region_any hm ?_
  have H := wpAnyIn_front (P := P) (Q := Q) (m := m) (Q' := fun e a w => match e with | .normal => wpListIn Fence.wide m P l.toArray Q (l.drop n) a w | _ => False) (l := l) (n := n)
    (fun e a w he hh => by cases e <;> first | exact absurd rfl he | exact hh) hd hn hB hs hc hseq (fun a w hh => hh) n (Array.replicate l.toArray.size false) (Array.replicate n false) a w.drew
    ⟨⟨by simp, fun j oj _ hl => (by rw [getD_replicate_false] at hl; cases hl), fun t _ ht => getD_in (by simpa using ht) (getD_replicate_false _ _)⟩, by simp, fun i hi => by simp [hi, show i < l.length by omega]⟩
    (wpAny_of_held _ _ _ _ (h hS))
  rwa [show l.length - n + n = l.toArray.size by simp; omega] at H
end Go.Front
