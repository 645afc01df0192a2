/- POSITION, IN THE REFERENCE: frames of a feature, cases. -/
import Derived.Test.YtdpjkfkmlaphhaaGreatDoorQA
import Derived.Test.YtdpjkfkmlaphhaaGreatDoorPH
import Derived.Deep.RegionHeld3
namespace Go.Proofs.Wk
open Go.RowKit Mt Po

/-- Whether a letter is among some. -/
def hasB (s : Txt) (c : Int) : Bool := s.any fun x => (x.toNat : Int) == c
theorem onr_tab {k : Nat} {j : Int} (hk : k < 9) (hj : 0 ≤ j ∧ j < 5) : hasB (onR k) (lrI j) = (onK k).contains j := by
  rcases nine hk with rfl | rfl | rfl | rfl | rfl | rfl | rfl | rfl | rfl <;> rcases five hj with rfl | rfl | rfl | rfl | rfl <;> decide +kernel
theorem dsr_tab {k : Nat} {j : Int} (hk : k < 9) (hj : 0 ≤ j ∧ j < 5) : hasB (dsR k) (lrI j) = (dsK k).contains j := by
  rcases nine hk with rfl | rfl | rfl | rfl | rfl | rfl | rfl | rfl | rfl <;> rcases five hj with rfl | rfl | rfl | rfl | rfl <;> decide +kernel
set_option maxRecDepth 100000 in
theorem lr_run {j : Int} (hj : 0 ≤ j ∧ j < 5) : ∀ W, (Instr.index 9 (.string ⟨#[80, 72, 73, 83, 66]⟩) (.int .i64 j)).run Tryz.prog W = .ok (.int .u8 (lrI j)) W := by
  intro W
  rcases five hj with rfl | rfl | rfl | rfl | rfl
  all_goals rfl
theorem lenR (k : Nat) : (onR k).length ≤ 5 ∧ (dsR k).length ≤ 5 := by
  by_cases h : k < 9
  · rcases nine h with rfl | rfl | rfl | rfl | rfl | rfl | rfl | rfl | rfl <;> decide
  · have : ∃ j, k = j + 9 := ⟨k - 9, by omega⟩
    obtain ⟨j, rfl⟩ := this
    exact ⟨by show (onR (j + 9)).length ≤ 5; exact (by decide : [80, 72, 73, 83, 66].length ≤ 5), by show (dsR (j + 9)).length ≤ 5; exact (by decide : [72, 73, 66].length ≤ 5)⟩
set_option maxRecDepth 100000 in
set_option maxHeartbeats 4000000 in
theorem rhas_c (s : Txt) (j : Int) (w : World) (hj : 0 ≤ j ∧ j < 5) (hs : s.length ≤ 5) : Calls Tryz.prog 192 #[.string ⟨s.toArray⟩, .int .i64 j] w (Ret w (.bool (hasB s (lrI j)))) := by
  have hr := lr_run hj
  have HBAD := Lib.hid (fun i (hi : i < s.length) (h : ((s[i].toNat : Int) == lrI j) = true) => show hasB s (lrI j) = true from List.any_eq_true.2 ⟨s[i], List.getElem_mem hi, h⟩)
  have HOK := Lib.hid (fun (h : ∀ i (hi : i < s.length), ((s[i].toNat : Int) == lrI j) = false) => show hasB s (lrI j) = false by
    rw [Bool.eq_false_iff]; intro q
    obtain ⟨x, hx, e⟩ := List.any_eq_true.1 q
    obtain ⟨i, hi, rfl⟩ := List.getElem_of_mem hx
    rw [h i hi] at e; cases e)
  generalize hasB s (lrI j) = B at *
  generalize lrI j = c at *
  go_enter Tryz.func192, Tryz.ntmps192
  go_wp2_with fail
  go_loopw [5] (fun si wr => ∃ i : Nat, si = .int .i64 (i : Int) ∧ i ≤ s.length ∧ Hid (∀ k, k < i → ∀ (hk : k < s.length), ((s[k].toNat : Int) == c) = false) ∧ Hid (Below w.heap.size w wr)) (fun si _ => s.length - (intOf si).toNat)
  case atStart => exact ⟨0, rfl, Nat.zero_le _, fun k h => absurd h (Nat.not_lt_zero _), Below.refl _ _⟩
  case round =>
    obtain ⟨i, rfl, hi, hE, hB⟩ := hrel
    by_cases hlt : i < s.length
    · have hbad := HBAD.out i hlt
      have HK := Lib.hid (fun (h : ((s[i].toNat : Int) == c) = false) k (hk : k < i + 1) (hkl : k < s.length) => show ((s[k].toNat : Int) == c) = false by
        by_cases q : k = i
        · subst q; exact h
        · exact hE.out k (by omega) hkl)
      cases hq : ((s[i].toNat : Int) == c) with
      | true =>
        obtain rfl : B = true := hbad hq
        clear hbad HK HBAD HOK hE
        go_wp2_with fail
        go_quiet (fail)
        go_wp2
        go_ret
        exact ⟨rfl, ⟨hB.out.os, hB.out.tape, hB.out.output, hB.out.size, hB.out.block⟩⟩
      | false =>
        have HK2 := Lib.hid (HK.out hq)
        clear hbad HK hE
        go_wp2_with fail
        go_quiet (fail)
        go_wp2
        go_roundw
        case rel => exact ⟨i + 1, by go_num, by omega, HK2.out, ⟨hB.out.os, hB.out.tape, hB.out.output, hB.out.size, hB.out.block⟩⟩
        case measure => simp [intOf]; omega
    · obtain rfl : i = s.length := by omega
      obtain rfl : B = false := HOK.out fun k hk => hE.out k hk hk
      have hw := hB.out
      clear hE hB HBAD HOK
      go_wp2
      go_ret
      exact ⟨rfl, hw⟩

/-- A row of the reference. -/
structure RRow where
  w : Txt
  f : Txt
  le : Int
  mo : Int
  d : Txt
instance : Row RRow where
  enc r := [txt r.w, txt r.f, .int .i64 r.le, .int .i64 r.mo, txt r.d]
  k := 5
  len _ := rfl
  pos := by decide
  one a u hu := by
    simp only [List.mem_cons, List.not_mem_nil, or_false] at hu
    rcases hu with rfl | rfl | rfl | rfl | rfl <;> rfl
def rrowsL : List RRow := [⟨[115, 116, 114, 97, 105, 103, 104, 116], [72, 73], 0, 0, [72, 73]⟩, ⟨[102, 108, 97, 116], [80, 83], 0, 0, []⟩, ⟨[112, 97, 114, 97, 108, 108, 101, 108], [80, 72, 73, 83], 1, 2, [72, 73]⟩, ⟨[115, 113, 117, 97, 114, 101], [80, 72, 73, 83], 1, 2, [72, 73]⟩, ⟨[114, 111, 117, 110, 100], [72, 73, 66], 0, 0, []⟩, ⟨[115, 112, 104, 101, 114, 101], [66], 0, 0, []⟩, ⟨[112, 114, 111, 102, 105, 108, 101], [80], 0, 3, []⟩, ⟨[114, 117, 110, 111, 117, 116], [80, 72, 73], 1, 1, []⟩, ⟨[112, 111, 115, 105, 116, 105, 111, 110], [80, 72, 73, 83, 66], 0, 3, [72, 73, 66]⟩]
set_option maxRecDepth 100000 in
set_option maxHeartbeats 4000000 in
theorem rRows_c (w : World) : Calls Tryz.prog 191 #[] w (fun e w' => ∃ b off cap, e = .returned (.slice (some ⟨b, off, none⟩) 9 cap) ∧ RX w' b off rrowsL ∧ b < w'.heap.size ∧ Below w.heap.size w w') := by
  go_enter Tryz.func191, Tryz.ntmps191
  go_wp2
  go_ret
  exact ⟨w.heap.size, 0, 9, rfl, RX.lit w rrowsL 257, alloc_lt w _, below_al w _⟩
end Go.Proofs.Wk
/- POSITION, IN THE REFERENCE: what a frame may have. -/
namespace Go.Proofs.Wk
open Go.RowKit Mt Po

theorem s5row {w : World} {g : Nat} {u0 u1 u2 u3 u4 v0 v1 v2 v3 v4 : Value} {T : TypeId} (h : w.heap[g]? = some (.cells #[u0, u1, u2, u3, u4] T (0, 0))) :
    (((((w.setCell ⟨g, 0, none⟩ v0).setCell ⟨g, 1, none⟩ v1).setCell ⟨g, 2, none⟩ v2).setCell ⟨g, 3, none⟩ v3).setCell ⟨g, 4, none⟩ v4).heap[g]? = some (.cells #[v0, v1, v2, v3, v4] T (0, 0)) :=
  heap_setCell_same _ g 4 _ _ v4 (heap_setCell_same _ g 3 _ _ v3 (heap_setCell_same _ g 2 _ _ v2 (heap_setCell_same _ g 1 _ _ v1 (heap_setCell_same w g 0 _ _ v0 h))))
theorem Tw.set5 {w W : World} {g1 g2 : Nat} {o1 o2 : Obj} (h : Tw w W g1 g2 o1 o2) {g : Nat} (h1 : g1 ≠ g) (h2 : g2 ≠ g) (h3 : w.heap.size ≤ g) (v0 v1 v2 v3 v4 : Value) :
    Tw w (((((W.setCell ⟨g, 0, none⟩ v0).setCell ⟨g, 1, none⟩ v1).setCell ⟨g, 2, none⟩ v2).setCell ⟨g, 3, none⟩ v3).setCell ⟨g, 4, none⟩ v4) g1 g2 o1 o2 :=
  ((((h.set v0 h1 h2 h3).set v1 h1 h2 h3).set v2 h1 h2 h3).set v3 h1 h2 h3).set v4 h1 h2 h3
theorem rrow_at {K : Nat} (h : K < 9) (hl : K < rrowsL.length) : rrowsL[K] = ⟨wdT K, onR K, leK K, moK K, dsR K⟩ := by
  rcases nine h with rfl | rfl | rfl | rfl | rfl | rfl | rfl | rfl | rfl <;> rfl
set_option maxRecDepth 100000 in
set_option maxHeartbeats 8000000 in
theorem rmay_c (f : Ft) (fv : Value) (K : Nat) (hK : K < 9) (w : World) : Calls Tryz.prog 193 #[ftV f fv, .int .i64 (K : Int)] w (Ret w (.bool (f.kind != 0 && maK K))) := by
  have hJ := On.new w [.string ⟨f.nm.toArray⟩, .int .i64 f.kind, .int .i64 f.axis, .int .i64 f.pos.x, .int .i64 f.pos.y, .int .i64 f.pos.z, .int .i64 f.lo, .int .i64 f.hi, fv] 28
  obtain ⟨nm, kind, axis, ⟨px, py, pz⟩, lo, fhi⟩ := f
  simp only at hJ ⊢
  have hA := hJ.w
  obtain ⟨c0, c1, c2, c3, c4, c5, c6, c7, c8⟩ := c9row hJ.a
  clear c0 c2 c3 c4 c5 c6 c7 c8 hJ
  cases hk : (kind != 0) with
  | false =>
    go_enter Tryz.func193, Tryz.ntmps193
    go_upto_region 1 with fail
    generalize w.alloc (.cells [Value.string ⟨nm.toArray⟩, .int .i64 kind, .int .i64 axis, .int .i64 px, .int .i64 py, .int .i64 pz, .int .i64 lo, .int .i64 fhi, fv].toArray 28) = W0 at *
    go_wp2
    go_ret
    exact ⟨rfl, hA⟩
  | true =>
    rcases nine hK with rfl | rfl | rfl | rfl | rfl | rfl | rfl | rfl | rfl
    all_goals
      go_enter Tryz.func193, Tryz.ntmps193
      go_upto_region 1 with fail
      generalize w.alloc (.cells [Value.string ⟨nm.toArray⟩, .int .i64 kind, .int .i64 axis, .int .i64 px, .int .i64 py, .int .i64 pz, .int .i64 lo, .int .i64 fhi, fv].toArray 28) = W0 at *
      go_wp2
      go_ret
      exact ⟨rfl, hA⟩
set_option maxRecDepth 100000 in
set_option maxHeartbeats 16000000 in
theorem rperm_c {fv dv : Value} (f : Ft) (x : Fm) (n : Nat) (sa : Option Addr) (cap : Nat) (w : World) (hdv : dv = .slice sa n cap) (hkd : 0 ≤ f.kind ∧ f.kind < 5) (hk : 0 ≤ x.kind ∧ x.kind < 9) :
    Calls Tryz.prog 135 #[ftV f fv, frV x dv] w (Ret w (.int .i64 (pmE f x n))) := by
  subst hdv
  have HRW := Lib.hid (fun W => rRows_c W)
  obtain ⟨k, disc, tol, mat⟩ := x
  simp only at hk
  obtain ⟨K, rfl⟩ : ∃ K : Nat, k = (K : Int) := ⟨k.toNat, by omega⟩
  have hK : K < 9 := by omega
  have HON := Lib.hid (fun W => rhas_c (onR K) f.kind W hkd (lenR K).1)
  have HDN := Lib.hid (fun W => rhas_c (dsR K) f.kind W hkd (lenR K).2)
  have HMM := Lib.hid (fun W => rmay_c f fv K hK W)
  rw [onr_tab hK hkd] at HON
  rw [dsr_tab hK hkd] at HDN
  obtain ⟨nm, kind, axis, ⟨px, py, pz⟩, lo, fhi⟩ := f
  have hT := Tw.new w [.string ⟨nm.toArray⟩, .int .i64 kind, .int .i64 axis, .int .i64 px, .int .i64 py, .int .i64 pz, .int .i64 lo, .int .i64 fhi, fv] [.int .i64 (K : Int), .bool disc, .int .i64 tol, .int .i64 mat, .slice sa n cap] 28 31
  obtain ⟨E, hE⟩ : ∃ E, pmE ⟨nm, kind, axis, ⟨px, py, pz⟩, lo, fhi⟩ ⟨(K : Int), disc, tol, mat⟩ n = E := ⟨_, rfl⟩
  rw [hE]
  rw [pmE_eq] at hE
  simp only [Int.toNat_natCast] at hE HON HDN HMM
  have hix : ∀ (W : World) b off, RX W b off rrowsL → W.cell? ⟨b, off + K * 5, none⟩ = some (txt (wdT K)) ∧ W.cell? ⟨b, off + K * 5 + 1, none⟩ = some (txt (onR K)) ∧ W.cell? ⟨b, off + K * 5 + 2, none⟩ = some (.int .i64 (leK K)) ∧ W.cell? ⟨b, off + K * 5 + 3, none⟩ = some (.int .i64 (moK K)) ∧ W.cell? ⟨b, off + K * 5 + 4, none⟩ = some (txt (dsR K)) := by
    intro W b off hR
    have hl : K < rrowsL.length := hK
    have e := rrow_at hK hl
    refine ⟨?_, ?_, ?_, ?_, ?_⟩
    · have := hR K hl 0 (by decide); rw [e] at this; exact this
    · have := hR K hl 1 (by decide); rw [e] at this; exact this
    · have := hR K hl 2 (by decide); rw [e] at this; exact this
    · have := hR K hl 3 (by decide); rw [e] at this; exact this
    · have := hR K hl 4 (by decide); rw [e] at this; exact this
  generalize (onK K).contains kind = ON at *
  generalize (dsK K).contains kind = DN at *
  generalize onR K = OT at *
  generalize dsR K = DT at *
  generalize wdT K = WT at *
  generalize leK K = le at *
  generalize moK K = mo at *
  generalize maK K = ma at *
  have HE := Lib.hid hE
  have HIX := Lib.hid hix
  have k0 : (0 : Int) ≤ (K : Int) := by omega
  have k9 : (K : Int) < 9 := by omega
  clear hE hix hk hkd
  go_enter Tryz.func135, Tryz.ntmps135
  go_upto_region 1 with fail
  generalize (w.alloc (.cells [Value.string ⟨nm.toArray⟩, .int .i64 kind, .int .i64 axis, .int .i64 px, .int .i64 py, .int .i64 pz, .int .i64 lo, .int .i64 fhi, fv].toArray 28)).alloc (.cells [Value.int .i64 (K : Int), .bool disc, .int .i64 tol, .int .i64 mat, .slice sa n cap].toArray 31) = w2 at *
  generalize w.heap.size + 1 = gx at *
  have HT := Lib.hid hT
  obtain ⟨x0, x1, x2, x3, x4⟩ := c5row hT.b
  have a0 : ∀ o, (w2.alloc o).cell? ⟨gx, 0, none⟩ = some (.int .i64 (K : Int)) := fun o => (World.cell?_alloc_lt w2 o ⟨gx, 0, none⟩ hT.lt2).trans x0
  have hlt2 := hT.lt2
  clear hT x1 x2 x3 x4
  go_cut [5] (fun s7 wx => ∃ g, s7 = .pointer (some ⟨g, 0, none⟩) ∧ Hid (wx.heap[g]? = some (.cells #[.string ⟨WT.toArray⟩, .string ⟨OT.toArray⟩, .int .i64 le, .int .i64 mo, .string ⟨DT.toArray⟩] 257 (0, 0))) ∧ Hid (Tw w wx w.heap.size gx (.cells #[.string ⟨nm.toArray⟩, .int .i64 kind, .int .i64 axis, .int .i64 px, .int .i64 py, .int .i64 pz, .int .i64 lo, .int .i64 fhi, fv] 28 (0, 0)) (.cells #[.int .i64 (K : Int), .bool disc, .int .i64 tol, .int .i64 mat, .slice sa n cap] 31 (0, 0))))
  case first =>
    go_region_with (first
      | (go_at_call 191; (with_reducible refine (HRW.out _).mono ?_); rintro e w3 ⟨rb, ro, rc, rfl, hR3, hl3, hb3⟩;
          (first
            | ((with_reducible have T3 := HT.out.drew.later hb3); obtain ⟨x0, x1, x2, x3, x4⟩ := c5row T3.b; have hlt3 := T3.lt2; obtain ⟨y0, y1, y2, y3, y4⟩ := HIX.out _ _ _ hR3)
            | ((with_reducible have T3 := HT.out.later hb3); obtain ⟨x0, x1, x2, x3, x4⟩ := c5row T3.b; have hlt3 := T3.lt2; obtain ⟨y0, y1, y2, y3, y4⟩ := HIX.out _ _ _ hR3)
            | (have hb3' : Below (w2.alloc (.cells #[.string ⟨#[]⟩, .string ⟨#[]⟩, .int .i64 0, .int .i64 0, .string ⟨#[]⟩] 257)).heap.size (w2.alloc (.cells #[.string ⟨#[]⟩, .string ⟨#[]⟩, .int .i64 0, .int .i64 0, .string ⟨#[]⟩] 257)) w3 := ⟨hb3.os, hb3.tape, hb3.output, hb3.size, hb3.block⟩;
               have T3 := (HT.out.later (below_al w2 (.cells #[.string ⟨#[]⟩, .string ⟨#[]⟩, .int .i64 0, .int .i64 0, .string ⟨#[]⟩] 257))).later hb3'; have hzz := keepD (heap_alloc_new w2 (.cells #[.string ⟨#[]⟩, .string ⟨#[]⟩, .int .i64 0, .int .i64 0, .string ⟨#[]⟩] 257)) hb3'; obtain ⟨z0, z1, z2, z3, z4⟩ := c5row hzz; have fz := (fun j => free_row hzz j);
               obtain ⟨x0, x1, x2, x3, x4⟩ := c5row T3.b; have hlt3 := T3.lt2; obtain ⟨y0, y1, y2, y3, y4⟩ := HIX.out _ _ _ hR3)))
      | fail)
    all_goals (go_wp2_with fail; go_meet)
    all_goals
      first
        | with_reducible exact ⟨_, rfl, Lib.hid (heap_alloc_new w3 _), Lib.hid (T3.later (below_al w3 _))⟩
        | with_reducible exact ⟨_, rfl, Lib.hid (s5row hzz), Lib.hid (T3.set5 (Nat.ne_of_lt HT.out.lt1) (Nat.ne_of_lt HT.out.lt2) HT.out.w.size _ _ _ _ _)⟩
        | trace_state
  case rest =>
    obtain ⟨g, rfl, HRG, HT3⟩ := hcut
    clear HT a0 x0 HIX HRW
    obtain ⟨c0, c1, c2, c3, c4, c5, c6, c7, c8⟩ := c9row HT3.out.a
    obtain ⟨r0, r1, r2, r3, r4⟩ := c5row HRG.out
    clear c0 c2 c3 c4 c5 c6 c7 c8
    go_wp2_with fail
    ((with_reducible refine (HON.out _).mono ?_); rintro e w4 ⟨rfl, hb4⟩)
    have HT4 := Lib.hid (HT3.out.later hb4)
    have HR4 := Lib.hid (keepD HRG.out hb4)
    clear r0 r1 r2 r3 r4 c1 hb4 HRG HT3
    have hZ := HT4.out.w
    replace HE := HE.out
    by_cases hON : ON = false
    · subst hON
      obtain rfl : 14 = E := by unfold pmF at HE; rwa [if_pos rfl] at HE
      clear HE HON HDN
      go_wp2
      go_ret
      exact ⟨rfl, hZ⟩
    obtain rfl : ON = true := by simpa using hON
    clear hON
    unfold pmF at HE
    rw [if_neg (show ¬ true = false from by simp)] at HE
    replace HE := Lib.hid HE
    obtain ⟨c0, c1, c2, c3, c4, c5, c6, c7, c8⟩ := c9row HT4.out.a
    obtain ⟨x0, x1, x2, x3, x4⟩ := c5row HT4.out.b
    obtain ⟨r0, r1, r2, r3, r4⟩ := c5row HR4.out
    clear c0 c2 c3 c4 c5 c6 c7 c8 x0 x2 x3 x4 r0 r1 r2 r3
    go_upto_region 4 with fail
    go_cut [26] (fun s wx => s = .bool (disc && !DN) ∧ Hid (Below w4.heap.size w4 wx))
    case first =>
      cases disc with
      | false =>
        go_wp2_with fail
        go_meet
        exact ⟨rfl, Below.refl _ _⟩
      | true =>
        go_wp2_with fail
        ((with_reducible refine (HDN.out _).mono ?_); rintro e w5 ⟨rfl, hb5⟩)
        go_wp2_with fail
        go_meet
        exact ⟨rfl, hb5⟩
    case rest =>
    obtain ⟨rfl, HB5⟩ := hcut
    have HT5 := Lib.hid (HT4.out.later HB5.out)
    have HR5 := Lib.hid (keepD HR4.out HB5.out)
    have hZ5 := HT5.out.w
    clear c1 x1 r4 HDN HB5 hZ HT4 HR4
    replace HE := HE.out
    by_cases hd : disc = true ∧ DN = false
    · obtain rfl : 3 = E := by rwa [if_pos hd] at HE
      obtain ⟨rfl, rfl⟩ := hd
      clear HE
      go_wp2
      go_ret
      exact ⟨rfl, hZ5⟩
    rw [if_neg hd] at HE
    have hd2 : (disc && !DN) = false := by cases disc <;> cases DN <;> simp at hd ⊢
    clear hd
    generalize (disc && !DN) = DB at *
    subst hd2
    obtain ⟨c0, c1, c2, c3, c4, c5, c6, c7, c8⟩ := c9row HT5.out.a
    obtain ⟨x0, x1, x2, x3, x4⟩ := c5row HT5.out.b
    obtain ⟨r0, r1, r2, r3, r4⟩ := c5row HR5.out
    go_upto_region 6 with fail
    go_cut [34] (fun s wx => s = .bool (tol == 0 && mat != 1) ∧ wc = wx)
    case first =>
      cases q : (tol == 0) with
      | false =>
        go_wp2_with fail
        go_meet
        exact ⟨by rw [q]; rfl, rfl⟩
      | true =>
        go_wp2_with fail
        go_meet
        exact ⟨by rw [q]; rfl, rfl⟩
    case rest =>
    obtain ⟨rfl, rfl⟩ := hcut
    by_cases ht : tol = 0 ∧ mat ≠ 1
    · obtain rfl : 10 = E := by rwa [if_pos ht] at HE
      have hb : (tol == 0 && mat != 1) = true := by rw [Bool.and_eq_true, beq_iff_eq, bne_iff_ne]; exact ht
      rw [hb]
      clear HE ht
      go_wp2
      go_ret
      exact ⟨rfl, hZ5⟩
    rw [if_neg ht] at HE
    have hb : (tol == 0 && mat != 1) = false := by rw [Bool.eq_false_iff]; intro c; rw [Bool.and_eq_true, beq_iff_eq, bne_iff_ne] at c; exact ht c
    clear ht
    rw [hb]
    clear hb
    replace HE := Lib.hid HE
    go_upto_region 8 with fail
    go_cut [44] (fun s wx => s = .bool (mat != 0 && !(kind != 0 && ma)) ∧ Hid (Below wc.heap.size wc wx))
    case first =>
      cases q : (mat != 0) with
      | false =>
        go_wp2_with fail
        go_meet
        exact ⟨by rw [q]; rfl, Below.refl _ _⟩
      | true =>
        go_wp2_with fail
        ((with_reducible refine (HMM.out _).mono ?_); rintro e w6 ⟨rfl, hb6⟩)
        go_wp2_with fail
        go_meet
        exact ⟨by rw [q]; cases (kind != 0) <;> cases ma <;> rfl, hb6⟩
    case rest =>
    obtain ⟨rfl, HB6⟩ := hcut
    have hZ6 := hZ5.nx HB6.out
    replace HE := HE.out
    have hx4 := HT5.out.later HB6.out
    obtain ⟨x0, x1, x2, x3, x4⟩ := c5row hx4.b
    obtain ⟨r0, r1, r2, r3, r4⟩ := c5row (keepD HR5.out HB6.out)
    clear c0 c1 c2 c3 c4 c5 c6 c7 c8 x0 x1 x2 x3 r0 r1 r4 hx4 HT5 HR5 HB6 hZ5
    by_cases hm : mat ≠ 0 ∧ (ma = false ∨ kind = 0)
    · obtain rfl : 3 = E := by rwa [if_pos hm] at HE
      have hb : (mat != 0 && !(kind != 0 && ma)) = true := by
        obtain ⟨m1, m2⟩ := hm
        rw [bne_iff_ne.2 m1]
        rcases m2 with rfl | rfl
        · simp
        · simp
      rw [hb]
      clear HE hm
      go_wp2
      go_ret
      exact ⟨rfl, hZ6⟩
    rw [if_neg hm] at HE
    have hb : (mat != 0 && !(kind != 0 && ma)) = false := by
      by_cases m1 : mat = 0
      · rw [m1]; rfl
      · have m2 : ¬ (ma = false ∨ kind = 0) := fun c => hm ⟨m1, c⟩
        have m3 : ma = true := by cases ma <;> simp at m2 ⊢
        have m4 : kind ≠ 0 := fun c => m2 (.inr c)
        rw [m3, bne_iff_ne.2 m4]; simp
    clear hm
    rw [hb]
    clear hb
    by_cases h1 : (n : Int) < le
    · obtain rfl : 13 = E := by rwa [if_pos h1] at HE
      clear HE
      go_wp2
      go_ret
      exact ⟨rfl, hZ6⟩
    rw [if_neg h1] at HE
    by_cases h2 : mo < (n : Int)
    · obtain rfl : 5 = E := by rwa [if_pos h2] at HE
      clear HE
      go_wp2
      go_ret
      exact ⟨rfl, hZ6⟩
    rw [if_neg h2] at HE
    subst HE
    go_wp2
    go_ret
    exact ⟨rfl, hZ6⟩
end Go.Proofs.Wk
