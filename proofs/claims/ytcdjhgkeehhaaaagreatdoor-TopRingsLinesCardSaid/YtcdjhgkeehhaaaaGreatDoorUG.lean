/- RINGS: points that are given; the bounds collected. -/
import Derived.Test.YtcdjhgkeehhaaaaGreatDoorUF
import Derived.Test.YtcdjhgkeehhaaaaGreatDoorND
import Derived.RangeFuncBox
import Derived.Test.YtcdjhgkeehhaaaaGreatDoorUE
namespace Go.Proofs.Wk
open Go.RowKit Go.Rng Mt
attribute [local go_sem] Oper.semAt_some

set_option maxRecDepth 100000 in
set_option maxHeartbeats 1000000 in
theorem rgiven_c {v : Value} (ls : List St.Pt) (w : World) (S : SlX w v ls) (hln : ls.length ≤ 140737488355328) (h0 : St.givP ls = 0) : Calls Tryz.prog 41 #[v] w (Ret w (.int .i64 0)) := by
  have HK := Lib.hid (vCheck_c ls w S hln)
  have hc : St.chkP ls = 0 := by
    by_cases hc : St.chkP ls = 0
    · exact hc
    · rw [givP_chk hc] at h0; exact absurd h0 hc
  rw [hc] at HK
  have hn := (St.givP_in h0).1
  obtain ⟨a, cap, rfl⟩ := S.len
  clear S hln h0 hc
  generalize ls.length = n at *
  have z : ((n : Int) == 0) = false := beq_eq_false_iff_ne.2 (by omega)
  go_enter Tryz.func41, Tryz.ntmps41
  go_wp2_with fail
  ((with_reducible refine (HK.out).mono ?_); rintro e w1 ⟨rfl, hb1⟩)
  go_wp2
  go_ret
  exact ⟨rfl, hb1⟩
/-- The cells of bounds. -/
def bdC (P : Nat → Int × Int) (rb : Nat → Nat) (k : Nat) : List Value := (List.range k).flatMap fun i => [.slice (some ⟨rb i, 0, none⟩) 4 4, Value.string ⟨(rtoa ((bnd P i).2)).toArray⟩]
theorem bdC_step (P : Nat → Int × Int) (rb : Nat → Nat) (k : Nat) : bdC P rb (k + 1) = bdC P rb k ++ [.slice (some ⟨rb k, 0, none⟩) 4 4, Value.string ⟨(rtoa ((bnd P k).2)).toArray⟩] := by simp [bdC, List.range_succ]
theorem bdC_len (P : Nat → Int × Int) (rb : Nat → Nat) : ∀ k, (bdC P rb k).length = k * 2
  | 0 => rfl
  | k + 1 => by rw [bdC_step, List.length_append, bdC_len P rb k]; simp; omega
theorem bdC_eq (P : Nat → Int × Int) {rb rb' : Nat → Nat} : ∀ k, (∀ i, i < k → rb i = rb' i) → bdC P rb k = bdC P rb' k
  | 0, _ => rfl
  | k + 1, h => by rw [bdC_step, bdC_step, bdC_eq P k (fun i hi => h i (by omega)), h k (by omega)]
theorem bdC_at (P : Nat → Int × Int) (rb : Nat → Nat) : ∀ k i, i < k → (bdC P rb k)[i * 2]? = some (.slice (some ⟨rb i, 0, none⟩) 4 4) ∧ (bdC P rb k)[i * 2 + 1]? = some ((Value.string ⟨(rtoa ((bnd P i).2)).toArray⟩))
  | k + 1, i, hi => by
    rw [bdC_step]
    by_cases h : i < k
    · rw [List.getElem?_append_left (by rw [bdC_len]; omega), List.getElem?_append_left (by rw [bdC_len]; omega)]
      exact bdC_at P rb k i h
    · obtain rfl : i = k := by omega
      rw [List.getElem?_append_right (by rw [bdC_len]; exact Nat.le_refl _), List.getElem?_append_right (by rw [bdC_len]; omega), bdC_len]
      simp
/-- The memory while bounds are collected. -/
structure SqJ (w : World) (P : Nat → Int × Int) (lp : Loop) (k B : Nat) (W : World) : Prop where
  ex : ∃ v rb, Boxed W w.heap.size 93 v ∧ W.ownsRow w.heap.size 96 2 v k (bdC P rb k) ∧ (∀ i, i < k → W.heap[rb i]? = some (.cells (rtC (bnd P i).1) 27 (0, 0))) ∧ ∀ g, v.ownBlock = some g → g < B
  lo : w.heap.size + 3 ≤ B
  d : W.heap[w.heap.size + 1]? = some (.deferred (some []))
  lp : W.heap[w.heap.size + 2]? = some (.loop lp)
  w : Below w.heap.size w W
section
variable {w W : World} {P : Nat → Int × Int} {lp : Loop} {k B : Nat}
theorem SqJ.later (h : SqJ w P lp k B W) {W' : World} (hb : Below W.heap.size W W') : SqJ w P lp k B W' := by
  obtain ⟨⟨v, rb, h1, h2, h3, h4⟩, hlo, hd, hl, hw⟩ := h
  exact ⟨⟨v, rb, keepB h1 hb, Tk.own h2 (.below hb), fun i hi => keepB (h3 i hi) hb, h4⟩, hlo, keepB hd hb, keepB hl hb, hw.nxt hb⟩
theorem SqJ.put (h : SqJ w P lp k B W) (r : Loop) : SqJ w P r k B (W.putObj (w.heap.size + 2) (.loop r)) := by
  obtain ⟨⟨v, rb, h1, h2, h3, h4⟩, hlo, hd, hl, hw⟩ := h
  have ne : ∀ {g : Nat} {cs : Array Value} {T : TypeId} {fr : Nat × Nat}, W.heap[g]? = some (.cells cs T fr) → g ≠ w.heap.size + 2 := fun e q => by rw [q, hl] at e; cases e
  refine ⟨⟨v, rb, ?_, ownsRow_putObj h2 _ hl rfl, fun i hi => ?_, h4⟩, hlo, ?_, World.putObj_heap_same (Array.getElem?_eq_some_iff.1 hl).1, putBelow hw (by omega) _⟩
  · unfold Boxed; rw [World.putObj_heap_other (by omega)]; exact h1
  · rw [World.putObj_heap_other (ne (h3 i hi))]; exact h3 i hi
  · rw [World.putObj_heap_other (by omega)]; exact hd
end
theorem row_other {W : World} {g : Nat} {cs : Array Value} {T : TypeId} {fr : Nat × Nat} (h : W.heap[g]? = some (.cells cs T fr)) {e : TypeId} (hne : T ≠ e) {base size n : Nat} {v : Value} {xs : List Value} (hr : W.ownsRow base e size v n xs) : some g ≠ v.ownBlock := by
  rcases hr.2 with ⟨rfl, -⟩ | ⟨q, cap, cur, rfl, -, hq, -⟩
  · simp [Value.ownBlock]
  · intro e'
    obtain rfl : g = q := by simpa [Value.ownBlock] using e'
    rw [hq] at h; cases h; exact hne rfl
/-- One bound more. -/
theorem SqJ.push {w W w1 : World} {P : Nat → Int × Int} {lp : Loop} {k gb : Nat} {v v' : Value} {rb : Nat → Nat} {tmp : Obj} (h1 : Boxed W w.heap.size 93 v) (h2 : W.ownsRow w.heap.size 96 2 v k (bdC P rb k))
    (h3 : ∀ i, i < k → W.heap[rb i]? = some (.cells (rtC (bnd P i).1) 27 (0, 0))) (hd : W.heap[w.heap.size + 1]? = some (.deferred (some []))) (hl : W.heap[w.heap.size + 2]? = some (.loop lp)) (hw : Below w.heap.size w W)
    (hrow : W.heap[gb]? = some (.cells (rtC (bnd P k).1) 27 (0, 0)))
    (hown' : w1.ownsRow w.heap.size 96 2 v' (k + 1) (bdC P rb k ++ [.slice (some ⟨gb, 0, none⟩) 4 4, Value.string ⟨(rtoa ((bnd P k).2)).toArray⟩])) (hgrow : (W.alloc tmp).grownBy w1 v.ownBlock) (hlo : w.heap.size + 3 ≤ W.heap.size) : SqJ w P lp (k + 1) (w1.setCell ⟨w.heap.size, 0, none⟩ v').heap.size (w1.setCell ⟨w.heap.size, 0, none⟩ v') := by
  obtain ⟨hv1, hv2, hr2, hk2, hb2⟩ := h1.appended (by decide) h2 hw.size (Nat.le_refl _) hown' hgrow
  have keep : ∀ {g : Nat} {cs : Array Value}, W.heap[g]? = some (.cells cs 27 (0, 0)) → (w1.setCell ⟨w.heap.size, 0, none⟩ v').heap[g]? = some (.cells cs 27 (0, 0)) := fun {g cs} e => by
    have hlt := (Array.getElem?_eq_some_iff.1 e).1
    have e1 := heap_setCell_other w1 ⟨w.heap.size, 0, none⟩ g v' (show g ≠ w.heap.size by
      rintro rfl
      have := (show W.heap[w.heap.size]? = _ from h1).symm.trans e
      cases this)
    have e2 := hgrow.block g (by simp; omega) (row_other e (by decide) h2)
    rw [e1, e2, Below.heap_alloc W tmp g hlt, e]
  refine ⟨⟨v', fun i => if i = k then gb else rb i, hv2, ?_, fun i hi => ?_, fun g e => ?_⟩, Nat.le_trans hlo hk2.size, hk2.same _ _ hd rfl, hk2.same _ _ hl rfl, hw.trans hb2⟩
  · rw [bdC_step, bdC_eq P k (rb' := rb) (fun i hi => if_neg (by omega)), if_pos rfl]
    exact hr2
  · by_cases q : i = k
    · subst q; simp only; exact keep hrow
    · simp only [if_neg q]; exact keep (h3 i (by omega))
  · rcases hr2.2 with ⟨rfl, -⟩ | ⟨q, cap, cur, rfl, -, hq, -⟩
    · simp [Value.ownBlock] at e
    · obtain rfl : q = g := by simpa [Value.ownBlock] using e
      exact (Array.getElem?_eq_some_iff.1 hq).1
/-- What lies above is not touched. -/
theorem push_keep {w W w1 : World} {v v' : Value} {B : Nat} {tmp : Obj} (hB : ∀ g, v.ownBlock = some g → g < B) (hlo : w.heap.size + 3 ≤ B) (hgrow : (W.alloc tmp).grownBy w1 v.ownBlock) (g : Nat) (h1 : B ≤ g) (h2 : g < W.heap.size) :
    (w1.setCell ⟨w.heap.size, 0, none⟩ v').heap[g]? = W.heap[g]? := by
  rw [heap_setCell_other w1 ⟨w.heap.size, 0, none⟩ g v' (show g ≠ w.heap.size by omega), hgrow.block g (by simp; omega) (fun e => by have := hB g e.symm; omega), Below.heap_alloc W tmp g h2]
def AsP (w : World) (P : Nat → Int × Int) (n : Nat) (e : Ending) (w' : World) : Prop :=
  ∃ v rb, e = .returned v ∧ w'.ownsRow w.heap.size 96 2 v n (bdC P rb n) ∧ (∀ i, i < n → w'.heap[rb i]? = some (.cells (rtC (bnd P i).1) 27 (0, 0))) ∧ Below w.heap.size w w'
theorem infoBd : (Tryz.prog.info? 96).map (fun i => (i.zero, i.size, i.bytes)) = some (some (.agg #[.slice none 0 0, .string ⟨#[]⟩]), 2, 40) := by kernel_rfl
theorem sq_new (w : World) (P : Nat → Int × Int) (r : Loop) : SqJ w P r 0 (((w.alloc (.cells #[.slice none 0 0] 93)).alloc (.deferred (some []))).alloc (.loop r)).heap.size (((w.alloc (.cells #[.slice none 0 0] 93)).alloc (.deferred (some []))).alloc (.loop r)) := by
  have h1 := heap_alloc_new w (.cells #[.slice none 0 0] 93)
  have b1 := lal w (.cells #[.slice none 0 0] 93)
  have s1 : (w.alloc (.cells #[.slice none 0 0] 93)).heap.size = w.heap.size + 1 := by simp
  generalize w.alloc (.cells #[.slice none 0 0] 93) = W1 at *
  have h3 := heap_alloc_new W1 (.deferred (some []))
  have b3 := lal W1 (.deferred (some []))
  have s3 : (W1.alloc (.deferred (some []))).heap.size = W1.heap.size + 1 := by simp
  generalize W1.alloc (.deferred (some [])) = W3 at *
  have h4 := heap_alloc_new W3 (.loop r)
  have b4 := lal W3 (.loop r)
  have s4 : (W3.alloc (.loop r)).heap.size = W3.heap.size + 1 := by simp
  generalize W3.alloc (.loop r) = W4 at *
  rw [s1] at h3
  rw [s3, s1] at h4
  exact ⟨⟨.slice none 0 0, fun _ => 0, keepB (keepB h1 b3) b4, World.ownsRow_nil _ _ _ _, fun i hi => absurd hi (Nat.not_lt_zero i), fun g e => by simp [Value.ownBlock] at e⟩, by omega, keepB h3 b4, h4, (b1.nxt b3).nxt b4⟩
theorem news2 (W : World) (x y : Value) (T : TypeId) : ∀ j u, [x, y][j]? = some u → (W.alloc (.cells #[x, y] T)).cell? ((⟨W.heap.size, 0, none⟩ : Addr).add j) = some u := by
  intro j u h
  rw [show (⟨W.heap.size, 0, none⟩ : Addr).add j = ⟨W.heap.size, j, none⟩ by (simp [Addr.add]; try (intro e; exact e.symm)), cell_of_row _ _ _ _ _ _ (heap_alloc_new W _)]
  simpa using h
theorem news2_one (gb : Nat) (q : Rat) : ∀ u ∈ [Value.slice (some ⟨gb, 0, none⟩) 4 4, Value.string ⟨(rtoa q).toArray⟩], u.oneCell' = true := by
  intro u hu
  simp only [List.mem_cons, List.mem_nil_iff, or_false] at hu
  rcases hu with rfl | rfl <;> rfl
set_option maxRecDepth 100000 in
set_option maxHeartbeats 4000000 in
theorem append_c {w : World} (hg : Good w) {n : Nat} (hn : n ≤ 64) {P : Nat → Int × Int} (ho : ∀ i, i < n → BnO (P i).1 (P i).2) {g off cap cb : Nat} (hc : w.cell? ⟨cb, 0, none⟩ = some (.slice (some ⟨g, off, none⟩) n cap)) (hP : PtsN w g off n P) :
    Calls Tryz.prog 79 #[.slice none 0 0, .func (.func 80) #[] #[.pointer (some ⟨cb, 0, none⟩)]] w (AsP w P (2 * n)) := by
  have HK := Lib.hid (fun W (hb : Below w.heap.size w W) => (⟨cellB hc hb, hP.later hb, hg.later hb⟩ : W.cell? ⟨cb, 0, none⟩ = some (.slice (some ⟨g, off, none⟩) n cap) ∧ PtsN W g off n P ∧ Good W))
  have HO := Lib.hid ho
  obtain ⟨i0, hi, hz0, hz1, hz2⟩ := info_parts infoBd
  clear hc hP hg ho
  refine calls_marks Tryz.func79 rfl ?_
  simp only [Tryz.ntmps79, List.size_toArray, List.length_cons, List.length_nil, Nat.reduceAdd, Nat.reduceSub, Array.replicate_succ, Array.replicate_zero, List.push_toArray, List.append_toArray, List.nil_append, List.cons_append]
  go_wp2_with fail
  have hs := fun r => sq_new w P r
  refine range_named (gf := 80) (lb := #[.pointer (some ⟨cb, 0, none⟩)]) rfl (enters_of Tryz.func80 (by kernel_rfl) rfl) (fun fn lp hlp => ?_)
  have hsz : (w.alloc (.cells #[.slice none 0 0] 93)).heap.size = w.heap.size + 1 := by simp
  rw [hsz] at hlp ⊢
  simp only [Nat.add_assoc, Nat.reduceAdd]
  have HLP := Lib.hid hlp
  have hj := hs (lp .ready none)
  generalize ((w.alloc (.cells #[.slice none 0 0] 93)).alloc (.deferred (some []))).alloc (.loop (lp .ready none)) = W4 at *
  clear hsz hs hlp
  refine (bounds_in hn HO.out cb (w.heap.size + 2) (fun s B W => SqJ w P (lp .ready none) s B W) (fun s B W1 W2 j b => j.later b) (fun s B W1 j => HK.out W1 j.w) ?go W4 hj).mono ?_
  case go =>
    intro s B gb W1 hs hj1 hrow
    have HJ1 := Lib.hid hj1
    have hb1 := lal W1 (.cells #[.slice (some ⟨gb, 0, none⟩) 4 4, Value.string ⟨(rtoa ((bnd P s).2)).toArray⟩] 96)
    have HP := Lib.hid ((hj1.later hb1).put (lp .busy none))
    have hne : gb ≠ w.heap.size + 2 := fun q => by rw [q, hj1.lp] at hrow; cases hrow
    have hne2 : W1.heap.size ≠ w.heap.size + 2 := by
      have := (Array.getElem?_eq_some_iff.1 hj1.lp).1; omega
    have HRO := Lib.hid (show ((W1.alloc (.cells #[.slice (some ⟨gb, 0, none⟩) 4 4, Value.string ⟨(rtoa ((bnd P s).2)).toArray⟩] 96)).putObj (w.heap.size + 2) (.loop (lp .busy none))).heap[gb]? = some (.cells (rtC (bnd P s).1) 27 (0, 0)) from by rw [World.putObj_heap_other hne]; exact keepB hrow hb1)
    have HNC := Lib.hid (show ((W1.alloc (.cells #[.slice (some ⟨gb, 0, none⟩) 4 4, Value.string ⟨(rtoa ((bnd P s).2)).toArray⟩] 96)).putObj (w.heap.size + 2) (.loop (lp .busy none))).heap[W1.heap.size]? = some (.cells #[.slice (some ⟨gb, 0, none⟩) 4 4, Value.string ⟨(rtoa ((bnd P s).2)).toArray⟩] 96 (0, 0)) from by rw [World.putObj_heap_other hne2]; exact heap_alloc_new W1 _)
    have HL2 := Lib.hid (keepB hj1.lp hb1)
    have HKP := Lib.hid (show ∀ g, B ≤ g → g < W1.heap.size → ((W1.alloc (.cells #[.slice (some ⟨gb, 0, none⟩) 4 4, Value.string ⟨(rtoa ((bnd P s).2)).toArray⟩] 96)).putObj (w.heap.size + 2) (.loop (lp .busy none))).heap[g]? = W1.heap[g]? ∧ g < ((W1.alloc (.cells #[.slice (some ⟨gb, 0, none⟩) 4 4, Value.string ⟨(rtoa ((bnd P s).2)).toArray⟩] 96)).putObj (w.heap.size + 2) (.loop (lp .busy none))).heap.size from fun g h1 h2 => by
      have := hj1.lo
      refine ⟨by rw [World.putObj_heap_other (by omega)]; exact Below.heap_alloc W1 _ g h2, by rw [World.putObj_size]; exact Nat.lt_of_lt_of_le h2 hb1.size⟩)
    have hsz2 : w.heap.size + 3 ≤ ((W1.alloc (.cells #[.slice (some ⟨gb, 0, none⟩) 4 4, Value.string ⟨(rtoa ((bnd P s).2)).toArray⟩] 96)).putObj (w.heap.size + 2) (.loop (lp .busy none))).heap.size := by
      have := (Array.getElem?_eq_some_iff.1 hj1.lp).1
      rw [World.putObj_size]
      exact Nat.le_trans this hb1.size
    obtain ⟨q, hq⟩ : ∃ q, (bnd P s).2 = q := ⟨_, rfl⟩
    have HQ := Lib.hid hq
    rw [hq] at HP HRO HNC HL2 HKP hsz2 ⊢
    clear hj1 hrow hb1 hne hne2 hq hj
    apply yield_named2 HLP.out (W1.alloc (.cells #[.slice (some ⟨gb, 0, none⟩) 4 4, Value.string ⟨(rtoa q).toArray⟩] 96)) HJ1.out.lp HL2.out rfl
    · intro K hK
      gi_wp2
      exact hK
    · generalize (W1.alloc (.cells #[.slice (some ⟨gb, 0, none⟩) 4 4, Value.string ⟨(rtoa q).toArray⟩] 96)).putObj (w.heap.size + 2) (.loop (lp .busy none)) = W2 at *
      obtain ⟨⟨v, rb, hv, hown, hrs, hvb⟩, hlo, hd, hl, hw⟩ := HP.out
      have HVB := Lib.hid hvb
      obtain ⟨z0, z1⟩ := c2of HNC.out
      have hc := hv.cell
      have HV := Lib.hid hv
      have HOW := Lib.hid hown
      have HRS := Lib.hid hrs
      have HDL := Lib.hid (And.intro hd (And.intro hl hw))
      clear HP HL2 HJ1 hv hown hrs hd hl hw hvb
      gi_wp2_with (gi_at_builtin; refine wpListIn_append_own _ rfl _ _ 93 rfl w.heap.size 96 i0 (.agg #[.slice none 0 0, .string ⟨#[]⟩]) 2 40 Tryz.underlying93 hi hz0 hz1 hz2 rfl (by decide) _ _ _ rfl (Tk.own HOW.out (.below (lal W2 _))) ⟨W2.heap.size, 0, none⟩ 1 1 [.slice (some ⟨gb, 0, none⟩) 4 4, Value.string ⟨(rtoa q).toArray⟩] rfl rfl (news2 W2 _ _ _) (news2_one gb q) (by unfold maxLen; omega) (by omega) (Nat.le_trans HDL.out.2.2.size (lal W2 _).size) ?_; intro v' w1 hown' hgrow _; obtain ⟨g', cap', rfl⟩ := ownsRow_succ hown'; have HV1 := Lib.hid (HV.out.appended (by decide) HOW.out HDL.out.2.2.size (Nat.le_refl _) hown' hgrow).1; have hc1 := HV1.out.cell; have hf1 := HV1.out.frozen; have HS := Lib.hid (SqJ.push (v' := .slice (some ⟨g', 0, none⟩) (s + 1) cap') HV.out HOW.out HRS.out HDL.out.1 HDL.out.2.1 HDL.out.2.2 HRO.out (by rw [HQ.out]; exact hown') hgrow hsz2); have HPK := Lib.hid (fun g h1 h2 => push_keep (v' := .slice (some ⟨g', 0, none⟩) (s + 1) cap') HVB.out hlo hgrow g h1 h2); clear hown' hgrow hc z0 z1 HV HOW HRS HDL HRO HNC)
      refine ⟨HS.out.lp, rfl, ?_, fun g h1 h2 => ?_⟩
      · rw [World.putObj_size]; exact HS.out.put _
      · rw [World.putObj_heap_other (by omega), HPK.out g h1 (HKP.out g h1 h2).2, (HKP.out g h1 h2).1]
  · rintro e W2 ⟨hv, hh⟩
    refine ⟨hv, .ready, none, hh.lp, by decide, ?_⟩
    have HP := Lib.hid (hh.put (lp .exhausted none))
    simp only [After]
    clear hh hj
    generalize W2.putObj (w.heap.size + 2) (.loop (lp .exhausted none)) = W3 at *
    obtain ⟨⟨v, rb, hv, hown, hrs, -⟩, -, hd, hl, hw⟩ := HP.out
    have hc := hv.cell
    have HOW := Lib.hid hown
    have HRS := Lib.hid hrs
    have HDL := Lib.hid (And.intro hd (And.intro hl hw))
    clear HP hv hown hrs hd hl hw
    go_wp2
    refine postM_ret1 rfl HDL.out.1 (results_tmp rfl _ _ _) ⟨_, rb, rfl, ownsRow_putObj HOW.out _ HDL.out.1 rfl, fun i hi => ?_, putBelow HDL.out.2.2 (by omega) _⟩
    have := HRS.out i hi
    rw [World.putObj_heap_other (fun q => by rw [q, HDL.out.1] at this; cases this)]
    exact this
set_option maxRecDepth 100000 in
theorem collect_c {w : World} (hg : Good w) {n : Nat} (hn : n ≤ 64) {P : Nat → Int × Int} (ho : ∀ i, i < n → BnO (P i).1 (P i).2) {g off cap cb : Nat} (hc : w.cell? ⟨cb, 0, none⟩ = some (.slice (some ⟨g, off, none⟩) n cap)) (hP : PtsN w g off n P) :
    Calls Tryz.prog 43 #[.func (.func 80) #[] #[.pointer (some ⟨cb, 0, none⟩)]] w (AsP w P (2 * n)) := by
  have HA := Lib.hid (append_c hg hn ho hc hP)
  clear hg ho hc hP
  go_enter Tryz.func43, Tryz.ntmps43
  go_wp2_with fail
  ((with_reducible refine (HA.out).mono ?_); rintro e w1 ⟨v, rb, rfl, h1, h2, h3⟩)
  have HF := Lib.hid (And.intro h1 (And.intro h2 h3))
  clear HA h1 h2 h3
  go_wp2
  go_ret
  exact ⟨_, rb, rfl, HF.out⟩
/-- The bounds that a call has collected are six bounds in memory. -/
theorem AsP.bds {w w' : World} {P : Nat → Int × Int} {v : Value} {rb : Nat → Nat} (h1 : w'.ownsRow w.heap.size 96 2 v 6 (bdC P rb 6)) (h2 : ∀ i, i < 6 → w'.heap[rb i]? = some (.cells (rtC (bnd P i).1) 27 (0, 0))) {B : Nat → List Rat × Rat} (hB : ∀ i, i < 6 → bnd P i = B i) (hl : ∀ i, i < 6 → (B i).1.length = 4) :
    ∃ gB cap, v = .slice (some ⟨gB, 0, none⟩) 6 cap ∧ Bds w' gB 0 rb B := by
  rcases h1.2 with ⟨-, z⟩ | ⟨q, cap, cur, rfl, -, hq, -, -, -, ht⟩
  · omega
  · refine ⟨q, cap, rfl, fun i hi => ?_⟩
    obtain ⟨a1, a2⟩ := bdC_at P rb 6 i hi
    rw [← ht, List.getElem?_take, if_pos (by omega), Array.getElem?_toList] at a1 a2
    rw [hB i hi] at a2
    refine ⟨?_, ?_, fun k hk => ?_⟩
    · rw [cell_of_row _ _ _ _ _ _ hq, Nat.zero_add]; exact a1
    · rw [cell_of_row _ _ _ _ _ _ hq, Nat.zero_add]; exact a2
    · have h := h2 i hi
      rw [hB i hi] at h
      rw [cell_of_row _ _ _ _ _ _ h]
      have hk' : k < (B i).1.length := by rw [hl i hi]; exact hk
      rw [Lp.at_get hk']
      simp [rtC, rtF, List.getElem?_eq_getElem hk']
end Go.Proofs.Wk
/- RINGS: the ring of the law's example. -/
namespace Go.Proofs.Wk
open Go.RowKit Go.Rng Mt

theorem results_c2t {P : Program} {fn : Func} {p u x : Tmp} {ty : TypeId} (h : fn.results = #[.cell p ty, .tmp u, .tmp x]) (tmps : Array Value) (w : World) (g : Nat) (t : TypeId) (cs : Array Value) (fr : Nat × Nat) (d : TypeDesc)
    (hp : tmps.getD p undef = .pointer (some ⟨g, 0, none⟩)) (hg : w.heap[g]? = some (.cells cs t fr))
    (hu : P.underlying ty = some d) (hd : (match d with | .struct _ | .array _ _ => true | _ => false) = true) (hi : (P.info? ty).map (·.size) = some cs.size) :
    (results fn tmps).run P w = .ok (.tuple #[.agg cs, tmps.getD u undef, tmps.getD x undef]) w := by
  have e : (results fn tmps).run P w = ((asAddr (tmps.getD p undef)).run P w).andThen fun a w₁ => ((loadVar ty a).run P w₁).andThen fun v w₂ => .ok (.tuple #[v, tmps.getD u undef, tmps.getD x undef]) w₂ := by
    simp only [results, h]
    simp [Sem.run_bind, Result.andThen]
  rw [e, hp]
  simp [asAddr, Result.andThen, run_loadVar_row w g t ty cs fr d hg hu hd hi]
/-- Three points on a line. -/
def exP : Nat → Int × Int := fun i => if i = 0 then (0, 0) else if i = 1 then (2, 0) else (1, 0)
def exL : List St.Pt := [⟨0, 0⟩, ⟨2, 0⟩, ⟨1, 0⟩]
def exC : Array Value := #[.int .i64 0, .int .i64 0, .int .i64 2, .int .i64 0, .int .i64 1, .int .i64 0]
theorem exP_is {i : Nat} (h : i < 3) : i = 0 ∨ i = 1 ∨ i = 2 := by omega
theorem ex_pts {W : World} {g : Nat} {T : TypeId} {fr : Nat × Nat} (h : W.heap[g]? = some (.cells exC T fr)) : PtsN W g 0 3 exP := by
  intro i hi
  rw [cell_of_row _ _ _ _ _ _ h, cell_of_row _ _ _ _ _ _ h]
  rcases exP_is hi with rfl | rfl | rfl <;> exact ⟨rfl, rfl⟩
theorem ex_sl {W : World} {g : Nat} {T : TypeId} {fr : Nat × Nat} (h : W.heap[g]? = some (.cells exC T fr)) : SlX W (.slice (some ⟨g, 0, none⟩) 3 3) exL := by
  refine .inr ⟨g, 0, 3, rfl, fun i hi j hj => ?_, (Array.getElem?_eq_some_iff.1 h).1⟩
  rw [cell_of_row _ _ _ _ _ _ h]
  match i, hi, j, hj with
  | 0, _, 0, _ => rfl
  | 0, _, 1, _ => rfl
  | 1, _, 0, _ => rfl
  | 1, _, 1, _ => rfl
  | 2, _, 0, _ => rfl
  | 2, _, 1, _ => rfl
theorem ex_giv : St.givP exL = 0 := by decide
theorem ex_bno (i : Nat) (h : i < 3) : BnO (exP i).1 (exP i).2 := by
  rcases exP_is h with rfl | rfl | rfl <;> constructor <;> decide
theorem ex_bnd (i : Nat) (h : i < 6) : bnd exP i = exR i := by
  have : i = 0 ∨ i = 1 ∨ i = 2 ∨ i = 3 ∨ i = 4 ∨ i = 5 := by omega
  rcases this with rfl | rfl | rfl | rfl | rfl | rfl <;> decide +kernel
theorem ex_len (i : Nat) (h : i < 6) : (exR i).1.length = 4 := by
  have : i = 0 ∨ i = 1 ∨ i = 2 ∨ i = 3 ∨ i = 4 ∨ i = 5 := by omega
  rcases this with rfl | rfl | rfl | rfl | rfl | rfl <;> rfl
def exQ (i : Nat) : Rat := sqQ (exP i).1 (exP i).2 1 0
theorem ex_mi : Lp.miF exQ 3 = 0 := by decide +kernel
theorem ex_ma : Lp.maF exQ 3 = 1 := by decide +kernel
theorem ex_at : AtO 3 exP 1 0 exQ where
  n0 := by omega
  n1 := by omega
  qe := fun i _ => rfl
  sq := fun i hi => by rcases exP_is hi with rfl | rfl | rfl <;> constructor <;> decide +kernel
  sm := fun i hi => by rcases exP_is hi with rfl | rfl | rfl <;> decide +kernel
  mi := fun i hi => by rcases exP_is hi with rfl | rfl | rfl <;> decide +kernel
theorem ex_g4 {W : World} {g : Nat} {T : TypeId} {fr : Nat × Nat} (h : W.heap[g]? = some (.cells #[.string ⟨#[48]⟩, .string ⟨#[48]⟩, .string ⟨#[49]⟩, .string ⟨#[45, 49]⟩] T fr)) : Num4 W g [0, 0, 1, -1] := by
  have z := z_lit
  have o := rt_one
  have m := rt_neg
  intro k hk
  rw [cell_of_row _ _ _ _ _ _ h]
  match k, hk with
  | 0, _ => exact congrArg some z
  | 1, _ => exact congrArg some z
  | 2, _ => exact congrArg some o
  | 3, _ => exact congrArg some m
/-- Four cells written. -/
theorem set4 {W : World} {g : Nat} {u0 u1 u2 u3 : Value} {T : TypeId} (h : W.heap[g]? = some (.cells #[u0, u1, u2, u3] T (0, 0))) (a b c d : Value) :
    ((((W.setCell ⟨g, 0, none⟩ a).setCell ⟨g, 1, none⟩ b).setCell ⟨g, 2, none⟩ c).setCell ⟨g, 3, none⟩ d).heap[g]? = some (.cells #[a, b, c, d] T (0, 0)) ∧
    (∀ k, k ≠ g → ((((W.setCell ⟨g, 0, none⟩ a).setCell ⟨g, 1, none⟩ b).setCell ⟨g, 2, none⟩ c).setCell ⟨g, 3, none⟩ d).heap[k]? = W.heap[k]?) ∧
    ∀ B w, Below B w W → B ≤ g → Below B w ((((W.setCell ⟨g, 0, none⟩ a).setCell ⟨g, 1, none⟩ b).setCell ⟨g, 2, none⟩ c).setCell ⟨g, 3, none⟩ d) := by
  have h0 := heap_setCell_same W g 0 _ _ a h
  have h1 := heap_setCell_same _ g 1 _ _ b h0
  have h2 := heap_setCell_same _ g 2 _ _ c h1
  refine ⟨heap_setCell_same _ g 3 _ _ d h2, fun k hk => ?_, fun B w hB hle => Below.setc (Below.setc (Below.setc (Below.setc hB hle _ _) hle _ _) hle _ _) hle _ _⟩
  exact (((heap_setCell_other _ ⟨g, 3, none⟩ k d hk).trans (heap_setCell_other _ ⟨g, 2, none⟩ k c hk)).trans (heap_setCell_other _ ⟨g, 1, none⟩ k b hk)).trans (heap_setCell_other W ⟨g, 0, none⟩ k a hk)
theorem set4x {W : World} {g : Nat} {u0 u1 u2 u3 : Value} {T : TypeId} (h : W.heap[g]? = some (.cells #[u0, u1, u2, u3] T (0, 0))) (a b c d : Value) :
    ∃ wz, ((((W.setCell ⟨g, 0, none⟩ a).setCell ⟨g, 1, none⟩ b).setCell ⟨g, 2, none⟩ c).setCell ⟨g, 3, none⟩ d) = wz ∧ wz.heap[g]? = some (.cells #[a, b, c, d] T (0, 0)) ∧ (∀ k, k ≠ g → wz.heap[k]? = W.heap[k]?) ∧ ∀ B w, Below B w W → B ≤ g → Below B w wz := ⟨_, rfl, set4 h a b c d⟩
theorem ring_fin {w wr W wz : World} {gs gz : Nat} {cs zs : Array Value} {T U : TypeId} (h : Below w.heap.size w wr ∧ wr.heap[w.heap.size]? = some (.cells zs U (0, 0)) ∧ RnS wr gs) (hb : Below wr.heap.size wr W) (hle : wr.heap.size ≤ gz)
    (s1 : wz.heap[gz]? = some (.cells cs T (0, 0))) (s2 : ∀ k, k ≠ gz → wz.heap[k]? = W.heap[k]?) (s3 : ∀ B w, Below B w W → B ≤ gz → Below B w wz) :
    wz.heap[gz]? = some (.cells cs T (0, 0)) ∧ wz.heap[w.heap.size]? = some (.cells zs U (0, 0)) ∧ wz.heap[gs]? = some (.cells #[.int .i64 0] 102 (0, 0)) ∧ Below w.heap.size w wz := by
  obtain ⟨hw, hz, hs⟩ := h
  have l1 := (Array.getElem?_eq_some_iff.1 hz).1
  have l2 := (Array.getElem?_eq_some_iff.1 hs).1
  refine ⟨s1, ?_, ?_, s3 _ _ (hw.nxt hb) (by omega)⟩
  · rw [s2 _ (by omega)]; exact keepB hz hb
  · rw [s2 _ (by omega)]; exact keepB hs hb
theorem c4of {w : World} {g : Nat} {a b c d : Value} {T : TypeId} {fr : Nat × Nat} (h : w.heap[g]? = some (.cells #[a, b, c, d] T fr)) : w.cell? ⟨g, 0, none⟩ = some a ∧ w.cell? ⟨g, 1, none⟩ = some b ∧ w.cell? ⟨g, 2, none⟩ = some c ∧ w.cell? ⟨g, 3, none⟩ = some d :=
  ⟨by rw [cell_of_row _ _ _ _ _ _ h]; rfl, by rw [cell_of_row _ _ _ _ _ _ h]; rfl, by rw [cell_of_row _ _ _ _ _ _ h]; rfl, by rw [cell_of_row _ _ _ _ _ _ h]; rfl⟩
def RgP (w : World) (e : Ending) (w' : World) : Prop := ∃ v, e = .returned (.tuple #[.agg #[Value.string ⟨(rtoa 1).toArray⟩, Value.string ⟨(rtoa 0).toArray⟩, Value.string ⟨(rtoa 0).toArray⟩, Value.string ⟨(rtoa 1).toArray⟩], v, .int .i64 0]) ∧ Below w.heap.size w w'
theorem wt_sm (k : Nat) (h : k < 6) : Lp.sm (Lp.at_ [1/2, 0, 1/2, 0, 0, 1] k) = true := by
  have : k = 0 ∨ k = 1 ∨ k = 2 ∨ k = 3 ∨ k = 4 ∨ k = 5 := by omega
  rcases this with rfl | rfl | rfl | rfl | rfl | rfl <;> decide +kernel
set_option maxRecDepth 100000 in
set_option linter.unusedSimpArgs false in
set_option maxHeartbeats 4000000 in
theorem ring_c {w : World} (hg : Good w) {g : Nat} (hr : w.heap[g]? = some (.cells exC 24 (0, 0))) : Calls Tryz.prog 22 #[.slice (some ⟨g, 0, none⟩) 3 3] w (RgP w) := by
  have HG := Lib.hid (fun W (k : Below w.heap.size w W) => hg.later k)
  have HR := Lib.hid (fun W (k : Below w.heap.size w W) => keepB hr k)
  have HGV := Lib.hid (fun W (k : Below w.heap.size w W) => rgiven_c exL W (ex_sl (keepB hr k)) (by decide) ex_giv)
  have hz0 := heap_alloc_new w (.cells #[eV, eV, eV, eV] 63)
  have hb0 := lal w (.cells #[eV, eV, eV, eV] 63)
  clear hr hg
  go_enter Tryz.func22, Tryz.ntmps22
  go_wp2_with fail
  generalize w.alloc (.cells #[eV, eV, eV, eV] 63) = w0 at *
  ((with_reducible refine (HGV.out _ hb0).mono ?_); rintro en w1 ⟨rfl, hb1⟩)
  have hz1 := keepB hz0 hb1
  have B1 := hb0.nxt hb1
  clear hz0 hb0 hb1 HGV
  go_wp2_with fail
  ((with_reducible refine (bounds_c (some ⟨g, 0, none⟩) 3 3 w1).mono ?_); rintro en w2 ⟨rfl, rfl⟩)
  have hc2 := one_cell (heap_alloc_new w1 (.cells #[.slice (some ⟨g, 0, none⟩) 3 3] 22))
  have B2 := B1.nxt (lal w1 (.cells #[.slice (some ⟨g, 0, none⟩) 3 3] 22))
  have hz2 := keepB hz1 (lal w1 (.cells #[.slice (some ⟨g, 0, none⟩) 3 3] 22))
  have HCL := Lib.hid (collect_c (HG.out _ B2) (by omega) ex_bno hc2 (ex_pts (HR.out _ B2)))
  clear hz1 B1 hc2
  generalize w1.alloc (.cells #[.slice (some ⟨g, 0, none⟩) 3 3] 22) = w2 at *
  go_wp2_with fail
  ((with_reducible refine (HCL.out).mono ?_); rintro en w3 ⟨v3, rb, rfl, o1, o2, hb3⟩)
  obtain ⟨gB, cB, rfl, hB3⟩ := AsP.bds o1 o2 ex_bnd ex_len
  have B3 := B2.nxt hb3
  have hz3 := keepB hz2 hb3
  have bq := lal w3 (.cells #[.string ⟨#[48]⟩, .string ⟨#[48]⟩, .string ⟨#[49]⟩, .string ⟨#[45, 49]⟩] 27)
  have HMS := Lib.hid (most_ex (cap := cB) (HG.out _ (B3.nxt bq)) (hB3.later bq) (ex_g4 (heap_alloc_new w3 (.cells #[.string ⟨#[48]⟩, .string ⟨#[48]⟩, .string ⟨#[49]⟩, .string ⟨#[45, 49]⟩] 27))))
  have B4 := B3.nxt bq
  have hz4 := keepB hz3 bq
  clear hz2 B2 HCL o1 o2 hb3 B3 hz3 bq hB3
  go_wp2_with fail
  generalize w3.alloc (.cells #[.string ⟨#[48]⟩, .string ⟨#[48]⟩, .string ⟨#[49]⟩, .string ⟨#[45, 49]⟩] 27) = w4 at *
  ((with_reducible refine (HMS.out).mono ?_); rintro en w5 ⟨p, q, rfl, hp, hq, hb5⟩)
  have B5 := B4.nxt hb5
  have hz5 := keepB hz4 hb5
  obtain ⟨gp, cp, rfl, -, kp⟩ := hp.cells (by decide)
  obtain ⟨gq, cq, rfl, -, kq⟩ := hq.cells (by decide)
  simp only [List.length_cons, List.length_nil, Nat.reduceAdd] at kp kq ⊢
  have kp0 : w5.cell? ⟨gp, 0, none⟩ = some ((Value.string ⟨(rtoa 1).toArray⟩)) := kp 0 (by omega)
  have kp1 : w5.cell? ⟨gp, 1, none⟩ = some ((Value.string ⟨(rtoa 0).toArray⟩)) := kp 1 (by omega)
  have b6 := lal w5 (.cells #[.int .i64 0] 102)
  have B6 := B5.nxt b6
  have hz6 := keepB hz5 b6
  have hs6 : RnS (w5.alloc (.cells #[.int .i64 0] 102)) w5.heap.size := heap_alloc_new w5 _
  have hgs : w5.heap.size ≠ w.heap.size := by
    have := (Array.getElem?_eq_some_iff.1 hz5).1
    omega
  have KP := Lib.hid (show (w5.alloc (.cells #[.int .i64 0] 102)).cell? ⟨gp, 0, none⟩ = some ((Value.string ⟨(rtoa 1).toArray⟩)) ∧ (w5.alloc (.cells #[.int .i64 0] 102)).cell? ⟨gp, 1, none⟩ = some ((Value.string ⟨(rtoa 0).toArray⟩)) from ⟨cellB kp0 b6, cellB kp1 b6⟩)
  have KQ := Lib.hid (fun k (hk : k < 6) => cellB (kq k hk) b6)
  have hsz := Nat.le_trans hb5.size b6.size
  clear hz4 B4 HMS hp hq hb5 B5 hz5 kp kq kp0 kp1 b6
  go_wp2_with fail
  generalize hgs0 : w5.heap.size = gs at *
  generalize w5.alloc (.cells #[.int .i64 0] 102) = w6 at *
  have HB6 := Lib.hid (And.intro B6 (And.intro hz6 hs6))
  clear B6 hz6 hs6 hsz hgs0
  go_loopw [11, 43] (fun sv si wr => ∃ (k : Nat) (l : List Rat), si = .int .i64 (k : Int) ∧ k ≤ 3 ∧ l.length = k ∧ Hid (Nms wr w6.heap.size sv l) ∧ Hid (Below w6.heap.size w6 wr)) (fun _ si _ => 3 - (intOf si).toNat)
  case atStart => exact ⟨0, [], rfl, Nat.zero_le _, rfl, ⟨rfl, .inl ⟨rfl, rfl⟩⟩, Below.refl _ _⟩
  case round =>
    obtain ⟨k, l, rfl, hk, hlen, hN, hB⟩ := hrel
    by_cases hlt : k < 3
    · have hx1 := KQ.out (2 * k) (by omega)
      have hx2 := KQ.out (2 * k + 1) (by omega)
      have hy1 := wt_sm (2 * k) (by omega)
      have hy2 := wt_sm (2 * k + 1) (by omega)
      generalize Lp.at_ [1/2, 0, 1/2, 0, 0, 1] (2 * k) = xa at *
      generalize Lp.at_ [1/2, 0, 1/2, 0, 0, 1] (2 * k + 1) = xb at *
      have HALL := Lib.hid (fun (W' : World) (b : Below wr.heap.size wr W') => (⟨cellB hx1 (hB.out.nxt b), cellB hx2 (hB.out.nxt b)⟩ : W'.cell? ⟨gq, 2 * k, none⟩ = some ((Value.string ⟨(rtoa xa).toArray⟩)) ∧ W'.cell? ⟨gq, 2 * k + 1, none⟩ = some ((Value.string ⟨(rtoa xb).toArray⟩))))
      have HSB := Lib.hid (fun W' (b : Below wr.heap.size wr W') => rsub_c (sm_sz hy1) (sm_sz hy2) (by omega) gs W' (HG.out _ (HB6.out.1.nxt (hB.out.nxt b))) (HB6.out.2.2.later (hB.out.nxt b)))
      have i1 : (0 : Int) ≤ 2 * (k : Int) := by omega
      have i2 : 2 * (k : Int) < 6 := by omega
      have i3 : (2 * (k : Int)).toNat = 2 * k := by omega
      have i4 : (0 : Int) ≤ 2 * (k : Int) + 1 := by omega
      have i5 : 2 * (k : Int) + 1 < 6 := by omega
      have i6 : (2 * (k : Int) + 1).toNat = 2 * k + 1 := by omega
      have w8 : IntKind.i64.wrap (2 * (k : Int)) = 2 * (k : Int) := by rw [IntKind.wrap_i64]; omega
      have w9 : IntKind.i64.wrap (2 * (k : Int) + 1) = 2 * (k : Int) + 1 := by rw [IntKind.wrap_i64]; omega
      have hb0 := Below.refl wr.heap.size wr
      clear hx1 hx2 hy1 hy2 KQ KP HR
      go_wp2_with fail
      refine Go.Front.wp_region_front (S := fun V => V.cell? ⟨gq, 2 * k, none⟩ = some (.string ⟨(rtoa xa).toArray⟩) ∧ V.cell? ⟨gq, 2 * k + 1, none⟩ = some (.string ⟨(rtoa xb).toArray⟩)) 15 (by kernel_rfl) (by simp) (by kernel_rfl) (by kernel_rfl) (by kernel_rfl) (by kernel_rfl) ?_ (fun hHeld => ?_)
      · (first | with_reducible exact HALL.out _ B3 | with_reducible exact HALL.out _ B2 | with_reducible exact HALL.out _ hb0.drew)
      simp only [List.take_succ_cons, List.take_zero, List.drop_succ_cons, List.drop_zero]
      refine wpAnyH_take (i := 0) (v := ?_) rfl (by kernel_rfl) (by kernel_rfl) (by kernel_rfl) (fun _ _ _ h => h) (Or.inl ⟨by rfl, ?_⟩) hHeld ?_
      rotate_left
      · intro W hSw; (try dsimp only at hSw); go_simp <;> with_reducible rfl
      (try simp only [Act.put, List.setIfInBounds_toArray, List.set_cons_zero, List.set_cons_succ])
      refine wpAnyH_take (i := 1) (v := ?_) rfl (by kernel_rfl) (by kernel_rfl) (by kernel_rfl) (fun _ _ _ h => h) (Or.inl ⟨by rfl, ?_⟩) hHeld ?_
      rotate_left
      · intro W hSw; (try dsimp only at hSw); go_simp <;> with_reducible rfl
      (try simp only [Act.put, List.setIfInBounds_toArray, List.set_cons_zero, List.set_cons_succ])
      refine wpAnyH_take (i := 2) (v := ?_) rfl (by kernel_rfl) (by kernel_rfl) (by kernel_rfl) (fun _ _ _ h => h) (Or.inl ⟨by rfl, ?_⟩) hHeld ?_
      rotate_left
      · intro W hSw; (try dsimp only at hSw); go_simp <;> with_reducible rfl
      (try simp only [Act.put, List.setIfInBounds_toArray, List.set_cons_zero, List.set_cons_succ])
      refine wpAnyH_take (i := 3) (v := ?_) rfl (by kernel_rfl) (by kernel_rfl) (by kernel_rfl) (fun _ _ _ h => h) (Or.inl ⟨by rfl, ?_⟩) hHeld ?_
      rotate_left
      · intro W hSw; (try dsimp only at hSw); go_simp <;> with_reducible rfl
      (try simp only [Act.put, List.setIfInBounds_toArray, List.set_cons_zero, List.set_cons_succ])
      refine wpAnyH_take (i := 4) (v := ?_) rfl (by kernel_rfl) (by kernel_rfl) (by kernel_rfl) (fun _ _ _ h => h) (Or.inl ⟨by rfl, ?_⟩) hHeld ?_
      rotate_left
      · intro W hSw; (try dsimp only at hSw); go_simp <;> with_reducible rfl
      (try simp only [Act.put, List.setIfInBounds_toArray, List.set_cons_zero, List.set_cons_succ])
      refine wpAnyH_take (i := 5) (v := ?_) rfl (by kernel_rfl) (by kernel_rfl) (by kernel_rfl) (fun _ _ _ h => h) (Or.inl ⟨by rfl, ?_⟩) hHeld ?_
      rotate_left
      · intro W hSw; (try dsimp only at hSw); go_simp <;> with_reducible rfl
      (try simp only [Act.put, List.setIfInBounds_toArray, List.set_cons_zero, List.set_cons_succ])
      refine wpAnyH_take (i := 6) (v := ?_) rfl (by kernel_rfl) (by kernel_rfl) (by kernel_rfl) (fun _ _ _ h => h) (Or.inl ⟨by rfl, ?_⟩) hHeld ?_
      rotate_left
      · intro W hSw; (try dsimp only at hSw); go_simp <;> with_reducible rfl
      (try simp only [Act.put, List.setIfInBounds_toArray, List.set_cons_zero, List.set_cons_succ])
      refine wpAnyH_take (i := 7) (v := ?_) rfl (by kernel_rfl) (by kernel_rfl) (by kernel_rfl) (fun _ _ _ h => h) (Or.inl ⟨by rfl, ?_⟩) hHeld ?_
      rotate_left
      · intro W hSw; (try dsimp only at hSw); go_simp <;> with_reducible rfl
      (try simp only [Act.put, List.setIfInBounds_toArray, List.set_cons_zero, List.set_cons_succ])
      refine wpAnyH_take (i := 8) (v := ?_) rfl (by kernel_rfl) (by kernel_rfl) (by kernel_rfl) (fun _ _ _ h => h) (Or.inl ⟨by rfl, ?_⟩) hHeld ?_
      rotate_left
      · intro W hSw; (try dsimp only at hSw); go_simp <;> with_reducible rfl
      (try simp only [Act.put, List.setIfInBounds_toArray, List.set_cons_zero, List.set_cons_succ])
      refine wpAnyH_take (i := 9) (v := ?_) rfl (by kernel_rfl) (by kernel_rfl) (by kernel_rfl) (fun _ _ _ h => h) (Or.inl ⟨by rfl, ?_⟩) hHeld ?_
      rotate_left
      · intro W hSw; (try dsimp only at hSw); go_simp <;> with_reducible rfl
      (try simp only [Act.put, List.setIfInBounds_toArray, List.set_cons_zero, List.set_cons_succ])
      refine wpAnyH_take (i := 10) (v := ?_) rfl (by kernel_rfl) (by kernel_rfl) (by kernel_rfl) (fun _ _ _ h => h) (Or.inl ⟨by rfl, ?_⟩) hHeld ?_
      rotate_left
      · intro W hSw; (try dsimp only at hSw); go_simp <;> with_reducible rfl
      (try simp only [Act.put, List.setIfInBounds_toArray, List.set_cons_zero, List.set_cons_succ])
      refine wpAnyH_take (i := 11) (v := ?_) rfl (by kernel_rfl) (by kernel_rfl) (by kernel_rfl) (fun _ _ _ h => h) (Or.inl ⟨by rfl, ?_⟩) hHeld ?_
      rotate_left
      · intro W hSw; (try dsimp only at hSw); go_simp <;> with_reducible rfl
      (try simp only [Act.put, List.setIfInBounds_toArray, List.set_cons_zero, List.set_cons_succ])
      refine wpAnyH_take (i := 12) (v := ?_) rfl (by kernel_rfl) (by kernel_rfl) (by kernel_rfl) (fun _ _ _ h => h) (Or.inl ⟨by rfl, ?_⟩) hHeld ?_
      rotate_left
      · intro W hSw; (try dsimp only at hSw); go_simp <;> with_reducible rfl
      (try simp only [Act.put, List.setIfInBounds_toArray, List.set_cons_zero, List.set_cons_succ])
      refine wpAnyH_ready (rs := [13]) (by kernel_rfl) (by simp) ?_
      refine AllReadyH.cons rfl (fun K hK => ?_) AllReadyH.nil
      go_simp
      ((with_reducible refine (HSB.out _ hb0.drew).mono ?_); rintro en w7 ⟨rfl, hb7⟩; have B2 := hb0.drew.nxt hb7; have B3 := B2.nxt (lal w7 (.cells #[Value.string ⟨(rtoa (xa - xb)).toArray⟩] 27)); go_simp)
      refine hK.out _ _ ?_ (fun hHeld => ?_)
      · ((try dsimp only); first | with_reducible exact HALL.out _ B3 | with_reducible exact HALL.out _ B2 | with_reducible exact HALL.out _ hb0.drew)
      clear hK K
      (try simp only [Act.put, List.setIfInBounds_toArray, List.set_cons_zero, List.set_cons_succ])
      refine wpAnyH_ready (rs := [14]) (by kernel_rfl) (by simp) ?_
      refine AllReadyH.cons rfl (fun K hK => ?_) AllReadyH.nil
      go_simp
      refine hK.out _ _ ?_ (fun hHeld => ?_)
      · ((try dsimp only); first | with_reducible exact HALL.out _ B3 | with_reducible exact HALL.out _ B2 | with_reducible exact HALL.out _ hb0.drew)
      clear hK K
      (try simp only [Act.put, List.setIfInBounds_toArray, List.set_cons_zero, List.set_cons_succ])
      refine wpAnyH_done (by kernel_rfl) ?_ _
      show wpList _ _ _ _ _ _
      refine wpList_app1 (by rfl) _ _ 64 27 (by rfl) Tryz.underlying64 (.string ⟨#[]⟩) 16 (by decide) infoQ rfl w6.heap.size _ l.length (l.map rtF) (by rfl) (hN.out.later B3) w7.heap.size ((Value.string ⟨(rtoa (xa - xb)).toArray⟩)) (by rfl) (one_cell (heap_alloc_new w7 _)) rfl (by omega) (hB.out.nxt B3).size ?_
      intro v5 w8 ho5 hg5
      have HB5 := Lib.hid (own_below (hB.out.nxt B3) (hB.out.nxt B3).size (hN.out.later B3) (Nat.le_refl _) hg5)
      have HN5 := Lib.hid (Nms.push ho5)
      clear HALL HSB hHeld B2 B3 hb7 hN hB ho5 hg5 hb0
      go_wp2
      go_roundw
      case rel => exact ⟨k + 1, l ++ [xa - xb], by go_num, by omega, by rw [List.length_append, hlen]; rfl, HN5.out, HB5.out⟩
      case measure => simp [intOf]; omega
    · obtain rfl : k = 3 := by omega
      rw [show ((3 : Nat) : Int) = 3 from rfl]
      have HPT := Lib.hid (fun W (h : Below wr.heap.size wr W) => (⟨cellB KP.out.1 (hB.out.nxt h), cellB KP.out.2 (hB.out.nxt h)⟩ : W.cell? ⟨gp, 0, none⟩ = some ((Value.string ⟨(rtoa 1).toArray⟩)) ∧ W.cell? ⟨gp, 1, none⟩ = some ((Value.string ⟨(rtoa 0).toArray⟩))))
      have HAT := Lib.hid (fun W (h : Below wr.heap.size wr W) => by
        have := at_c (cap := 3) ex_at W (HG.out _ (HB6.out.1.nxt (hB.out.nxt h))) (ex_pts (HR.out _ (HB6.out.1.nxt (hB.out.nxt h))))
        rwa [ex_mi, ex_ma] at this)
      have BW := HB6.out.1.nxt hB.out
      have hzw := keepB HB6.out.2.1 hB.out
      have hsw := HB6.out.2.2.later hB.out
      have hq := Below.refl wr.heap.size wr
      have HWR := Lib.hid (And.intro BW (And.intro hzw hsw))
      clear BW hzw hsw KQ KP HR HG HB6 hB hN hlt hlen hk
      go_upto_region 16 with fail
      refine Go.Front.wp_region_front (S := fun V => V.cell? ⟨gp, 0, none⟩ = some ((Value.string ⟨(rtoa 1).toArray⟩)) ∧ V.cell? ⟨gp, 1, none⟩ = some ((Value.string ⟨(rtoa 0).toArray⟩))) 14 (by kernel_rfl) (by simp) (by kernel_rfl) (by kernel_rfl) (by kernel_rfl) (by kernel_rfl) ?_ (fun hHeld => ?_)
      · (exact HPT.out _ (by repeat first | assumption | refine Below.drew ?_ | refine Below.nxt ?_ (lal _ _)))
      simp only [List.take_succ_cons, List.take_zero, List.drop_succ_cons, List.drop_zero]
      refine wpAnyH_take (i := 0) (v := ?_) rfl (by kernel_rfl) (by kernel_rfl) (by kernel_rfl) (fun _ _ _ h => h) (Or.inl ⟨by rfl, ?_⟩) hHeld ?_
      rotate_left
      · intro W hSw; (try dsimp only at hSw); go_simp <;> with_reducible rfl
      (try simp only [Act.put, List.setIfInBounds_toArray, List.set_cons_zero, List.set_cons_succ])
      refine wpAnyH_take (i := 1) (v := ?_) rfl (by kernel_rfl) (by kernel_rfl) (by kernel_rfl) (fun _ _ _ h => h) (Or.inl ⟨by rfl, ?_⟩) hHeld ?_
      rotate_left
      · intro W hSw; (try dsimp only at hSw); go_simp <;> with_reducible rfl
      (try simp only [Act.put, List.setIfInBounds_toArray, List.set_cons_zero, List.set_cons_succ])
      refine wpAnyH_take (i := 2) (v := ?_) rfl (by kernel_rfl) (by kernel_rfl) (by kernel_rfl) (fun _ _ _ h => h) (Or.inl ⟨by rfl, ?_⟩) hHeld ?_
      rotate_left
      · intro W hSw; (try dsimp only at hSw); go_simp <;> with_reducible rfl
      (try simp only [Act.put, List.setIfInBounds_toArray, List.set_cons_zero, List.set_cons_succ])
      refine wpAnyH_take (i := 3) (v := ?_) rfl (by kernel_rfl) (by kernel_rfl) (by kernel_rfl) (fun _ _ _ h => h) (Or.inl ⟨by rfl, ?_⟩) hHeld ?_
      rotate_left
      · intro W hSw; (try dsimp only at hSw); go_simp <;> with_reducible rfl
      (try simp only [Act.put, List.setIfInBounds_toArray, List.set_cons_zero, List.set_cons_succ])
      refine wpAnyH_take (i := 4) (v := ?_) rfl (by kernel_rfl) (by kernel_rfl) (by kernel_rfl) (fun _ _ _ h => h) (Or.inl ⟨by rfl, ?_⟩) hHeld ?_
      rotate_left
      · intro W hSw; (try dsimp only at hSw); go_simp <;> with_reducible rfl
      (try simp only [Act.put, List.setIfInBounds_toArray, List.set_cons_zero, List.set_cons_succ])
      refine wpAnyH_take (i := 5) (v := ?_) rfl (by kernel_rfl) (by kernel_rfl) (by kernel_rfl) (fun _ _ _ h => h) (Or.inl ⟨by rfl, ?_⟩) hHeld ?_
      rotate_left
      · intro W hSw; (try dsimp only at hSw); go_simp <;> with_reducible rfl
      (try simp only [Act.put, List.setIfInBounds_toArray, List.set_cons_zero, List.set_cons_succ])
      refine wpAnyH_take (i := 6) (v := ?_) rfl (by kernel_rfl) (by kernel_rfl) (by kernel_rfl) (fun _ _ _ h => h) (Or.inl ⟨by rfl, ?_⟩) hHeld ?_
      rotate_left
      · intro W hSw; (try dsimp only at hSw); go_simp <;> with_reducible rfl
      (try simp only [Act.put, List.setIfInBounds_toArray, List.set_cons_zero, List.set_cons_succ])
      refine wpAnyH_take (i := 7) (v := ?_) rfl (by kernel_rfl) (by kernel_rfl) (by kernel_rfl) (fun _ _ _ h => h) (Or.inl ⟨by rfl, ?_⟩) hHeld ?_
      rotate_left
      · intro W hSw; (try dsimp only at hSw); go_simp <;> with_reducible rfl
      (try simp only [Act.put, List.setIfInBounds_toArray, List.set_cons_zero, List.set_cons_succ])
      refine wpAnyH_ready (rs := [8, 12]) (by kernel_rfl) (by simp) ?_
      refine AllReadyH.cons rfl (fun K hK => ?_) (AllReadyH.cons rfl (fun K hK => ?_) AllReadyH.nil)
      · go_simp
        ((with_reducible refine (HAT.out _ (by repeat first | assumption | refine Below.drew ?_ | refine Below.nxt ?_ (lal _ _))).mono ?_); rintro en v1 ⟨rfl, hb1⟩; have C1 := Below.nxt (a := wr) (by repeat first | assumption | refine Below.drew ?_ | refine Below.nxt ?_ (lal _ _)) hb1; go_simp)
        refine hK.out _ _ ?_ (fun hHeld => ?_)
        · ((try dsimp only); exact HPT.out _ (by repeat first | assumption | refine Below.drew ?_ | refine Below.nxt ?_ (lal _ _)))
        clear hK K
        (try simp only [Act.put, List.setIfInBounds_toArray, List.set_cons_zero, List.set_cons_succ])
        refine wpAnyH_take (i := 9) (v := ?_) rfl (by kernel_rfl) (by kernel_rfl) (by kernel_rfl) (fun _ _ _ h => h) (Or.inl ⟨by rfl, ?_⟩) hHeld ?_
        rotate_left
        · intro W hSw; (try dsimp only at hSw); go_simp <;> with_reducible rfl
        (try simp only [Act.put, List.setIfInBounds_toArray, List.set_cons_zero, List.set_cons_succ])
        refine wpAnyH_take (i := 10) (v := ?_) rfl (by kernel_rfl) (by kernel_rfl) (by kernel_rfl) (fun _ _ _ h => h) (Or.inl ⟨by rfl, ?_⟩) hHeld ?_
        rotate_left
        · intro W hSw; (try dsimp only at hSw); go_simp <;> with_reducible rfl
        (try simp only [Act.put, List.setIfInBounds_toArray, List.set_cons_zero, List.set_cons_succ])
        refine wpAnyH_take (i := 11) (v := ?_) rfl (by kernel_rfl) (by kernel_rfl) (by kernel_rfl) (fun _ _ _ h => h) (Or.inl ⟨by rfl, ?_⟩) hHeld ?_
        rotate_left
        · intro W hSw; (try dsimp only at hSw); go_simp <;> with_reducible rfl
        (try simp only [Act.put, List.setIfInBounds_toArray, List.set_cons_zero, List.set_cons_succ])
        refine wpAnyH_ready (rs := [12]) (by kernel_rfl) (by simp) ?_
        refine AllReadyH.cons rfl (fun K hK => ?_) AllReadyH.nil
        · go_simp
          have G2 : wr.heap.size ≤ (v1).heap.size := Below.size (show Below wr.heap.size wr v1 from (by repeat first | assumption | refine Below.drew ?_ | refine Below.nxt ?_ (lal _ _)))
          have C2 := Below.nxt (a := wr) (show Below wr.heap.size wr v1 from (by repeat first | assumption | refine Below.drew ?_ | refine Below.nxt ?_ (lal _ _))) (lal v1 (.cells #[eV, eV, eV, eV] 63))
          have Z12_2 := heap_alloc_new v1 (.cells #[eV, eV, eV, eV] 63)
          refine hK.out _ (v1.alloc (.cells #[eV, eV, eV, eV] 63)) ?_ (fun hHeld => ?_)
          · ((try dsimp only); exact HPT.out _ (by repeat first | assumption | refine Below.drew ?_ | refine Below.nxt ?_ (lal _ _)))
          clear hK K
          (try simp only [Act.put, List.setIfInBounds_toArray, List.set_cons_zero, List.set_cons_succ])
          generalize (v1.alloc (.cells #[eV, eV, eV, eV] 63)) = v2 at *
          refine wpAnyH_ready (rs := [13]) (by kernel_rfl) (by simp) ?_
          refine AllReadyH.cons rfl (fun K hK => ?_) AllReadyH.nil
          · skip
            have hf := fun k => frozen_of_row _ _ k _ _ Z12_2
            obtain ⟨z0, z1, z2, z3⟩ := c4of Z12_2
            (try simp only [drew_sz] at hf z0 z1 z2 z3)
            obtain ⟨wz, hwz, s1, s2, s3⟩ := set4x Z12_2 ((Value.string ⟨(rtoa 1).toArray⟩)) ((Value.string ⟨(rtoa 0).toArray⟩)) ((Value.string ⟨(rtoa 0).toArray⟩)) ((Value.string ⟨(rtoa 1).toArray⟩))
            (try simp only [drew_sz] at hwz s1 s2 s3)
            have hbc : Below wr.heap.size wr v2 := by (repeat first | assumption | refine Below.drew ?_ | refine Below.nxt ?_ (lal _ _))
            have HFZ := Lib.hid (ring_fin HWR.out hbc (by first | assumption | omega) s1 s2 s3)
            have C3 : Below wr.heap.size wr wz := s3 _ _ hbc (by first | assumption | omega)
            go_simp
            refine hK.out _ _ ?_ (fun hHeld => ?_)
            · ((try dsimp only); exact HPT.out _ (by repeat first | assumption | refine Below.drew ?_ | refine Below.nxt ?_ (lal _ _)))
            clear hK K
            (try simp only [Act.put, List.setIfInBounds_toArray, List.set_cons_zero, List.set_cons_succ])
            refine wpAnyH_done (by kernel_rfl) ?_ _
            show wpList _ _ _ _ _ _
            go_upto_region 17 with fail
            clear hwz s1 s2 s3 hf z0 z1 z2 z3
            obtain ⟨f1, f2, f3, f4⟩ := HFZ.out
            have hcs := one_cell f3
            have hf := fun k => frozen_of_row _ _ k _ _ f2
            obtain ⟨z0, z1, z2, z3⟩ := c4of f1
            obtain ⟨y0, y1, y2, y3⟩ := c4of f2
            obtain ⟨a1, -, a3⟩ := set4 f2 ((Value.string ⟨(rtoa 1).toArray⟩)) ((Value.string ⟨(rtoa 0).toArray⟩)) ((Value.string ⟨(rtoa 0).toArray⟩)) ((Value.string ⟨(rtoa 1).toArray⟩))
            have HA := Lib.hid (And.intro a1 (a3 _ _ f4 (Nat.le_refl _)))
            clear f1 f2 f3 f4 a1 a3 HFZ
            go_wp2
            refine bodyPost_ret (results_c2t rfl _ _ w.heap.size 63 _ _ _ (by kernel_rfl) HA.out.1 Tryz.underlying63 rfl (by kernel_rfl)) rfl ?_
            exact ⟨_, rfl, HA.out.2⟩
      · go_simp
        have G4 : wr.heap.size ≤ (wr.drew).heap.size := Below.size (show Below wr.heap.size wr wr.drew from (by repeat first | assumption | refine Below.drew ?_ | refine Below.nxt ?_ (lal _ _)))
        have C4 := Below.nxt (a := wr) (show Below wr.heap.size wr wr.drew from (by repeat first | assumption | refine Below.drew ?_ | refine Below.nxt ?_ (lal _ _))) (lal wr.drew (.cells #[eV, eV, eV, eV] 63))
        have Z12_4 := heap_alloc_new wr.drew (.cells #[eV, eV, eV, eV] 63)
        refine hK.out _ (wr.drew.alloc (.cells #[eV, eV, eV, eV] 63)) ?_ (fun hHeld => ?_)
        · ((try dsimp only); exact HPT.out _ (by repeat first | assumption | refine Below.drew ?_ | refine Below.nxt ?_ (lal _ _)))
        clear hK K
        (try simp only [Act.put, List.setIfInBounds_toArray, List.set_cons_zero, List.set_cons_succ])
        generalize (wr.drew.alloc (.cells #[eV, eV, eV, eV] 63)) = v4 at *
        refine wpAnyH_ready (rs := [8]) (by kernel_rfl) (by simp) ?_
        refine AllReadyH.cons rfl (fun K hK => ?_) AllReadyH.nil
        · go_simp
          ((with_reducible refine (HAT.out _ (by repeat first | assumption | refine Below.drew ?_ | refine Below.nxt ?_ (lal _ _))).mono ?_); rintro en v5 ⟨rfl, hb5⟩; have C5 := Below.nxt (a := wr) (by repeat first | assumption | refine Below.drew ?_ | refine Below.nxt ?_ (lal _ _)) hb5; go_simp)
          have Z12_5 := keepB Z12_4 hb5
          refine hK.out _ _ ?_ (fun hHeld => ?_)
          · ((try dsimp only); exact HPT.out _ (by repeat first | assumption | refine Below.drew ?_ | refine Below.nxt ?_ (lal _ _)))
          clear hK K
          (try simp only [Act.put, List.setIfInBounds_toArray, List.set_cons_zero, List.set_cons_succ])
          refine wpAnyH_take (i := 9) (v := ?_) rfl (by kernel_rfl) (by kernel_rfl) (by kernel_rfl) (fun _ _ _ h => h) (Or.inl ⟨by rfl, ?_⟩) hHeld ?_
          rotate_left
          · intro W hSw; (try dsimp only at hSw); go_simp <;> with_reducible rfl
          (try simp only [Act.put, List.setIfInBounds_toArray, List.set_cons_zero, List.set_cons_succ])
          refine wpAnyH_take (i := 10) (v := ?_) rfl (by kernel_rfl) (by kernel_rfl) (by kernel_rfl) (fun _ _ _ h => h) (Or.inl ⟨by rfl, ?_⟩) hHeld ?_
          rotate_left
          · intro W hSw; (try dsimp only at hSw); go_simp <;> with_reducible rfl
          (try simp only [Act.put, List.setIfInBounds_toArray, List.set_cons_zero, List.set_cons_succ])
          refine wpAnyH_take (i := 11) (v := ?_) rfl (by kernel_rfl) (by kernel_rfl) (by kernel_rfl) (fun _ _ _ h => h) (Or.inl ⟨by rfl, ?_⟩) hHeld ?_
          rotate_left
          · intro W hSw; (try dsimp only at hSw); go_simp <;> with_reducible rfl
          (try simp only [Act.put, List.setIfInBounds_toArray, List.set_cons_zero, List.set_cons_succ])
          refine wpAnyH_ready (rs := [13]) (by kernel_rfl) (by simp) ?_
          refine AllReadyH.cons rfl (fun K hK => ?_) AllReadyH.nil
          · skip
            have hf := fun k => frozen_of_row _ _ k _ _ Z12_5
            obtain ⟨z0, z1, z2, z3⟩ := c4of Z12_5
            (try simp only [drew_sz] at hf z0 z1 z2 z3)
            obtain ⟨wz, hwz, s1, s2, s3⟩ := set4x Z12_5 ((Value.string ⟨(rtoa 1).toArray⟩)) ((Value.string ⟨(rtoa 0).toArray⟩)) ((Value.string ⟨(rtoa 0).toArray⟩)) ((Value.string ⟨(rtoa 1).toArray⟩))
            (try simp only [drew_sz] at hwz s1 s2 s3)
            have hbc : Below wr.heap.size wr v5 := by (repeat first | assumption | refine Below.drew ?_ | refine Below.nxt ?_ (lal _ _))
            have HFZ := Lib.hid (ring_fin HWR.out hbc (by first | assumption | omega) s1 s2 s3)
            have C6 : Below wr.heap.size wr wz := s3 _ _ hbc (by first | assumption | omega)
            go_simp
            refine hK.out _ _ ?_ (fun hHeld => ?_)
            · ((try dsimp only); exact HPT.out _ (by repeat first | assumption | refine Below.drew ?_ | refine Below.nxt ?_ (lal _ _)))
            clear hK K
            (try simp only [Act.put, List.setIfInBounds_toArray, List.set_cons_zero, List.set_cons_succ])
            refine wpAnyH_done (by kernel_rfl) ?_ _
            show wpList _ _ _ _ _ _
            go_upto_region 17 with fail
            clear hwz s1 s2 s3 hf z0 z1 z2 z3
            obtain ⟨f1, f2, f3, f4⟩ := HFZ.out
            have hcs := one_cell f3
            have hf := fun k => frozen_of_row _ _ k _ _ f2
            obtain ⟨z0, z1, z2, z3⟩ := c4of f1
            obtain ⟨y0, y1, y2, y3⟩ := c4of f2
            obtain ⟨a1, -, a3⟩ := set4 f2 ((Value.string ⟨(rtoa 1).toArray⟩)) ((Value.string ⟨(rtoa 0).toArray⟩)) ((Value.string ⟨(rtoa 0).toArray⟩)) ((Value.string ⟨(rtoa 1).toArray⟩))
            have HA := Lib.hid (And.intro a1 (a3 _ _ f4 (Nat.le_refl _)))
            clear f1 f2 f3 f4 a1 a3 HFZ
            go_wp2
            refine bodyPost_ret (results_c2t rfl _ _ w.heap.size 63 _ _ _ (by kernel_rfl) HA.out.1 Tryz.underlying63 rfl (by kernel_rfl)) rfl ?_
            exact ⟨_, rfl, HA.out.2⟩
def WdP (w : World) (e : Ending) (w' : World) : Prop := e = .returned (.tuple #[Value.string ⟨(rtoa 1).toArray⟩, .int .i64 0]) ∧ Below w.heap.size w w'
theorem one_sm : Lp.sm (1 : Rat) = true ∧ Lp.sm (0 : Rat) = true := by decide +kernel
set_option maxRecDepth 100000 in
set_option maxHeartbeats 1000000 in
theorem rwidth_c {w : World} (hg : Good w) {g : Nat} (hr : w.heap[g]? = some (.cells exC 24 (0, 0))) : Calls Tryz.prog 12 #[.slice (some ⟨g, 0, none⟩) 3 3] w (WdP w) := by
  have HR := Lib.hid (ring_c hg hr)
  have HS := Lib.hid (fun W (k : Below w.heap.size w W) => by
    have := lsub_c (sm_sz one_sm.1) (sm_sz one_sm.2) (by omega) W (hg.later k)
    rwa [show (1 : Rat) - 0 = 1 by decide +kernel] at this)
  clear hr hg
  go_enter Tryz.func12, Tryz.ntmps12
  go_wp2_with fail
  ((with_reducible refine (HR.out).mono ?_); rintro en w1 ⟨v, rfl, hb1⟩)
  have hz := heap_alloc_new w1 (.cells #[Value.string ⟨(rtoa 1).toArray⟩, Value.string ⟨(rtoa 0).toArray⟩, Value.string ⟨(rtoa 0).toArray⟩, Value.string ⟨(rtoa 1).toArray⟩] 63)
  have B1 := hb1.nxt (lal w1 (.cells #[Value.string ⟨(rtoa 1).toArray⟩, Value.string ⟨(rtoa 0).toArray⟩, Value.string ⟨(rtoa 0).toArray⟩, Value.string ⟨(rtoa 1).toArray⟩] 63))
  clear hb1 HR
  obtain ⟨z0, z1, z2, z3⟩ := c4of hz
  clear hz
  go_upto_region 2 with fail
  generalize w1.alloc (.cells #[Value.string ⟨(rtoa 1).toArray⟩, Value.string ⟨(rtoa 0).toArray⟩, Value.string ⟨(rtoa 0).toArray⟩, Value.string ⟨(rtoa 1).toArray⟩] 63) = w2 at *
  go_wp2_with fail
  ((with_reducible refine (HS.out _ B1).mono ?_); rintro en w3 ⟨rfl, hb3⟩)
  have B3 := B1.nxt hb3
  go_wp2
  go_ret2
  exact ⟨rfl, B3⟩
set_option maxRecDepth 100000 in
set_option maxHeartbeats 1000000 in
theorem playRing_c (w : World) (hg : Good w) : Calls Tryz.prog 5 #[] w (Ret w (.bool true)) := by
  have hb := lal w (.cells exC 24)
  have HW := Lib.hid (rwidth_c (hg.later hb) (heap_alloc_new w (.cells exC 24)))
  rw [show exC = #[.int .i64 0, .int .i64 0, .int .i64 2, .int .i64 0, .int .i64 1, .int .i64 0] from rfl] at hb HW
  clear hg
  go_enter Tryz.func5, Tryz.ntmps5
  go_wp2_with fail
  generalize w.alloc (.cells #[.int .i64 0, .int .i64 0, .int .i64 2, .int .i64 0, .int .i64 1, .int .i64 0] 24) = w1 at *
  ((with_reducible refine (HW.out).mono ?_); rintro en w2 ⟨rfl, hb2⟩)
  rw [← rt_one]
  have B2 := hb.nxt hb2
  go_wp2
  go_ret
  exact ⟨rfl, B2⟩
end Go.Proofs.Wk
