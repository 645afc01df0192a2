/- THE LAW RatioRing: it returns true at all texts. -/
import Derived.Test.YtenoganbeccanaaGreatDoorL2R
import Derived.Deep.RegionHeld3
import Derived.Deep.AppendLies
namespace Go.Proofs.Wk
open Go.RowKit Mt

theorem below_same {w : World} {g : Nat} {T : TypeId} (h : w.heap[g]? = some (.cells #[.bool true] T (0, 0))) : Below w.heap.size w (w.setCell ⟨g, 0, none⟩ (.bool true)) := by
  refine ⟨rfl, rfl, rfl, by simp [World.setCell], fun k hk => ?_⟩
  by_cases hkg : k = g
  · subst hkg
    rw [heap_setCell_same w k 0 _ _ (.bool true) h, h]; rfl
  · exact Below.heap_setCell _ _ _ _ hkg
set_option maxRecDepth 100000 in
theorem of_c (g : Nat) (a : Txt) (w : World) (h : w.heap[g]? = some (.cells #[.bool true] 27 (0, 0))) :
    Calls Tryz.prog 15 #[.pointer (some ⟨g, 0, none⟩), .string ⟨a.toArray⟩, .int .i64 0] w (Ret w (.string ⟨a.toArray⟩)) := by
  have HB := Lib.hid (below_same h)
  have c0 : w.cell? ⟨g, 0, none⟩ = some (.bool true) := by rw [cell_of_row _ _ _ _ _ _ h]; rfl
  have f0 : w.frozen? ⟨g, 0, none⟩ = false := frozen_of_row w g 0 _ _ h
  clear h
  go_enter Tryz.func15, Tryz.ntmps15
  go_wp2
  go_ret
  exact ⟨rfl, HB.out⟩
/-- The two blocks of the law's sums. -/
structure JR (gs gp : Nat) (w : World) : Prop where
  g : Good w
  s : w.heap[gs]? = some (.cells #[.bool true] 27 (0, 0))
  p : w.heap[gp]? = some (.cells #[.pointer (some ⟨gs, 0, none⟩)] 25 (0, 0))
theorem JR.later {gs gp : Nat} {w w' : World} (h : JR gs gp w) (hb : Below w.heap.size w w') : JR gs gp w' :=
  ⟨h.g.later hb, by rw [hb.block gs (Array.getElem?_eq_some_iff.1 h.s).1]; exact h.s, by rw [hb.block gp (Array.getElem?_eq_some_iff.1 h.p).1]; exact h.p⟩
theorem JR.c {gs gp : Nat} {w : World} (h : JR gs gp w) : w.cell? ⟨gp, 0, none⟩ = some (.pointer (some ⟨gs, 0, none⟩)) := by
  rw [cell_of_row _ _ _ _ _ _ h.p]; rfl
theorem JR.c0 {gs gp : Nat} {w : World} (h : JR gs gp w) : w.cell? ⟨gs, 0, none⟩ = some (.bool true) := by
  rw [cell_of_row _ _ _ _ _ _ h.s]; rfl
theorem JR.plt {gs gp : Nat} {w : World} (h : JR gs gp w) : gp < w.heap.size := (Array.getElem?_eq_some_iff.1 h.p).1
theorem JR.slt {gs gp : Nat} {w : World} (h : JR gs gp w) : gs < w.heap.size := (Array.getElem?_eq_some_iff.1 h.s).1
set_option maxRecDepth 100000 in
set_option maxHeartbeats 1000000 in
theorem ringAdd {x y z : Rat} {j k : Nat} (hx : szQ x j) (hy : szQ y k) (hjk : j + k < 1024) (hz : x + y = z) (gs gp : Nat) (w : World) (J : JR gs gp w) :
    Calls Tryz.prog 14 #[.string ⟨(rtoa x).toArray⟩, .string ⟨(rtoa y).toArray⟩, .pointer (some ⟨gp, 0, none⟩)] w (Ret w (.string ⟨(rtoa z).toArray⟩)) := by
  have ha := fun W hW => qAdd_c (rtoa x) (rtoa y) W hW (tlen (hx.ok (by omega))) (tlen (hy.ok (by omega)))
  rw [rbin_ok [] addQ (hx.ok (by omega)) (hy.ok (by omega)), addQ_sz hx hy (by omega), hz] at ha
  have HA := Lib.hid ha
  have HO := Lib.hid (fun W h => of_c gs (rtoa z) W h)
  have HJ := Lib.hid J
  have HD := Lib.hid (J.g.later ((Below.refl w.heap.size w).drew))
  have c0 := J.c
  have hpl := J.plt; have hsl := J.slt
  clear ha hx hy hz hjk J
  generalize rtoa x = tx at *
  generalize rtoa y = ty at *
  generalize rtoa z = tz at *
  go_enter Tryz.func14, Tryz.ntmps14
  go_wp2_with fail
  go_region_with (first | (go_at_call 16; (with_reducible refine (HA.out _ HD.out).mono ?_); rintro e w2 ⟨rfl, hb2⟩; have k2 := hb2.cell (p := ⟨gp, 0, none⟩) hpl; have HS2 := (hb2.block gs hsl).trans HJ.out.s) | (go_at_call 15; (with_reducible refine (HO.out _ HS2).mono ?_); rintro e w3 ⟨rfl, hb3⟩))
  all_goals
    go_wp2
    go_ret
    exact ⟨rfl, (((Below.refl w.heap.size w).drew).trans hb2).trans (hb3.mono hb2.size)⟩
set_option maxRecDepth 100000 in
set_option maxHeartbeats 1000000 in
theorem ringMul {x y z : Rat} {j k : Nat} (hx : szQ x j) (hy : szQ y k) (hjk : j + k < 1024) (hz : x * y = z) (gs gp : Nat) (w : World) (J : JR gs gp w) :
    Calls Tryz.prog 17 #[.string ⟨(rtoa x).toArray⟩, .string ⟨(rtoa y).toArray⟩, .pointer (some ⟨gp, 0, none⟩)] w (Ret w (.string ⟨(rtoa z).toArray⟩)) := by
  have ha := fun W hW => qMul_c (rtoa x) (rtoa y) W hW (tlen (hx.ok (by omega))) (tlen (hy.ok (by omega)))
  rw [rbin_ok [] mulQ (hx.ok (by omega)) (hy.ok (by omega)), mulQ_sz hx hy (by omega), hz] at ha
  have HA := Lib.hid ha
  have HO := Lib.hid (fun W h => of_c gs (rtoa z) W h)
  have HJ := Lib.hid J
  have HD := Lib.hid (J.g.later ((Below.refl w.heap.size w).drew))
  have c0 := J.c
  have hpl := J.plt; have hsl := J.slt
  clear ha hx hy hz hjk J
  generalize rtoa x = tx at *
  generalize rtoa y = ty at *
  generalize rtoa z = tz at *
  go_enter Tryz.func17, Tryz.ntmps17
  go_wp2_with fail
  go_region_with (first | (go_at_call 18; (with_reducible refine (HA.out _ HD.out).mono ?_); rintro e w2 ⟨rfl, hb2⟩; have k2 := hb2.cell (p := ⟨gp, 0, none⟩) hpl; have HS2 := (hb2.block gs hsl).trans HJ.out.s) | (go_at_call 15; (with_reducible refine (HO.out _ HS2).mono ?_); rintro e w3 ⟨rfl, hb3⟩))
  all_goals
    go_wp2
    go_ret
    exact ⟨rfl, (((Below.refl w.heap.size w).drew).trans hb2).trans (hb3.mono hb2.size)⟩
theorem info_pair : (Tryz.prog.info? 33).map (fun i => (i.zero, i.size, i.bytes)) = some (some (.agg #[.string ⟨#[]⟩, .string ⟨#[]⟩]), 2, 32) := by kernel_rfl
/-- A row of pairs of equal texts. -/
def pcells (ps : List Txt) : List Value := ps.flatMap fun l => [txt l, txt l]
theorem pcells_len (ps : List Txt) : (pcells ps).length = ps.length * 2 := by
  induction ps with
  | nil => rfl
  | cons a t ih => show ([txt a, txt a] ++ pcells t).length = _; rw [List.length_append, ih, List.length_cons]; simp; omega
theorem pcells_at : ∀ (ps : List Txt) (i : Nat) (h : i < ps.length), (pcells ps)[i * 2]? = some (txt ps[i]) ∧ (pcells ps)[i * 2 + 1]? = some (txt ps[i])
  | a :: t, 0, _ => ⟨rfl, rfl⟩
  | a :: t, i + 1, h => by
    have := pcells_at t i (by simpa using h)
    show (txt a :: txt a :: pcells t)[(i + 1) * 2]? = _ ∧ (txt a :: txt a :: pcells t)[(i + 1) * 2 + 1]? = _
    rw [show (i + 1) * 2 = i * 2 + 1 + 1 by omega]
    exact this
def RP (w : World) (b : Nat) (ps : List Txt) : Prop := ∀ i (h : i < ps.length), w.cell? ⟨b, i * 2, none⟩ = some (txt ps[i]) ∧ w.cell? ⟨b, i * 2 + 1, none⟩ = some (txt ps[i])
theorem RP.later {w w' : World} {B b : Nat} {ps : List Txt} (h : RP w b ps) (hb : Below B w w') (hlt : b < B) : RP w' b ps := fun i hi => by
  rw [hb.cell (p := ⟨b, i * 2, none⟩) hlt, hb.cell (p := ⟨b, i * 2 + 1, none⟩) hlt]; exact h i hi
theorem RP.own {w : World} {base : Nat} {v : Value} {ps : List Txt} {e : TypeId} (h : w.ownsRow base e 2 v ps.length (pcells ps)) (hne : ps ≠ []) : ∃ g c, v = .slice (some ⟨g, 0, none⟩) ps.length c ∧ RP w g ps ∧ g < w.heap.size := by
  obtain ⟨h1, h2⟩ := h
  rcases h2 with ⟨rfl, h2⟩ | ⟨g, cap, cur, rfl, e2, e3, e4, e5, e6, e7⟩
  · exact absurd (List.length_eq_zero_iff.1 h2) hne
  · refine ⟨g, cap, rfl, fun i hi => ?_, (Array.getElem?_eq_some_iff.1 e3).1⟩
    obtain ⟨p1, p2⟩ := pcells_at ps i hi
    have q1 : (cur.toList.take (ps.length * 2))[i * 2]? = (pcells ps)[i * 2]? := by rw [e7]
    have q2 : (cur.toList.take (ps.length * 2))[i * 2 + 1]? = (pcells ps)[i * 2 + 1]? := by rw [e7]
    rw [List.getElem?_take, if_pos (by omega), p1] at q1
    rw [List.getElem?_take, if_pos (by omega), p2] at q2
    rw [cell_of_row w g (i * 2) _ _ _ e3, cell_of_row w g (i * 2 + 1) _ _ _ e3]
    exact ⟨by simpa using q1, by simpa using q2⟩
theorem step_app_pair {P : Program} (w : World) {ops : Array Oper} {o : Oper} {a : Act} {K : Act → World → Prop} {Q : Exit → Act → World → Prop} {E : Prop} (hgd : o.guard = none) (s x : Operand) (t e : TypeId)
    (ho : o.op = .call { callee := .builtin .append, args := #[s, x], argTypes := #[t, t] }) (ht : P.underlying t = some (.slice e))
    (hi : (P.info? e).map (fun i => (i.zero, i.size, i.bytes)) = some (some (.agg #[.string ⟨#[]⟩, .string ⟨#[]⟩]), 2, 32)) (base : Nat) (v : Value) (ps : List Txt) (n : Nat) (hps : ps.length = n) (hs : a.eval s = v) (hown : w.ownsRow base e 2 v n (pcells ps))
    (b : Nat) (l : Txt) (hx : a.eval x = .slice (some ⟨b, 0, none⟩) 1 1) (hc : w.cell? ⟨b, 0, none⟩ = some (txt l)) (hc1 : w.cell? ⟨b, 1, none⟩ = some (txt l)) (hn : n ≤ 1000000) (hbase : base ≤ w.heap.size)
    (h : ∀ g cap w', w'.ownsRow base e 2 (.slice (some ⟨g, 0, none⟩) (n + 1) cap) (n + 1) (pcells (ps ++ [l])) → Below base w w' → K (a.put o.dst (.slice (some ⟨g, 0, none⟩) (n + 1) cap)) w') :
    if Region.wanted o (yielded ops a.tmps) = true then Oper.wp P o a w K Q else E := by
  obtain ⟨i0, hi0, hz0, hz1, hz2⟩ := info_parts hi
  subst hps
  refine step_append_lies w hgd s x t ho base e i0 (.agg #[.string ⟨#[]⟩, .string ⟨#[]⟩]) 2 32 ht hi0 hz0 hz1 hz2 rfl (by decide) v ps.length (pcells ps) hs hown ⟨b, 0, none⟩ 1 1 [txt l, txt l] hx rfl ?_ ?_ (by decide) ?_ ?_ hbase _ rfl ?_
  · intro j u hu
    match j, hu with
    | 0, hu =>
      obtain rfl : txt l = u := Option.some.inj hu
      simpa [Addr.add] using hc
    | 1, hu =>
      obtain rfl : txt l = u := Option.some.inj hu
      simpa [Addr.add] using hc1
  · intro u hu
    simp at hu
    rw [hu]; rfl
  · unfold maxLen; omega
  · omega
  · intro g cap w' h1 h2 _ _
    refine h g cap w' ?_ ?_
    · rw [show pcells (ps ++ [l]) = pcells ps ++ [txt l, txt l] by unfold pcells; rw [List.flatMap_append]; rfl]
      exact h1
    · refine ⟨h2.os, h2.tape, h2.output, h2.size, fun k hk => h2.block k (by omega) ?_⟩
      intro e1
      have := (World.ownsRow.lt hown k e1.symm).1
      omega
theorem rp_sum3 {p q r : Rat} (hp : szQ p 30) (hq : szQ q 30) (hr : szQ r 30) : sum2 [rtoa p, rtoa q, rtoa r] = (rtoa (p + q + r), 0) := by
  have h0 : firstR [rtoa p, rtoa q, rtoa r] = 0 := firstR_ok (qs := [p, q, r]) (by intro x hx; simp at hx; rcases hx with rfl | rfl | rfl <;> first | exact hp.ok (by omega) | exact hq.ok (by omega) | exact hr.ok (by omega))
  unfold sum2
  rw [if_neg (by simp), if_pos h0]
  show sumF [rv (rtoa p), rv (rtoa q), rv (rtoa r)] 0 = _
  rw [rv_rtoa, rv_rtoa, rv_rtoa]
  have z1 := szQ_add szQ_zero hp
  have z2 := szQ_add z1 hq
  unfold sumF; rw [addQ_sz szQ_zero hp (by omega), if_pos rfl]
  unfold sumF; rw [addQ_sz z1 hq (by omega), if_pos rfl]
  unfold sumF; rw [addQ_sz z2 hr (by omega), if_pos rfl]
  unfold sumF; rw [Rat.zero_add]
theorem list3_le {a b c : Txt} (ha : a.length ≤ 140737488355328) (hb : b.length ≤ 140737488355328) (hc : c.length ≤ 140737488355328) : ∀ l ∈ [a, b, c], l.length ≤ 140737488355328 := by
  intro l hl; simp at hl; rcases hl with rfl | rfl | rfl <;> assumption
/-- The two blocks, and what was there before. -/
structure JB (w0 : World) (gs gp : Nat) (w : World) : Prop where
  j : JR gs gp w
  b : Below w0.heap.size w0 w
theorem JB.later {w0 : World} {gs gp : Nat} {w w' : World} (h : JB w0 gs gp w) (hb : Below w.heap.size w w') : JB w0 gs gp w' := ⟨h.j.later hb, h.b.trans (hb.mono h.b.size)⟩
theorem JB.alloc {w0 : World} {gs gp : Nat} {w : World} (h : JB w0 gs gp w) (o : Obj) : JB w0 gs gp (w.alloc o) := h.later ((Below.refl _ _).alloc (Nat.le_refl _) o)
theorem JB.drew {w0 : World} {gs gp : Nat} {w : World} (h : JB w0 gs gp w) : JB w0 gs gp w.drew := h.later (Below.refl _ _).drew
theorem JB.new {w0 w1 : World} (hg : Good w1) (hb : Below w0.heap.size w0 w1) : JB w0 w1.heap.size (w1.heap.size + 1) ((w1.alloc (.cells #[.bool true] 27)).alloc (.cells #[.pointer (some ⟨w1.heap.size, 0, none⟩)] 25)) := by
  have b1 : Below w1.heap.size w1 (w1.alloc (.cells #[.bool true] 27)) := (Below.refl _ _).alloc (Nat.le_refl _) _
  have b2 : Below (w1.alloc (.cells #[.bool true] 27)).heap.size (w1.alloc (.cells #[.bool true] 27)) ((w1.alloc (.cells #[.bool true] 27)).alloc (.cells #[.pointer (some ⟨w1.heap.size, 0, none⟩)] 25)) := (Below.refl _ _).alloc (Nat.le_refl _) _
  have h1 := heap_alloc_new w1 (.cells #[.bool true] 27)
  have h2 := heap_alloc_new (w1.alloc (.cells #[.bool true] 27)) (.cells #[.pointer (some ⟨w1.heap.size, 0, none⟩)] 25)
  rw [show (w1.alloc (.cells #[.bool true] 27)).heap.size = w1.heap.size + 1 by simp] at h2
  refine ⟨⟨(hg.later b1).later b2, ?_, h2⟩, (hb.trans (b1.mono hb.size)).trans (b2.mono (Nat.le_trans hb.size b1.size))⟩
  rw [b2.block w1.heap.size (alloc_lt w1 _)]; exact h1
theorem own_later {w w' : World} {base : Nat} {e : TypeId} {v : Value} {n : Nat} {xs : List Value} (h : w.ownsRow base e 2 v n xs) (hb : Below w.heap.size w w') : w'.ownsRow base e 2 v n xs := by
  obtain ⟨h1, h2⟩ := h
  refine ⟨h1, ?_⟩
  rcases h2 with h2 | ⟨g, cap, cur, e1, e2, e3, e4⟩
  · exact .inl h2
  · exact .inr ⟨g, cap, cur, e1, e2, by rw [hb.block g (Array.getElem?_eq_some_iff.1 e3).1]; exact e3, e4⟩
theorem JB.laterB {w0 : World} {gs gp g : Nat} {w w' : World} (h : JB w0 gs gp w) (hg0 : Good w0) (hb : Below g w w') (hgp : gp < g) (hgs : gs < g) (h0 : w0.heap.size ≤ g) : JB w0 gs gp w' := by
  have hb0 : Below w0.heap.size w0 w' := h.b.trans (hb.mono h0)
  exact ⟨⟨hg0.later hb0, by rw [hb.block gs hgs]; exact h.j.s, by rw [hb.block gp hgp]; exact h.j.p⟩, hb0⟩
theorem own_drew {w : World} {base : Nat} {e : TypeId} {v : Value} {n : Nat} {xs : List Value} (h : w.ownsRow base e 2 v n xs) : w.drew.ownsRow base e 2 v n xs := own_later h (Below.refl _ _).drew
/-- A row of texts that was made, and what has come since. -/
def RSp (w : World) (g : Nat) (ls : List Txt) : Prop := RS w g 0 ls ∧ g < w.heap.size
theorem RSp.new (w : World) (ls : List Txt) (t : TypeId) : RSp (w.alloc (.cells (ls.map txt).toArray t)) w.heap.size ls := ⟨RS.lit w ls t, alloc_lt w _⟩
theorem RSp.drew {w : World} {g : Nat} {ls : List Txt} (h : RSp w g ls) : RSp w.drew g ls := ⟨fun j hj => h.1 j hj, h.2⟩
theorem RSp.later {w w' : World} {g : Nat} {ls : List Txt} (hb : Below w.heap.size w w') (h : RSp w g ls) : RSp w' g ls := ⟨h.1.later hb h.2, Nat.lt_of_lt_of_le h.2 hb.size⟩
theorem RSp.sl {w : World} {g : Nat} {ls : List Txt} {n : Nat} (h : RSp w g ls) (hn : ls.length = n) : SlS w (.slice (some ⟨g, 0, none⟩) n n) ls := by
  subst hn; exact .inr ⟨g, 0, ls.length, rfl, h.1, h.2⟩
end Go.Proofs.Wk
