/- LINEAR PROGRAMS: the table of six bounds, walked. -/
import Derived.Test.YtcdjhgkeehhaaaaGreatDoorUC
namespace Go.Proofs.Wk
open Go.RowKit Mt

set_option maxRecDepth 100000 in
theorem pwidth2_c {W : World} {gt : Nat} (t1 : W.cell? ⟨gt, 1, none⟩ = some (.int .i64 4)) (t2 : W.cell? ⟨gt, 2, none⟩ = some (.int .i64 6)) : Calls Tryz.prog 75 #[.pointer (some ⟨gt, 0, none⟩)] W (fun e W' => e = .returned (.int .i64 15) ∧ W' = W.drew) := by
  go_enter Tryz.func75, Tryz.ntmps75
  go_wp2_with fail
  go_region
  all_goals
    go_wp2
    go_ret
    exact ⟨rfl, rfl⟩
theorem ld_start (w0 : World) (R : Nat → List Rat) : LdM w0 w0.heap.size (w0.heap.size + 1) ((w0.alloc (.cells #[.int .i64 0] 136)).alloc (.cells #[.pointer (some ⟨w0.heap.size, 0, none⟩), .int .i64 4, .int .i64 6, .slice none 0 0, .slice none 0 0, .slice none 0 0] 134)) 0 0 [] (.slice none 0 0) (.slice none 0 0) R := by
  have h1 := heap_alloc_new w0 (.cells #[.int .i64 0] 136)
  have b1 : Below w0.heap.size w0 (w0.alloc (.cells #[.int .i64 0] 136)) := (Below.refl _ _).alloc (Nat.le_refl _) _
  have s1 : (w0.alloc (.cells #[.int .i64 0] 136)).heap.size = w0.heap.size + 1 := by simp
  generalize w0.alloc (.cells #[.int .i64 0] 136) = W1 at *
  have h2 := heap_alloc_new W1 (.cells #[.pointer (some ⟨w0.heap.size, 0, none⟩), .int .i64 4, .int .i64 6, .slice none 0 0, .slice none 0 0, .slice none 0 0] 134)
  have b2 : Below W1.heap.size W1 (W1.alloc (.cells #[.pointer (some ⟨w0.heap.size, 0, none⟩), .int .i64 4, .int .i64 6, .slice none 0 0, .slice none 0 0, .slice none 0 0] 134)) := (Below.refl _ _).alloc (Nat.le_refl _) _
  generalize W1.alloc (.cells #[.pointer (some ⟨w0.heap.size, 0, none⟩), .int .i64 4, .int .i64 6, .slice none 0 0, .slice none 0 0, .slice none 0 0] 134) = W2 at *
  rw [s1] at h2
  exact ⟨b1.nxt b2, ⟨Nat.le_refl _, Nat.le_succ _⟩, h2, keepB h1 b2, rfl, ⟨rfl, .inl ⟨rfl, rfl⟩⟩, ⟨rfl, .inl ⟨rfl, rfl⟩⟩, fun i hi => by simp at hi, fun g hg => by simp at hg, .nil⟩
section
variable {w0 : World} {gs gt : Nat} {W : World} {nr nb : Nat} {rs : List Nat} {vr vb : Value} {R : Nat → List Rat}
theorem LdM.cell (h : LdM w0 gs gt W nr nb rs vr vb R) : W.cell? ⟨gt, 0, none⟩ = some (.pointer (some ⟨gs, 0, none⟩)) ∧ W.cell? ⟨gt, 1, none⟩ = some (.int .i64 4) ∧ W.cell? ⟨gt, 2, none⟩ = some (.int .i64 6) ∧ W.cell? ⟨gt, 3, none⟩ = some vr ∧ W.cell? ⟨gt, 4, none⟩ = some vb ∧ W.cell? ⟨gt, 5, none⟩ = some (.slice none 0 0) := by
  have := h.tab
  refine ⟨?_, ?_, ?_, ?_, ?_, ?_⟩ <;> (rw [cell_of_row _ _ _ _ _ _ this]; rfl)
theorem LdM.free (h : LdM w0 gs gt W nr nb rs vr vb R) (k : Nat) : W.frozen? ⟨gt, k, none⟩ = false := frozen_of_row _ _ _ _ _ h.tab
end
/-- The copy of a bound, and a 0 to be repeated. -/
theorem bx2L (W : World) (x y z : Value) (T U : TypeId) : Below W.heap.size W ((W.alloc (.cells #[x, y] T)).alloc (.cells #[z] U)).drew ∧ ((W.alloc (.cells #[x, y] T)).alloc (.cells #[z] U)).drew.heap[W.heap.size]? = some (.cells #[x, y] T (0, 0)) ∧
    ((W.alloc (.cells #[x, y] T)).alloc (.cells #[z] U)).drew.cell? ⟨W.heap.size + 1, 0, none⟩ = some z := by
  have h1 := heap_alloc_new W (.cells #[x, y] T)
  have b1 : Below W.heap.size W (W.alloc (.cells #[x, y] T)) := (Below.refl _ _).alloc (Nat.le_refl _) _
  have s1 : (W.alloc (.cells #[x, y] T)).heap.size = W.heap.size + 1 := by simp
  generalize W.alloc (.cells #[x, y] T) = W1 at *
  have h2 := heap_alloc_new W1 (.cells #[z] U)
  have b2 : Below W1.heap.size W1 (W1.alloc (.cells #[z] U)) := (Below.refl _ _).alloc (Nat.le_refl _) _
  rw [s1] at h2
  exact ⟨(b1.nxt b2).drew, keepB h1 b2.drew, one_cell h2⟩
theorem rowcell {W : World} {g k : Nat} {l : List Rat} {T : TypeId} {fr : Nat × Nat} (h : W.heap[g]? = some (.cells (rtC l) T fr)) (hk : k < l.length) : W.cell? ⟨g, k, none⟩ = some ((Value.string ⟨(rtoa (Lp.at_ l k)).toArray⟩)) := by
  rw [cell_of_row _ _ _ _ _ _ h, Lp.at_get hk]
  simp [rtC, rtF, List.getElem?_eq_getElem hk]
theorem rowset {W : World} {g : Nat} {l : List Rat} {T : TypeId} (h : W.heap[g]? = some (.cells (rtC l) T (0, 0))) (k : Nat) (q : Rat) : (W.setCell ⟨g, k, none⟩ ((Value.string ⟨(rtoa q).toArray⟩))).heap[g]? = some (.cells (rtC (l.set k q)) T (0, 0)) := by
  rw [heap_setCell_same W g k _ _ ((Value.string ⟨(rtoa q).toArray⟩)) h]
  simp [rtC, rtF, List.map_set]
theorem rowset2 {W : World} {g : Nat} {l : List Rat} {T : TypeId} (h : W.heap[g]? = some (.cells (rtC l) T (0, 0))) (k : Nat) (q : Rat) {v : Value} (hv : v = (Value.string ⟨(rtoa q).toArray⟩)) : (W.setCell ⟨g, k, none⟩ v).heap[g]? = some (.cells (rtC (l.set k q)) T (0, 0)) := by
  rw [hv]; exact rowset h k q
theorem rt_one : (Value.string ⟨#[49]⟩) = (Value.string ⟨(rtoa 1).toArray⟩) := by rw [show rtoa 1 = [49] by decide +kernel]
theorem rt_neg : (Value.string ⟨#[45, 49]⟩) = (Value.string ⟨(rtoa (-1)).toArray⟩) := by rw [show rtoa (-1) = [45, 49] by decide +kernel]
theorem lal (w : World) (o : Obj) : Below w.heap.size w (w.alloc o) := (Below.refl _ _).alloc (Nat.le_refl _) _
theorem wpList_app1 {P : Program} {w : World} {ops : Array Oper} {rest : List Oper} {o : Oper} {a : Act} {Q : Exit → Act → World → Prop} (hgd : o.guard = none) (s x : Operand) (t e : TypeId)
    (ho : o.op = .call { callee := .builtin .append, args := #[s, x], argTypes := #[t, t] }) (ht : P.underlying t = some (.slice e)) (z : Value) (by_ : Nat) (hby : 1 ≤ by_)
    (hi : (P.info? e).map (fun i => (i.zero, i.size, i.bytes)) = some (some z, 1, by_)) (hz : z.cells.size = 1) (base : Nat) (v : Value) (n : Nat) (xs : List Value) (hs : a.eval s = v) (hown : w.ownsRow base e 1 v n xs)
    (b : Nat) (u : Value) (hx : a.eval x = .slice (some ⟨b, 0, none⟩) 1 1) (hc : w.cell? ⟨b, 0, none⟩ = some u) (h1 : u.oneCell' = true) (hn : (n + 1) * by_ ≤ 140737488355328) (hbase : base ≤ w.heap.size)
    (h : ∀ v' w', w'.ownsRow base e 1 v' (n + 1) (xs ++ [u]) → w.grownBy w' v.ownBlock → wpList P ops Q rest (a.put o.dst v') w') : wpList P ops Q (o :: rest) a w := by
  obtain ⟨i0, hi0, hz0, hz1, hz2⟩ := info_parts hi
  refine wpList_append_own w hgd s x t ho base e i0 z 1 by_ ht hi0 hz0 hz1 hz2 hz (by decide) v n xs hs hown ⟨b, 0, none⟩ 1 1 [u] hx rfl ?_ (fun y hy => by rw [List.mem_singleton.1 hy]; exact h1) ?_ hn hbase fun v' w' k1 k2 _ => h v' w' k1 k2
  · intro j y hj
    match j, hj with
    | 0, hj => obtain rfl := Option.some.inj hj; exact hc
  · have := Nat.le_mul_of_pos_right (n + 1) hby
    unfold maxLen; omega
theorem own_shape {w : World} {base : Nat} {e : TypeId} {k n : Nat} {v : Value} {xs : List Value} (h : w.ownsRow base e k v (n + 1) xs) : ∃ g cap, v = .slice (some ⟨g, 0, none⟩) (n + 1) cap := by
  rcases h.2 with ⟨-, h0⟩ | ⟨g, cap, cur, rfl, -⟩
  · cases h0
  · exact ⟨g, cap, rfl⟩
theorem infoR : (Tryz.prog.info? 64).map (fun i => (i.zero, i.size, i.bytes)) = some (some (.slice none 0 0), 1, 24) := by kernel_rfl
theorem infoI : (Tryz.prog.info? 3).map (fun i => (i.zero, i.size, i.bytes)) = some (some (.int .i64 0), 1, 8) := by kernel_rfl
abbrev rE (B : Nat → List Rat × Rat) : Nat → List Rat := fun j => Lp.rowE j (B j).1 (B j).2
/-- The types of a table's blocks. -/
def tyB (i : Nat) : TypeId := if i < 7 then 27 else if i = 7 then 3 else if i = 8 then 64 else if i = 9 then 136 else 134
theorem tyB_inj {i j : Nat} (hi : i < 11) (hj : j < 11) (h : tyB i = tyB j) : (i < 7 ∧ j < 7) ∨ i = j := by
  unfold tyB at h
  split at h <;> split at h <;> first | omega | (repeat' split at h) <;> first | omega | (exact absurd h (by decide))
theorem nod_inj {l : List Nat} (h : l.Nodup) {i j : Nat} (hi : i < l.length) (hj : j < l.length) (e : l[i] = l[j]) : i = j := by
  rw [List.Nodup, List.pairwise_iff_getElem] at h
  rcases Nat.lt_trichotomy i j with q | q | q
  · exact absurd e (h i j hi hj q)
  · exact q
  · exact absurd e.symm (h j i hj hi q)
def adL (rs : List Nat) (gg g2 g1 gs gt : Nat) (i : Nat) : Nat := if i < 7 then (rs ++ [gg]).getD i 0 else if i = 7 then g2 else if i = 8 then g1 else if i = 9 then gs else gt
theorem LdM.tb {w0 : World} {gs gt : Nat} {W : World} {rs : List Nat} {vr vb : Value} {R : Nat → List Rat} (h : LdM w0 gs gt W 6 6 rs vr vb R) {gg : Nat} (hgg : W.heap[gg]? = some (.cells (rtC (List.replicate 16 0)) 27 (0, 0))) (hlo : w0.heap.size ≤ gg) (hn : gg ∉ rs) :
    ∃ ad cr cb, ad 10 = gt ∧ TB w0 ad cr cb (W.setCell ⟨gt, 5, none⟩ (.slice (some ⟨gg, 0, none⟩) 16 16)) (fun i => if i = 6 then List.replicate 16 0 else R i) (fun i => 8 + i) := by
  obtain ⟨g1, cap1, rfl⟩ := own_shape h.own
  obtain ⟨g2, cap2, rfl⟩ := own_shape h.bas
  have s : ∀ {e : TypeId}, e ≠ 134 → Tk e W (W.setCell ⟨gt, 5, none⟩ (.slice (some ⟨gg, 0, none⟩) 16 16)) := fun hne => Tk.set h.tab hne _
  have htab := heap_setCell_same W gt 5 _ _ (.slice (some ⟨gg, 0, none⟩) 16 16) h.tab
  have hbel : Below w0.heap.size w0 (W.setCell ⟨gt, 5, none⟩ (.slice (some ⟨gg, 0, none⟩) 16 16)) := Below.setc h.bel h.lo.2 _ _
  have ho := (s (by decide)).own h.own
  have hb := (s (by decide)).own h.bas
  have hs := (s (by decide)).keep h.sum
  have hr : ∀ i (hi : i < rs.length), (W.setCell ⟨gt, 5, none⟩ (.slice (some ⟨gg, 0, none⟩) 16 16)).heap[rs[i]]? = some (.cells (rtC (R i)) 27 (0, 0)) ∧ (R i).length = 16 := fun i hi => ⟨(s (by decide)).keep (h.row i hi).1, (h.row i hi).2⟩
  have hg := (s (by decide)).keep hgg
  generalize W.setCell ⟨gt, 5, none⟩ (.slice (some ⟨gg, 0, none⟩) 16 16) = W' at *
  rcases ho.2 with ⟨z, -⟩ | ⟨_, _, cur1, e1, l1, b1, -, -, -, k1⟩
  · cases z
  rcases hb.2 with ⟨z, -⟩ | ⟨_, _, cur2, e2, l2, b2, -, -, -, k2⟩
  · cases z
  cases e1
  cases e2
  have hl := h.asl
  have hnod : (rs ++ [gg]).Nodup := by
    rw [List.nodup_append]
    exact ⟨h.nod, by simp, fun a ha b hb => by obtain rfl := List.mem_singleton.1 hb; rintro rfl; exact hn ha⟩
  have a7 : ∀ i (hi : i < 7), adL rs gg g2 g1 gs gt i = (rs ++ [gg])[i]'(by simp; omega) := fun i hi => by
    unfold adL
    rw [if_pos hi, List.getD_eq_getElem?_getD, List.getElem?_eq_getElem (by simp; omega)]; rfl
  have a6 : adL rs gg g2 g1 gs gt 6 = gg := by
    rw [a7 6 (by omega), List.getElem_append_right (by omega)]
    simp [hl]
  have ar : ∀ i (hi : i < 6), adL rs gg g2 g1 gs gt i = rs[i]'(by omega) := fun i hi => by
    rw [a7 i (by omega), List.getElem_append_left]
  have hrow : ∀ i, i < 7 → W'.heap[adL rs gg g2 g1 gs gt i]? = some (.cells (rtC (if i = 6 then List.replicate 16 0 else R i)) 27 (0, 0)) ∧ (if i = 6 then List.replicate 16 0 else R i).length = 16 := fun i hi => by
    by_cases e : i = 6
    · rw [if_pos e, e, a6]; exact ⟨hg, by simp⟩
    · rw [if_neg e, ar i (by omega)]; exact hr i (by omega)
  have hty : ∀ i, i < 11 → ∃ cs fr, W'.heap[adL rs gg g2 g1 gs gt i]? = some (.cells cs (tyB i) fr) := fun i hi => by
    rcases (show i < 7 ∨ i = 7 ∨ i = 8 ∨ i = 9 ∨ i = 10 by omega) with q | rfl | rfl | rfl | rfl
    · rw [show tyB i = 27 from if_pos q]; exact ⟨_, _, (hrow i q).1⟩
    · exact ⟨_, _, b2⟩
    · exact ⟨_, _, b1⟩
    · exact ⟨_, _, hs⟩
    · exact ⟨_, _, htab⟩
  refine ⟨adL rs gg g2 g1 gs gt, cap1, cap2, rfl, hbel, fun i hi => ?_, fun i j hi hj e => ?_, hrow, ⟨cur2, b2, fun i hi => ?_⟩, ⟨cur1, b1, fun i hi => ?_⟩, hs, ?_⟩
  · rcases (show i < 6 ∨ i = 6 ∨ i = 7 ∨ i = 8 ∨ i = 9 ∨ i = 10 by omega) with q | rfl | rfl | rfl | rfl | rfl
    · rw [ar i q]; exact h.low _ (List.getElem_mem _)
    · rw [a6]; exact hlo
    · exact l2
    · exact l1
    · exact h.lo.1
    · exact h.lo.2
  · obtain ⟨cs, fr, hi1⟩ := hty i hi
    obtain ⟨cs', fr', hj1⟩ := hty j hj
    rw [e, hj1] at hi1
    rcases tyB_inj hi hj (Obj.cells.inj (Option.some.inj hi1)).2.1.symm with ⟨p, q⟩ | q
    · rw [a7 i p, a7 j q] at e
      exact nod_inj hnod _ _ e
    · exact q
  · have : (cur2.toList.take (6 * 1))[i]? = (((List.range 6).map fun i => Value.int .i64 ((8 + i : Nat) : Int)))[i]? := by rw [k2]
    rw [List.getElem?_take, if_pos (by omega), List.getElem?_map, List.getElem?_range hi] at this
    rw [← Array.getElem?_toList, this]; rfl
  · have : (cur1.toList.take (6 * 1))[i]? = (rs.map hdV)[i]? := by rw [k1]
    rw [List.getElem?_take, if_pos (by omega), List.getElem?_map, List.getElem?_eq_getElem (l := rs) (i := i) (by omega)] at this
    rw [← Array.getElem?_toList, this, ar i hi]; rfl
  · have : tabC (adL rs gg g2 g1 gs gt) cap1 cap2 = #[.pointer (some ⟨gs, 0, none⟩), .int .i64 4, .int .i64 6, .slice (some ⟨g1, 0, none⟩) 6 cap1, .slice (some ⟨g2, 0, none⟩) 6 cap2, .slice (some ⟨gg, 0, none⟩) 16 16] := by
      unfold tabC; rw [a6]; rfl
    rw [this]; exact htab
def LdP (w0 : World) (R : Nat → List Rat) (e : Ending) (W : World) : Prop := ∃ ad cr cb, e = .returned (.pointer (some ⟨ad 10, 0, none⟩)) ∧ TB w0 ad cr cb W (fun i => if i = 6 then List.replicate 16 0 else R i) (fun i => 8 + i)
set_option maxRecDepth 100000 in
set_option linter.unusedSimpArgs false in
set_option maxHeartbeats 4000000 in
theorem laid_c {w0 : World} (hg : Good w0) {gB off cap : Nat} {rb : Nat → Nat} {B : Nat → List Rat × Rat} (hB : Bds w0 gB off rb B) (hsm : ∀ i, i < 6 → ∀ k, k < 4 → Lp.sm (Lp.at_ (B i).1 k) = true) :
    Calls Tryz.prog 70 #[.int .i64 4, .slice (some ⟨gB, off, none⟩) 6 cap] w0 (LdP w0 (rE B)) := by
  have HB := Lib.hid (fun W (h : Below w0.heap.size w0 W) => hB.later h)
  have HL0 := Lib.hid (ld_start w0 (rE B))
  have HSM := Lib.hid hsm
  have HG := Lib.hid (fun W (h : Below w0.heap.size w0 W) => hg.later h)
  clear hB hsm hg
  go_enter Tryz.func70, Tryz.ntmps70
  go_wp2_with fail
  generalize (w0.alloc (.cells #[.int .i64 0] 136)).alloc (.cells #[.pointer (some ⟨w0.heap.size, 0, none⟩), .int .i64 4, .int .i64 6, .slice none 0 0, .slice none 0 0, .slice none 0 0] 134) = W1 at *
  obtain ⟨gs, hgs⟩ : ∃ x, w0.heap.size = x := ⟨_, rfl⟩
  obtain ⟨gt, hgt⟩ : ∃ x, w0.heap.size + 1 = x := ⟨_, rfl⟩
  rw [hgt]
  rw [hgs] at HL0 hgt ⊢
  rw [hgt] at HL0
  have HZ := Lib.hid hgs
  clear hgs hgt
  go_loopw [20] (fun si wr => ∃ (i : Nat) (rs : List Nat) (vr vb : Value), si = .int .i64 (i : Int) ∧ i ≤ 6 ∧ Hid (LdM w0 gs gt wr i i rs vr vb (rE B))) (fun si _ => 6 - (intOf si).toNat)
  case atStart => exact ⟨0, [], _, _, rfl, Nat.zero_le _, HL0.out⟩
  case round =>
    obtain ⟨i, rs, vr, vb, rfl, hi, hL⟩ := hrel
    obtain ⟨wo, rfl⟩ : ∃ x, x = wr := ⟨_, rfl⟩
    by_cases hlt : i < 6
    · obtain ⟨c0, c1, c2⟩ := HB.out _ hL.out.bel i hlt
      have i4 : (0 : Int) ≤ (i : Int) := by omega
      have i5 : (i : Int) < 6 := by omega
      obtain ⟨hb1, q0, q1⟩ := bx2L wo (.slice (some ⟨rb i, 0, none⟩) 4 4) ((Value.string ⟨(rtoa (B i).2).toArray⟩)) (.string ⟨#[48]⟩) 96 27
      have q2 : ((wo.alloc (.cells #[.slice (some ⟨rb i, 0, none⟩) 4 4, Value.string ⟨(rtoa (B i).2).toArray⟩] 96)).alloc (.cells #[.string ⟨#[48]⟩] 27)).drew.cell? ⟨wo.heap.size + 1, 0, none⟩ = some ((Value.string ⟨(rtoa 0).toArray⟩)) := by rw [rtoa_zero]; exact q1
      have HB1 := Lib.hid hb1
      have HQ2 := Lib.hid q2
      have HQ0 := Lib.hid q0
      have HE := Lib.hid (fun k (hk : k < 4) => HSM.out i hlt k hk)
      have HM := Lib.hid (fun W (h : Below w0.heap.size w0 W) k (hk : k < 4) => (HB.out W h i hlt).2.2 k hk)
      obtain ⟨x1, x2⟩ : ((wo.alloc (.cells #[.slice (some ⟨rb i, 0, none⟩) 4 4, Value.string ⟨(rtoa (B i).2).toArray⟩] 96)).alloc (.cells #[.string ⟨#[48]⟩] 27)).cell? ⟨gt, 1, none⟩ = some (.int .i64 4) ∧ ((wo.alloc (.cells #[.slice (some ⟨rb i, 0, none⟩) 4 4, Value.string ⟨(rtoa (B i).2).toArray⟩] 96)).alloc (.cells #[.string ⟨#[48]⟩] 27)).cell? ⟨gt, 2, none⟩ = some (.int .i64 6) := by
        have hc := (hL.out.later hb1).cell
        exact ⟨hc.2.1, hc.2.2.1⟩
      clear HL0 c2 q1 q2 q0 hb1
      go_wp2_with fail
      ((with_reducible refine (pwidth2_c x1 x2).mono ?_); rintro en w2 ⟨rfl, rfl⟩)
      clear x1 x2 c0 c1
      go_wp2_with fail
      ((with_reducible refine (rep16_c _ HQ2.out).mono ?_); rintro en w3 ⟨g, rfl, hgl, hgr, hb3⟩)
      have HB3 := Lib.hid (HB1.out.nxt hb3)
      have HG3 := Lib.hid hgr
      have HN3 := Lib.hid (keepB HQ0.out hb3)
      have hgl2 : wo.heap.size ≤ g := Nat.le_trans HB1.out.size hgl
      have hgn : wo.heap.size + 1 < g := by have := (Nat.le_trans (show wo.heap.size + 2 ≤ _ by simp [World.drew]) hgl); omega
      clear hb3 HQ2 HQ0 HB1 hgr hgl
      obtain ⟨n0, hn0⟩ : ∃ x, wo.heap.size = x := ⟨_, rfl⟩
      have HN0 := Lib.hid hn0
      rw [hn0] at HN3 hgn hgl2
      rw [hn0]
      clear hn0
      obtain ⟨d0, d1⟩ : w3.cell? ⟨n0, 0, none⟩ = some (.slice (some ⟨rb i, 0, none⟩) 4 4) ∧ w3.cell? ⟨n0, 1, none⟩ = some ((Value.string ⟨(rtoa (B i).2).toArray⟩)) := ⟨by rw [cell_of_row _ _ _ _ _ _ HN3.out]; rfl, by rw [cell_of_row _ _ _ _ _ _ HN3.out]; rfl⟩
      go_wp2_with fail
      clear d0 d1
      go_loopw [33] (fun sk wq => ∃ k : Nat, sk = .int .i64 (k : Int) ∧ k ≤ 4 ∧ Hid (wq.heap[g]? = some (.cells (rtC (Lp.rowS (B i).1 k)) 27 (0, 0))) ∧ Hid (Below wo.heap.size wo wq) ∧ Hid (wq.heap[n0]? = some (.cells #[.slice (some ⟨rb i, 0, none⟩) 4 4, Value.string ⟨(rtoa (B i).2).toArray⟩] 96 (0, 0)))) (fun sk _ => 4 - (intOf sk).toNat)
      case atStart => exact ⟨0, rfl, Nat.zero_le _, HG3.out, HB3.out, HN3.out⟩
      case round =>
        obtain ⟨k, rfl, hk, hgk, hbk, hnk⟩ := hrel
        clear HG3 HB3 HN3
        by_cases hlk : k < 4
        · have mk := HM.out wr (hL.out.bel.nxt hbk.out) k hlk
          have hs := HE.out k hlk
          have i6 : (0 : Int) ≤ (k : Int) := by omega
          have i7 : (k : Int) < 4 := by omega
          have i8 : (0 : Int) ≤ 4 + (k : Int) := by omega
          have i9 : 4 + (k : Int) < 16 := by omega
          have i10 : (4 + (k : Int)).toNat = 4 + k := by omega
          have i11 : (k : Int) < 16 := by omega
          have HNG := Lib.hid (fun W' (h : Below wr.heap.size wr W') => lneg_c (sm_sz hs) (by omega) W' (HG.out W' (hL.out.bel.nxt (hbk.out.nxt h))))
          have HOF := Lib.hid (fun (a : Txt) W' (h : Below wr.heap.size wr W') => pof_c a gs W' (hL.out.later (hbk.out.nxt h)).sum)
          have HALL := Lib.hid (fun W' (h : Below wr.heap.size wr W') => (hL.out.later (hbk.out.nxt h)).cell.1)
          have hgg : gt ≠ g := by
            have := (Array.getElem?_eq_some_iff.1 hL.out.tab).1
            have := HN0.out
            omega
          have HALS := Lib.hid (fun W' (h : Below wr.heap.size wr W') (v : Value) => (by rw [World.cell?_setCell_other _ _ _ _ (by intro z; exact hgg (congrArg Addr.block z).symm)]; exact HALL.out W' h : (W'.setCell ⟨g, k, none⟩ v).cell? ⟨gt, 0, none⟩ = some (.pointer (some ⟨gs, 0, none⟩))))
          have hst : ((Lp.rowS (B i).1 k).set k (Lp.at_ (B i).1 k)).set (4 + k) (-(Lp.at_ (B i).1 k)) = Lp.rowS (B i).1 (k + 1) := rfl
          have HST := Lib.hid hst
          have hrl := Lp.rowS_len (B i).1 k
          have hB := Below.refl wr.heap.size wr
          clear hst HM HE
          generalize Lp.at_ (B i).1 k = x at *
          generalize Lp.rowS (B i).1 k = row at *
          obtain ⟨row2, hrow2⟩ : ∃ r, Lp.rowS (B i).1 (k + 1) = r := ⟨_, rfl⟩
          rw [hrow2] at HST
          have HR2 := Lib.hid hrow2
          clear hrow2
          generalize rtoa (B i).2 = tm at *
          go_wp2_with fail
          refine Go.Front.wp_region_front (S := fun V => V.cell? ⟨gt, 0, none⟩ = some (.pointer (some ⟨gs, 0, none⟩))) 18 (by kernel_rfl) (by simp) (by kernel_rfl) (by kernel_rfl) (by kernel_rfl) (by kernel_rfl) ?_ (fun hHeld => ?_)
          · (first | with_reducible exact HALS.out _ B3 _ | with_reducible exact HALL.out _ B3 | with_reducible exact HALL.out _ B2 | with_reducible exact HALL.out _ hB.drew)
          simp only [List.take_succ_cons, List.take_zero, List.drop_succ_cons, List.drop_zero]
          refine wpAnyH_take (i := 0) (v := ?_) rfl (by kernel_rfl) (by kernel_rfl) (by kernel_rfl) (fun _ _ _ h => h) (Or.inl ⟨by rfl, ?_⟩) hHeld ?_
          rotate_left
          · intro W hSw; (try dsimp only at hSw); go_simp <;> with_reducible rfl
          (try simp only [Act.put, List.setIfInBounds_toArray, List.set_cons_zero, List.set_cons_succ])
          refine wpAnyH_take (i := 1) (v := ?_) rfl (by kernel_rfl) (by kernel_rfl) (by kernel_rfl) (fun _ _ _ h => h) (Or.inl ⟨by rfl, ?_⟩) hHeld ?_
          rotate_left
          · intro W hSw; (try dsimp only at hSw); go_simp <;> with_reducible rfl
          (try simp only [Act.put, List.setIfInBounds_toArray, List.set_cons_zero, List.set_cons_succ])
          refine wpAnyH_take (i := 2) (v := ?_) rfl (by kernel_rfl) (by kernel_rfl) (by kernel_rfl) (fun _ _ _ h => h) (Or.inl ⟨by rfl, ?_⟩) hHeld ?_
          rotate_left
          · intro W hSw; (try dsimp only at hSw); go_simp <;> with_reducible rfl
          (try simp only [Act.put, List.setIfInBounds_toArray, List.set_cons_zero, List.set_cons_succ])
          refine wpAnyH_take (i := 3) (v := ?_) rfl (by kernel_rfl) (by kernel_rfl) (by kernel_rfl) (fun _ _ _ h => h) (Or.inl ⟨by rfl, ?_⟩) hHeld ?_
          rotate_left
          · intro W hSw; (try dsimp only at hSw); go_simp <;> with_reducible rfl
          (try simp only [Act.put, List.setIfInBounds_toArray, List.set_cons_zero, List.set_cons_succ])
          refine wpAnyH_take (i := 4) (v := ?_) rfl (by kernel_rfl) (by kernel_rfl) (by kernel_rfl) (fun _ _ _ h => h) (Or.inl ⟨by rfl, ?_⟩) hHeld ?_
          rotate_left
          · intro W hSw; (try dsimp only at hSw); go_simp <;> with_reducible rfl
          (try simp only [Act.put, List.setIfInBounds_toArray, List.set_cons_zero, List.set_cons_succ])
          refine wpAnyH_take (i := 5) (v := ?_) rfl (by kernel_rfl) (by kernel_rfl) (by kernel_rfl) (fun _ _ _ h => h) (Or.inl ⟨by rfl, ?_⟩) hHeld ?_
          rotate_left
          · intro W hSw; (try dsimp only at hSw); go_simp <;> with_reducible rfl
          (try simp only [Act.put, List.setIfInBounds_toArray, List.set_cons_zero, List.set_cons_succ])
          refine wpAnyH_take (i := 6) (v := ?_) rfl (by kernel_rfl) (by kernel_rfl) (by kernel_rfl) (fun _ _ _ h => h) (Or.inl ⟨by rfl, ?_⟩) hHeld ?_
          rotate_left
          · intro W hSw; (try dsimp only at hSw); go_simp <;> with_reducible rfl
          (try simp only [Act.put, List.setIfInBounds_toArray, List.set_cons_zero, List.set_cons_succ])
          refine wpAnyH_take (i := 7) (v := ?_) rfl (by kernel_rfl) (by kernel_rfl) (by kernel_rfl) (fun _ _ _ h => h) (Or.inl ⟨by rfl, ?_⟩) hHeld ?_
          rotate_left
          · intro W hSw; (try dsimp only at hSw); go_simp <;> with_reducible rfl
          (try simp only [Act.put, List.setIfInBounds_toArray, List.set_cons_zero, List.set_cons_succ])
          refine wpAnyH_take (i := 8) (v := ?_) rfl (by kernel_rfl) (by kernel_rfl) (by kernel_rfl) (fun _ _ _ h => h) (Or.inl ⟨by rfl, ?_⟩) hHeld ?_
          rotate_left
          · intro W hSw; (try dsimp only at hSw); go_simp <;> with_reducible rfl
          (try simp only [Act.put, List.setIfInBounds_toArray, List.set_cons_zero, List.set_cons_succ])
          refine wpAnyH_take (i := 9) (v := ?_) rfl (by kernel_rfl) (by kernel_rfl) (by kernel_rfl) (fun _ _ _ h => h) (Or.inl ⟨by rfl, ?_⟩) hHeld ?_
          rotate_left
          · intro W hSw; (try dsimp only at hSw); go_simp <;> with_reducible rfl
          (try simp only [Act.put, List.setIfInBounds_toArray, List.set_cons_zero, List.set_cons_succ])
          refine wpAnyH_take (i := 10) (v := ?_) rfl (by kernel_rfl) (by kernel_rfl) (by kernel_rfl) (fun _ _ _ h => h) (Or.inl ⟨by rfl, ?_⟩) hHeld ?_
          rotate_left
          · intro W hSw; (try dsimp only at hSw); go_simp <;> with_reducible rfl
          (try simp only [Act.put, List.setIfInBounds_toArray, List.set_cons_zero, List.set_cons_succ])
          refine wpAnyH_take (i := 11) (v := ?_) rfl (by kernel_rfl) (by kernel_rfl) (by kernel_rfl) (fun _ _ _ h => h) (Or.inl ⟨by rfl, ?_⟩) hHeld ?_
          rotate_left
          · intro W hSw; (try dsimp only at hSw); go_simp <;> with_reducible rfl
          (try simp only [Act.put, List.setIfInBounds_toArray, List.set_cons_zero, List.set_cons_succ])
          refine wpAnyH_ready (rs := [12]) (by kernel_rfl) (by simp) ?_
          refine AllReadyH.cons rfl (fun K hK => ?_) AllReadyH.nil
          go_simp
          ((with_reducible refine (HNG.out _ hB.drew).mono ?_); rintro en w4 ⟨rfl, hb4⟩; have B2 := hB.drew.nxt hb4; go_simp)
          refine hK.out _ _ ?_ (fun hHeld => ?_)
          · ((try dsimp only); first | with_reducible exact HALS.out _ B3 _ | with_reducible exact HALL.out _ B3 | with_reducible exact HALL.out _ B2 | with_reducible exact HALL.out _ hB.drew)
          clear hK K
          (try simp only [Act.put, List.setIfInBounds_toArray, List.set_cons_zero, List.set_cons_succ])
          refine wpAnyH_take (i := 13) (v := ?_) rfl (by kernel_rfl) (by kernel_rfl) (by kernel_rfl) (fun _ _ _ h => h) (Or.inl ⟨by rfl, ?_⟩) hHeld ?_
          rotate_left
          · intro W hSw; (try dsimp only at hSw); go_simp <;> with_reducible rfl
          (try simp only [Act.put, List.setIfInBounds_toArray, List.set_cons_zero, List.set_cons_succ])
          refine wpAnyH_take (i := 14) (v := ?_) rfl (by kernel_rfl) (by kernel_rfl) (by kernel_rfl) (fun _ _ _ h => h) (Or.inl ⟨by rfl, ?_⟩) hHeld ?_
          rotate_left
          · intro W hSw; (try dsimp only at hSw); go_simp <;> with_reducible rfl
          (try simp only [Act.put, List.setIfInBounds_toArray, List.set_cons_zero, List.set_cons_succ])
          refine wpAnyH_ready (rs := [15]) (by kernel_rfl) (by simp) ?_
          refine AllReadyH.cons rfl (fun K hK => ?_) AllReadyH.nil
          go_simp
          ((with_reducible refine (HOF.out _ _ B2).mono ?_); rintro en w5 ⟨rfl, hb5⟩; have B3 := B2.nxt hb5)
          refine hK.out _ _ ?_ (fun hHeld => ?_)
          · ((try dsimp only); first | with_reducible exact HALS.out _ B3 _ | with_reducible exact HALL.out _ B3 | with_reducible exact HALL.out _ B2 | with_reducible exact HALL.out _ hB.drew)
          clear hK K
          (try simp only [Act.put, List.setIfInBounds_toArray, List.set_cons_zero, List.set_cons_succ])
          refine wpAnyH_take (i := 16) (v := ?_) rfl (by kernel_rfl) (by kernel_rfl) (by kernel_rfl) (fun _ _ _ h => h) (Or.inl ⟨by rfl, ?_⟩) hHeld ?_
          rotate_left
          · intro W hSw; (try dsimp only at hSw); go_simp <;> with_reducible rfl
          (try simp only [Act.put, List.setIfInBounds_toArray, List.set_cons_zero, List.set_cons_succ])
          refine wpAnyH_ready (rs := [17]) (by kernel_rfl) (by simp) ?_
          refine AllReadyH.cons rfl (fun K hK => ?_) AllReadyH.nil
          (have hg5 := keepB hgk.out B3; have f1 := frozen_of_row _ _ k _ _ hg5; have f2 := rowcell hg5 (show k < row.length by omega))
          go_simp
          refine hK.out _ _ ?_ (fun hHeld => ?_)
          · ((try dsimp only); first | with_reducible exact HALS.out _ B3 _ | with_reducible exact HALL.out _ B3 | with_reducible exact HALL.out _ B2 | with_reducible exact HALL.out _ hB.drew)
          clear hK K
          (try simp only [Act.put, List.setIfInBounds_toArray, List.set_cons_zero, List.set_cons_succ])
          refine wpAnyH_done (by kernel_rfl) ?_ _
          show wpList _ _ _ _ _ _
          have hg6 := rowset (keepB hgk.out B3) k x
          have f3 := frozen_of_row _ _ (4 + k) _ _ hg6
          have f4 := rowcell hg6 (show 4 + k < (row.set k x).length by rw [List.length_set]; omega)
          have HG7 := Lib.hid (rowset hg6 (4 + k) (-x))
          rw [HST.out] at HG7
          have HB7 := Lib.hid (Below.setc (Below.setc (hbk.out.nxt B3) (show wo.heap.size ≤ g by have := HN0.out; omega) k ((Value.string ⟨(rtoa x).toArray⟩))) (show wo.heap.size ≤ g by have := HN0.out; omega) (4 + k) ((Value.string ⟨(rtoa (-x)).toArray⟩)))
          have HN7 := Lib.hid ((heap_setCell_other (w5.setCell ⟨g, k, none⟩ ((Value.string ⟨(rtoa x).toArray⟩))) ⟨g, 4 + k, none⟩ n0 ((Value.string ⟨(rtoa (-x)).toArray⟩)) (show n0 ≠ g by omega)).trans ((heap_setCell_other w5 ⟨g, k, none⟩ n0 ((Value.string ⟨(rtoa x).toArray⟩)) (show n0 ≠ g by omega)).trans (keepB hnk.out B3)))
          clear HALL HALS HNG HOF hHeld B2 B3 hb4 hb5 hg6 hgk hbk hnk hB mk
          go_wp2
          go_roundw
          case rel => exact ⟨k + 1, by go_num, by omega, by rw [HR2.out]; exact HG7.out, HB7.out, HN7.out⟩
          case measure => simp [intOf]; omega
        · obtain rfl : k = 4 := by omega
          rw [show ((4 : Nat) : Int) = 4 from rfl]
          have HALL := Lib.hid (fun W' (h : Below wr.heap.size wr W') => by
            have hc := (hL.out.later (hbk.out.nxt h)).cell
            exact (⟨hc.2.1, hc.2.2.1, by rw [cell_of_row _ _ _ _ _ _ (keepB hnk.out h)]; rfl⟩ : W'.cell? ⟨gt, 1, none⟩ = some (.int .i64 4) ∧ W'.cell? ⟨gt, 2, none⟩ = some (.int .i64 6) ∧ W'.cell? ⟨n0, 1, none⟩ = some (.string ⟨(rtoa (B i).2).toArray⟩)))
          have hgg : gt ≠ g := by
            have := (Array.getElem?_eq_some_iff.1 hL.out.tab).1
            have := HN0.out
            omega
          have HSS := Lib.hid (fun (W' : World) (j : Nat) (v : Value) (h : W'.cell? ⟨gt, 1, none⟩ = some (.int .i64 4) ∧ W'.cell? ⟨gt, 2, none⟩ = some (.int .i64 6) ∧ W'.cell? ⟨n0, 1, none⟩ = some (.string ⟨(rtoa (B i).2).toArray⟩)) => (by
            obtain ⟨h1, h2, h3⟩ := h
            refine ⟨?_, ?_, ?_⟩
            · rw [World.cell?_setCell_other _ _ _ _ (by intro z; exact hgg (congrArg Addr.block z).symm)]; exact h1
            · rw [World.cell?_setCell_other _ _ _ _ (by intro z; exact hgg (congrArg Addr.block z).symm)]; exact h2
            · rw [World.cell?_setCell_other _ _ _ _ (by intro z; have := congrArg Addr.block z; simp only at this; omega)]; exact h3 : (W'.setCell ⟨g, j, none⟩ v).cell? ⟨gt, 1, none⟩ = some (.int .i64 4) ∧ (W'.setCell ⟨g, j, none⟩ v).cell? ⟨gt, 2, none⟩ = some (.int .i64 6) ∧ (W'.setCell ⟨g, j, none⟩ v).cell? ⟨n0, 1, none⟩ = some (.string ⟨(rtoa (B i).2).toArray⟩)))
          have hrl := Lp.rowS_len (B i).1 4
          have hB := Below.refl wr.heap.size wr
          have i8 : (0 : Int) ≤ 8 + (i : Int) := by omega
          have i9 : 8 + (i : Int) < 16 := by omega
          have i10 : (8 + (i : Int)).toNat = 8 + i := by omega
          have w8 : IntKind.i64.wrap 8 = 8 := by decide
          have w14 : IntKind.i64.wrap 14 = 14 := by decide
          have HD := Lib.hid (fun (W' : World) (h : W'.cell? ⟨gt, 1, none⟩ = some (.int .i64 4) ∧ W'.cell? ⟨gt, 2, none⟩ = some (.int .i64 6) ∧ W'.cell? ⟨n0, 1, none⟩ = some (.string ⟨(rtoa (B i).2).toArray⟩)) => (show W'.drew.cell? ⟨gt, 1, none⟩ = some (.int .i64 4) ∧ W'.drew.cell? ⟨gt, 2, none⟩ = some (.int .i64 6) ∧ W'.drew.cell? ⟨n0, 1, none⟩ = some (.string ⟨(rtoa (B i).2).toArray⟩) from h))
          have w9 : IntKind.i64.wrap (8 + (i : Int)) = 8 + (i : Int) := by rw [IntKind.wrap_i64]; omega
          have HRE := Lib.hid (show (((Lp.rowS (B i).1 4).set (8 + i) 1).set 14 (-1)).set 15 (B i).2 = rE B i from rfl)
          clear HE HM
          generalize (B i).2 = mo at *
          generalize Lp.rowS (B i).1 4 = row at *
          go_wp2_with fail
          refine Go.Front.wp_region_front (S := fun V => V.cell? ⟨gt, 1, none⟩ = some (.int .i64 4) ∧ V.cell? ⟨gt, 2, none⟩ = some (.int .i64 6) ∧ V.cell? ⟨n0, 1, none⟩ = some (.string ⟨(rtoa mo).toArray⟩)) 18 (by kernel_rfl) (by simp) (by kernel_rfl) (by kernel_rfl) (by kernel_rfl) (by kernel_rfl) ?_ (fun hHeld => ?_)
          · (first | with_reducible exact HD.out _ (HD.out _ (HD.out _ (HSS.out _ _ _ (HSS.out _ _ _ (HALL.out _ hB))))) | with_reducible exact HD.out _ (HD.out _ (HD.out _ (HSS.out _ _ _ (HALL.out _ hB)))) | with_reducible exact HALL.out _ B3 | with_reducible exact HALL.out _ B2 | with_reducible exact HALL.out _ hB.drew)
          simp only [List.take_succ_cons, List.take_zero, List.drop_succ_cons, List.drop_zero]
          refine wpAnyH_take (i := 0) (v := ?_) rfl (by kernel_rfl) (by kernel_rfl) (by kernel_rfl) (fun _ _ _ h => h) (Or.inl ⟨by rfl, ?_⟩) hHeld ?_
          rotate_left
          · intro W hSw; (try dsimp only at hSw); go_simp <;> with_reducible rfl
          (try simp only [Act.put, List.setIfInBounds_toArray, List.set_cons_zero, List.set_cons_succ])
          refine wpAnyH_take (i := 1) (v := ?_) rfl (by kernel_rfl) (by kernel_rfl) (by kernel_rfl) (fun _ _ _ h => h) (Or.inl ⟨by rfl, ?_⟩) hHeld ?_
          rotate_left
          · intro W hSw; (try dsimp only at hSw); go_simp <;> with_reducible rfl
          (try simp only [Act.put, List.setIfInBounds_toArray, List.set_cons_zero, List.set_cons_succ])
          refine wpAnyH_take (i := 2) (v := ?_) rfl (by kernel_rfl) (by kernel_rfl) (by kernel_rfl) (fun _ _ _ h => h) (Or.inl ⟨by rfl, ?_⟩) hHeld ?_
          rotate_left
          · intro W hSw; (try dsimp only at hSw); go_simp <;> with_reducible rfl
          (try simp only [Act.put, List.setIfInBounds_toArray, List.set_cons_zero, List.set_cons_succ])
          refine wpAnyH_take (i := 3) (v := ?_) rfl (by kernel_rfl) (by kernel_rfl) (by kernel_rfl) (fun _ _ _ h => h) (Or.inl ⟨by rfl, ?_⟩) hHeld ?_
          rotate_left
          · intro W hSw; (try dsimp only at hSw); go_simp <;> with_reducible rfl
          (try simp only [Act.put, List.setIfInBounds_toArray, List.set_cons_zero, List.set_cons_succ])
          refine wpAnyH_take (i := 4) (v := ?_) rfl (by kernel_rfl) (by kernel_rfl) (by kernel_rfl) (fun _ _ _ h => h) (Or.inl ⟨by rfl, ?_⟩) hHeld ?_
          rotate_left
          · intro W hSw; (try dsimp only at hSw); go_simp <;> with_reducible rfl
          (try simp only [Act.put, List.setIfInBounds_toArray, List.set_cons_zero, List.set_cons_succ])
          refine wpAnyH_take (i := 5) (v := ?_) rfl (by kernel_rfl) (by kernel_rfl) (by kernel_rfl) (fun _ _ _ h => h) (Or.inl ⟨by rfl, ?_⟩) hHeld ?_
          rotate_left
          · intro W hSw; (try dsimp only at hSw); go_simp <;> with_reducible rfl
          (try simp only [Act.put, List.setIfInBounds_toArray, List.set_cons_zero, List.set_cons_succ])
          refine wpAnyH_take (i := 6) (v := ?_) rfl (by kernel_rfl) (by kernel_rfl) (by kernel_rfl) (fun _ _ _ h => h) (Or.inl ⟨by rfl, ?_⟩) hHeld ?_
          rotate_left
          · intro W hSw; (try dsimp only at hSw); go_simp <;> with_reducible rfl
          (try simp only [Act.put, List.setIfInBounds_toArray, List.set_cons_zero, List.set_cons_succ])
          refine wpAnyH_take (i := 9) (v := ?_) rfl (by kernel_rfl) (by kernel_rfl) (by kernel_rfl) (fun _ _ _ h => h) (Or.inl ⟨by rfl, ?_⟩) hHeld ?_
          rotate_left
          · intro W hSw; (try dsimp only at hSw); go_simp <;> with_reducible rfl
          (try simp only [Act.put, List.setIfInBounds_toArray, List.set_cons_zero, List.set_cons_succ])
          refine wpAnyH_take (i := 10) (v := ?_) rfl (by kernel_rfl) (by kernel_rfl) (by kernel_rfl) (fun _ _ _ h => h) (Or.inl ⟨by rfl, ?_⟩) hHeld ?_
          rotate_left
          · intro W hSw; (try dsimp only at hSw); go_simp <;> with_reducible rfl
          (try simp only [Act.put, List.setIfInBounds_toArray, List.set_cons_zero, List.set_cons_succ])
          refine wpAnyH_take (i := 12) (v := ?_) rfl (by kernel_rfl) (by kernel_rfl) (by kernel_rfl) (fun _ _ _ h => h) (Or.inl ⟨by rfl, ?_⟩) hHeld ?_
          rotate_left
          · intro W hSw; (try dsimp only at hSw); go_simp <;> with_reducible rfl
          (try simp only [Act.put, List.setIfInBounds_toArray, List.set_cons_zero, List.set_cons_succ])
          refine wpAnyH_take (i := 13) (v := ?_) rfl (by kernel_rfl) (by kernel_rfl) (by kernel_rfl) (fun _ _ _ h => h) (Or.inl ⟨by rfl, ?_⟩) hHeld ?_
          rotate_left
          · intro W hSw; (try dsimp only at hSw); go_simp <;> with_reducible rfl
          (try simp only [Act.put, List.setIfInBounds_toArray, List.set_cons_zero, List.set_cons_succ])
          refine wpAnyH_ready (rs := [7]) (by kernel_rfl) (by simp) ?_
          refine AllReadyH.cons rfl (fun K hK => ?_) AllReadyH.nil
          go_simp
          ((with_reducible refine (pwidth2_c (HALL.out _ hB.drew).1 (HALL.out _ hB.drew).2.1).mono ?_); rintro en w4 ⟨rfl, rfl⟩; have B2 := hB.drew.drew; go_simp)
          refine hK.out _ _ ?_ (fun hHeld => ?_)
          · ((try dsimp only); first | with_reducible exact HD.out _ (HD.out _ (HD.out _ (HSS.out _ _ _ (HSS.out _ _ _ (HALL.out _ hB))))) | with_reducible exact HD.out _ (HD.out _ (HD.out _ (HSS.out _ _ _ (HALL.out _ hB)))) | with_reducible exact HALL.out _ B3 | with_reducible exact HALL.out _ B2 | with_reducible exact HALL.out _ hB.drew)
          clear hK K
          (try simp only [Act.put, List.setIfInBounds_toArray, List.set_cons_zero, List.set_cons_succ])
          refine wpAnyH_take (i := 8) (v := ?_) rfl (by kernel_rfl) (by kernel_rfl) (by kernel_rfl) (fun _ _ _ h => h) (Or.inl ⟨by rfl, ?_⟩) hHeld ?_
          rotate_left
          · intro W hSw; (try dsimp only at hSw); go_simp <;> with_reducible rfl
          (try simp only [Act.put, List.setIfInBounds_toArray, List.set_cons_zero, List.set_cons_succ])
          refine wpAnyH_ready (rs := [11]) (by kernel_rfl) (by simp) ?_
          refine AllReadyH.cons rfl (fun K hK => ?_) AllReadyH.nil
          go_simp
          ((with_reducible refine (pwidth2_c (HALL.out _ B2).1 (HALL.out _ B2).2.1).mono ?_); rintro en w5 ⟨rfl, rfl⟩; have B3 := B2.drew; go_simp)
          refine hK.out _ _ ?_ (fun hHeld => ?_)
          · ((try dsimp only); first | with_reducible exact HD.out _ (HD.out _ (HD.out _ (HSS.out _ _ _ (HSS.out _ _ _ (HALL.out _ hB))))) | with_reducible exact HD.out _ (HD.out _ (HD.out _ (HSS.out _ _ _ (HALL.out _ hB)))) | with_reducible exact HALL.out _ B3 | with_reducible exact HALL.out _ B2 | with_reducible exact HALL.out _ hB.drew)
          clear hK K
          (try simp only [Act.put, List.setIfInBounds_toArray, List.set_cons_zero, List.set_cons_succ])
          refine wpAnyH_take (i := 14) (v := ?_) rfl (by kernel_rfl) (by kernel_rfl) (by kernel_rfl) (fun _ _ _ h => h) (Or.inl ⟨by rfl, ?_⟩) hHeld ?_
          rotate_left
          · intro W hSw; (try dsimp only at hSw); go_simp <;> with_reducible rfl
          (try simp only [Act.put, List.setIfInBounds_toArray, List.set_cons_zero, List.set_cons_succ])
          refine wpAnyH_ready (rs := [15]) (by kernel_rfl) (by simp) ?_
          refine AllReadyH.cons rfl (fun K hK => ?_) AllReadyH.nil
          (have hg5 := hgk.out; have f1 := frozen_of_row _ _ (8 + i) _ _ hg5; have f2 := rowcell hg5 (show 8 + i < row.length by omega))
          go_simp
          refine hK.out _ _ ?_ (fun hHeld => ?_)
          · ((try dsimp only); first | with_reducible exact HD.out _ (HD.out _ (HD.out _ (HSS.out _ _ _ (HSS.out _ _ _ (HALL.out _ hB))))) | with_reducible exact HD.out _ (HD.out _ (HD.out _ (HSS.out _ _ _ (HALL.out _ hB)))) | with_reducible exact HALL.out _ B3 | with_reducible exact HALL.out _ B2 | with_reducible exact HALL.out _ hB.drew)
          clear hK K
          (try simp only [Act.put, List.setIfInBounds_toArray, List.set_cons_zero, List.set_cons_succ])
          refine wpAnyH_take (i := 16) (v := ?_) rfl (by kernel_rfl) (by kernel_rfl) (by kernel_rfl) (fun _ _ _ h => h) (Or.inl ⟨by rfl, ?_⟩) hHeld ?_
          rotate_left
          · intro W hSw; (try dsimp only at hSw); go_simp <;> with_reducible rfl
          (try simp only [Act.put, List.setIfInBounds_toArray, List.set_cons_zero, List.set_cons_succ])
          refine wpAnyH_ready (rs := [17]) (by kernel_rfl) (by simp) ?_
          refine AllReadyH.cons rfl (fun K hK => ?_) AllReadyH.nil
          (have hg6 := rowset2 hg5 (8 + i) 1 rt_one; have f3 := frozen_of_row _ _ 14 _ _ hg6; have f4 := rowcell hg6 (show 14 < (row.set (8 + i) 1).length by rw [List.length_set]; omega))
          go_simp
          refine hK.out _ _ ?_ (fun hHeld => ?_)
          · ((try dsimp only); first | with_reducible exact HD.out _ (HD.out _ (HD.out _ (HSS.out _ _ _ (HSS.out _ _ _ (HALL.out _ hB))))) | with_reducible exact HD.out _ (HD.out _ (HD.out _ (HSS.out _ _ _ (HALL.out _ hB)))) | with_reducible exact HALL.out _ B3 | with_reducible exact HALL.out _ B2 | with_reducible exact HALL.out _ hB.drew)
          clear hK K
          (try simp only [Act.put, List.setIfInBounds_toArray, List.set_cons_zero, List.set_cons_succ])
          refine wpAnyH_done (by kernel_rfl) ?_ _
          show wpList _ _ _ _ _ _
          have hg7 := rowset2 hg6 14 (-1) rt_neg
          have f5 := frozen_of_row _ _ 15 _ _ hg7
          have f6 := rowcell hg7 (show 15 < ((row.set (8 + i) 1).set 14 (-1)).length by rw [List.length_set, List.length_set]; omega)
          have HG8 := Lib.hid (rowset hg7 15 mo)
          rw [HRE.out] at HG8
          have HB8 := Lib.hid (Below.setc (Below.setc (Below.setc hbk.out (show wo.heap.size ≤ g by have := HN0.out; omega) (8 + i) (.string ⟨#[49]⟩)) (show wo.heap.size ≤ g by have := HN0.out; omega) 14 (.string ⟨#[45, 49]⟩)) (show wo.heap.size ≤ g by have := HN0.out; omega) 15 ((Value.string ⟨(rtoa mo).toArray⟩)))
          clear HALL HSS HD hHeld B2 B3 hg5 hg6 hg7 f1 f2 f3 f4 hgk hbk hnk hB HRE
          have hgo := hL.out.not_new (show wo.heap.size ≤ g by have := HN0.out; omega)
          have hlo : w0.heap.size ≤ g := by have := hL.out.bel.size; have := HN0.out; omega
          go_upto_region 12 with fail
          generalize hX : (((wr.setCell ⟨g, 8 + i, none⟩ _).setCell ⟨g, 14, none⟩ _).setCell ⟨g, 15, none⟩ _).drew.drew.drew = w8
          have HG9 := Lib.hid (show w8.heap[g]? = some (.cells (rtC (rE B i)) 27 (0, 0)) from hX ▸ HG8.out)
          have HL9 := Lib.hid (hL.out.later (show Below wo.heap.size wo w8 from hX ▸ HB8.out.drew.drew.drew))
          clear hL HB8 HG8 hX f5 f6
          have HL10 := Lib.hid (HL9.out.later (lal w8 (.cells #[hdV g] 64)))
          obtain ⟨-, -, -, e3, -⟩ := HL9.out.cell
          have hrn : (rE B i).length = 16 := Lp.rowE_len ..
          go_wp2_with (at_builtin; refine Shut.out ?_)
          show wpList _ _ _ _ _ _
          refine wpList_app1 (by rfl) _ _ 131 64 (by rfl) Tryz.underlying131 (.slice none 0 0) 24 (by decide) infoR rfl w0.heap.size vr i (rs.map hdV) (by rfl) HL10.out.own w8.heap.size (hdV g) (by rfl) (one_cell (heap_alloc_new w8 _)) rfl (by omega) HL10.out.bel.size ?_
          intro v1 w11 ho11 hgr11
          obtain ⟨g1, cap1, rfl⟩ := own_shape ho11
          have t11 := (Tk.grown HL10.out.own hgr11 (e := 134) (by decide)).keep HL10.out.tab
          have f11 := frozen_of_row _ _ 3 _ _ t11
          have c11 : w11.cell? ⟨gt, 3, none⟩ = some vr := by rw [cell_of_row _ _ _ _ _ _ t11]; rfl
          have HL12 := Lib.hid (HL10.out.appR (keepB HG9.out (lal w8 _)) hrn hlo hgo ho11 hgr11)
          go_upto_region 13 with fail
          generalize w11.setCell ⟨gt, 3, none⟩ (.slice (some ⟨g1, 0, none⟩) (i + 1) cap1) = w12 at *
          clear c11 f11 t11 ho11 hgr11 HL9 HL10 HG9 e3
          obtain ⟨-, -, -, -, e4, -⟩ := HL12.out.cell
          have HL13 := Lib.hid (HL12.out.later (lal w12 (.cells #[.int .i64 (8 + (i : Int))] 3)))
          go_wp2_with (at_builtin; refine Shut.out ?_)
          show wpList _ _ _ _ _ _
          refine wpList_app1 (by rfl) _ _ 132 3 (by rfl) Tryz.underlying132 (.int .i64 0) 8 (by decide) infoI rfl w0.heap.size vb i ((List.range i).map fun i => .int .i64 ((8 + i : Nat) : Int)) (by rfl) HL13.out.bas w12.heap.size (.int .i64 (8 + (i : Int))) (by rfl) (one_cell (heap_alloc_new w12 _)) rfl (by omega) HL13.out.bel.size ?_
          intro v2 w14 ho14 hgr14
          obtain ⟨g2, cap2, rfl⟩ := own_shape ho14
          have t14 := (Tk.grown HL13.out.bas hgr14 (e := 134) (by decide)).keep HL13.out.tab
          have f14 := frozen_of_row _ _ 4 _ _ t14
          have c14 : w14.cell? ⟨gt, 4, none⟩ = some vb := by rw [cell_of_row _ _ _ _ _ _ t14]; rfl
          have HL15 := Lib.hid (HL13.out.appB ho14 hgr14)
          clear HL12 HL13 e4 t14 ho14 hgr14
          go_wp2
          go_roundw
          case rel => exact ⟨i + 1, _, _, _, by go_num, by omega, HL15.out⟩
          case measure => simp [intOf]; omega
    · obtain rfl : i = 6 := by omega
      rw [show ((6 : Nat) : Int) = 6 from rfl]
      have q0 : (wo.alloc (.cells #[.string ⟨#[48]⟩] 27)).drew.cell? ⟨wo.heap.size, 0, none⟩ = some ((Value.string ⟨(rtoa 0).toArray⟩)) := by rw [rtoa_zero]; exact one_cell (heap_alloc_new wo (.cells #[.string ⟨#[48]⟩] 27))
      have hlc := (hL.out.later (lal wo (.cells #[.string ⟨#[48]⟩] 27))).cell
      have x1 := hlc.2.1
      have x2 := hlc.2.2.1
      clear hlc HL0
      go_wp2_with fail
      ((with_reducible refine (pwidth2_c x1 x2).mono ?_); rintro en w2 ⟨rfl, rfl⟩)
      clear x1 x2
      go_wp2_with fail
      ((with_reducible refine (rep16_c _ q0).mono ?_); rintro en w3 ⟨gg, rfl, hgl, hgr, hb3⟩)
      have hb4 : Below wo.heap.size wo w3 := ((lal wo (.cells #[.string ⟨#[48]⟩] 27)).drew).nxt hb3
      have HL3 := Lib.hid (hL.out.later hb4)
      have hgo : wo.heap.size ≤ gg := Nat.le_trans (show wo.heap.size ≤ _ by simp [World.drew]) hgl
      have HT := Lib.hid (HL3.out.tb hgr (Nat.le_trans hL.out.bel.size hgo) (hL.out.not_new hgo))
      obtain ⟨-, -, -, -, -, c5⟩ := HL3.out.cell
      have f5 := HL3.out.free 5
      clear q0 hgl hgr hb3 hb4 hgo hL HL3
      go_wp2
      go_ret
      obtain ⟨ad, cr, cb, h10, T⟩ := HT.out
      exact ⟨ad, cr, cb, by rw [h10]; rfl, T⟩
end Go.Proofs.Wk
/- LINEAR PROGRAMS: all right sides are made not negative. -/
namespace Go.Proofs.Wk
open Go.RowKit Mt

set_option maxRecDepth 100000 in
set_option maxHeartbeats 2000000 in
theorem index_c {w0 W : World} {ad : Nat → Nat} {cr cb : Nat} {X : Nat → List Rat} {b : Nat → Nat} (h : TB w0 ad cr cb W X b) {x : Nat} (hne : ∀ i, i < 6 → b i ≠ x) :
    Calls Tryz.prog 108 #[.slice (some ⟨ad 7, 0, none⟩) 6 cb, .int .i64 (x : Int)] W (Ret W (.int .i64 (-1))) := by
  have HC := Lib.hid (fun i (hi : i < 6) => h.bcell hi)
  have HN := Lib.hid hne
  have hB := Below.refl W.heap.size W
  clear h hne
  go_enter Tryz.func108, Tryz.ntmps108
  go_wp2_with fail
  go_loopw [8] (fun si wr => ∃ i : Nat, si = .int .i64 (i : Int) ∧ i ≤ 6 ∧ wr = W) (fun si _ => 6 - (intOf si).toNat)
  case atStart => exact ⟨0, rfl, Nat.zero_le _, rfl⟩
  case round =>
    obtain ⟨i, rfl, hi, rfl⟩ := hrel
    by_cases hlt : i < 6
    · have c0 := HC.out i hlt
      have y1 : ((x : Int) == (b i : Int)) = false := by rw [beq_eq_false_iff_ne]; have := HN.out i hlt; omega
      have i4 : (0 : Int) ≤ (i : Int) := by omega
      have i5 : (i : Int) < 6 := by omega
      clear HC HN
      generalize b i = bi at *
      go_wp2
      go_roundw
      case rel => exact ⟨i + 1, by go_num, by omega, by first | trivial | rfl⟩
      case measure => simp [intOf]; omega
    · obtain rfl : i = 6 := by omega
      rw [show ((6 : Nat) : Int) = 6 from rfl]
      clear HC HN
      go_wp2
      go_ret
      exact ⟨rfl, hB⟩
theorem ws_bd (t : Lp.Tab) : ∀ i, Lp.worstS t i = -1 ∨ ∃ j : Nat, j < i ∧ Lp.worstS t i = (j : Int)
  | 0 => .inl rfl
  | i + 1 => by
    have h := (ws_bd t i).imp id fun ⟨j, a, e⟩ => (⟨j, by omega, e⟩ : ∃ j : Nat, j < i + 1 ∧ Lp.worstS t i = (j : Int))
    rw [Lp.worstS]
    split
    · exact h
    · split
      · exact h
      · exact .inr ⟨i, by omega, rfl⟩
theorem ws_skip {t : Lp.Tab} {i : Nat} (h : 0 ≤ Lp.at_ (t.row i) 15) : Lp.worstS t (i + 1) = Lp.worstS t i := by rw [Lp.worstS, if_pos h]
theorem ws_keep {t : Lp.Tab} {i : Nat} (h : ¬ 0 ≤ Lp.at_ (t.row i) 15) (k : 0 ≤ Lp.worstS t i ∧ Lp.at_ (t.row (Lp.worstS t i).toNat) 15 ≤ Lp.at_ (t.row i) 15) : Lp.worstS t (i + 1) = Lp.worstS t i := by rw [Lp.worstS, if_neg h, if_pos k]
theorem ws_take {t : Lp.Tab} {i : Nat} (h : ¬ 0 ≤ Lp.at_ (t.row i) 15) (k : ¬ (0 ≤ Lp.worstS t i ∧ Lp.at_ (t.row (Lp.worstS t i).toNat) 15 ≤ Lp.at_ (t.row i) 15)) : Lp.worstS t (i + 1) = (i : Int) := by rw [Lp.worstS, if_neg h, if_neg k]
/-- With the goal that takes away what is missing. -/
def gl (t : Lp.Tab) : Lp.Tab := { t with goal := t.goal.set 14 (-1) }
structure RdO (t : Lp.Tab) (r : Nat) : Prop where
  sm : Lp.SmT t
  worst : Lp.worstS t 6 = (r : Int)
  piv : Lp.SmP (gl t) r 14
  ok : Lp.okN (-1) (Lp.pivot (gl t) r 14) 3 = true
  zero : Lp.at_ (Lp.itT (-1) (Lp.pivot (gl t) r 14) 3).goal 15 = 0
  nob : ∀ i, i < 6 → (Lp.itT (-1) (Lp.pivot (gl t) r 14) 3).bas i ≠ 14
abbrev rdy (t : Lp.Tab) (r : Nat) : Lp.Tab := Lp.itT (-1) (Lp.pivot (gl t) r 14) 3
theorem TB.gl {w0 W : World} {ad : Nat → Nat} {cr cb : Nat} {t : Lp.Tab} (h : TB w0 ad cr cb W (tX t) t.bas) : TB w0 ad cr cb (W.setCell ⟨ad 6, 14, none⟩ (.string ⟨#[45, 49]⟩)) (tX (gl t)) (gl t).bas := by
  rw [rt_neg]
  refine (h.set (show 6 < 7 by omega) 14 (-1)).congr (fun i hi => ?_) (fun _ _ => rfl)
  by_cases e : i = 6
  · subst e
    rw [if_pos rfl, tX_goal, tX_goal]; rfl
  · rw [if_neg e, tX_row _ (by omega), tX_row _ (by omega)]; rfl
set_option maxRecDepth 100000 in
set_option linter.unusedSimpArgs false in
set_option maxHeartbeats 4000000 in
theorem ready_c {w0 W : World} (hg : Good w0) {ad : Nat → Nat} {cr cb : Nat} {t : Lp.Tab} {r : Nat} (ho : RdO t r) (h : TB w0 ad cr cb W (tX t) t.bas) :
    Calls Tryz.prog 71 #[.pointer (some ⟨ad 10, 0, none⟩)] W (TtP w0 ad cr cb W (rdy t r) (.bool true)) := by
  have HT := Lib.hid (fun W' (k : Below W.heap.size W W') => h.later k)
  have HO := Lib.hid ho
  have HWD := Lib.hid (fun W' (k : Below W.heap.size W W') => pwidth_c (h.later k))
  have HCP := Lib.hid (fun i (hi : i < 6) W' (k : Below W.heap.size W W') => (by
    have q2 := (h.later k).cell (show i < 7 by omega) (show 15 < 16 by omega)
    rw [tX_row t hi] at q2
    exact q2 : W'.cell? ⟨ad i, 15, none⟩ = some ((Value.string ⟨(rtoa (Lp.at_ (t.row i) 15)).toArray⟩))))
  have HSG := Lib.hid (fun i (hi : i < 6) W' (k : Below W.heap.size W W') => psign_c (sm_sz (Lp.smL_at (ho.sm.row i hi) (show 15 < 16 by omega))) (by omega) (ad 9) W' ((h.later k).good hg) (h.later k).sum)
  have HCM := Lib.hid (fun i (hi : i < 6) j (hj : j < 6) W' (k : Below W.heap.size W W') => lcmp_c (sm_sz (Lp.smL_at (ho.sm.row i hi) (show 15 < 16 by omega))) (sm_sz (Lp.smL_at (ho.sm.row j hj) (show 15 < 16 by omega))) (by omega) W' ((h.later k).good hg))
  have HSP := Lib.hid (fun i => sgnQ_spec (Lp.at_ (t.row i) 15))
  have HBD := Lib.hid (fun i => ws_bd t i)
  obtain ⟨-, -, -, t3, -⟩ := h.tcell
  clear h ho
  go_enter Tryz.func71, Tryz.ntmps71
  go_wp2_with fail
  ((with_reducible refine (HWD.out _ (Below.refl _ _)).mono ?_); rintro en w' ⟨rfl, rfl⟩)
  go_wp2_with fail
  clear t3
  go_loopw [4, 19] (fun sb si wr => ∃ i : Nat, si = .int .i64 (i : Int) ∧ i ≤ 6 ∧ sb = .int .i64 (Lp.worstS t i) ∧ Hid (Below W.heap.size W wr)) (fun _ si _ => 6 - (intOf si).toNat)
  case atStart => exact ⟨0, rfl, Nat.zero_le _, rfl, (Below.refl _ _).drew⟩
  case round =>
    obtain ⟨i, rfl, hi, rfl, hB0⟩ := hrel
    by_cases hlt : i < 6
    · have r1 := (HT.out _ hB0.out).rcell hlt
      have i4 : (0 : Int) ≤ (i : Int) := by omega
      have i5 : (i : Int) < 6 := by omega
      have HC1 := Lib.hid (HCP.out i hlt)
      have HS1 := Lib.hid (HSG.out i hlt)
      have HALL := Lib.hid (fun (W' : World) (hb : Below wr.heap.size wr W') => by
        obtain ⟨t0, -⟩ := (HT.out _ (hB0.out.nxt hb)).tcell
        exact (⟨t0, HC1.out _ (hB0.out.nxt hb)⟩ : W'.cell? ⟨ad 10, 0, none⟩ = some (.pointer (some ⟨ad 9, 0, none⟩)) ∧ W'.cell? ⟨ad i, 15, none⟩ = some ((Value.string ⟨(rtoa (Lp.at_ (t.row i) 15)).toArray⟩))))
      have hB := Below.refl wr.heap.size wr
      have hsp := HSP.out i
      by_cases hp : 0 ≤ Lp.at_ (t.row i) 15
      · have HE := Lib.hid (ws_skip hp)
        have y1 : decide (0 ≤ sgnQ (Lp.at_ (t.row i) 15)) = true := decide_eq_true (by rcases hsp with ⟨e, -⟩ | ⟨-, e⟩ | ⟨-, e⟩ <;> first | (rw [e]; omega) | exact absurd hp (by grind))
        clear HCP HSG HCM HBD HSP HC1 hsp hp HO
        generalize sgnQ (Lp.at_ (t.row i) 15) = sg at *
        generalize rtoa (Lp.at_ (t.row i) 15) = tv at *
        go_wp2_with fail
        refine Go.Front.wp_region_front (S := fun V => V.cell? ⟨ad 10, 0, none⟩ = some (.pointer (some ⟨ad 9, 0, none⟩)) ∧ V.cell? ⟨ad i, 15, none⟩ = some (.string ⟨tv.toArray⟩)) 10 (by kernel_rfl) (by simp) (by kernel_rfl) (by kernel_rfl) (by kernel_rfl) (by kernel_rfl) ?_ (fun hHeld => ?_)
        · (first | with_reducible exact HALL.out _ B3 | with_reducible exact HALL.out _ B2 | with_reducible exact HALL.out _ hB.drew)
        simp only [List.take_succ_cons, List.take_zero, List.drop_succ_cons, List.drop_zero]
        refine wpAnyH_take (i := 0) (v := ?_) rfl (by kernel_rfl) (by kernel_rfl) (by kernel_rfl) (fun _ _ _ h => h) (Or.inl ⟨by rfl, ?_⟩) hHeld ?_
        rotate_left
        · intro W hSw; (try dsimp only at hSw); go_simp <;> with_reducible rfl
        (try simp only [Act.put, List.setIfInBounds_toArray, List.set_cons_zero, List.set_cons_succ])
        refine wpAnyH_take (i := 1) (v := ?_) rfl (by kernel_rfl) (by kernel_rfl) (by kernel_rfl) (fun _ _ _ h => h) (Or.inl ⟨by rfl, ?_⟩) hHeld ?_
        rotate_left
        · intro W hSw; (try dsimp only at hSw); go_simp <;> with_reducible rfl
        (try simp only [Act.put, List.setIfInBounds_toArray, List.set_cons_zero, List.set_cons_succ])
        refine wpAnyH_take (i := 2) (v := ?_) rfl (by kernel_rfl) (by kernel_rfl) (by kernel_rfl) (fun _ _ _ h => h) (Or.inl ⟨by rfl, ?_⟩) hHeld ?_
        rotate_left
        · intro W hSw; (try dsimp only at hSw); go_simp <;> with_reducible rfl
        (try simp only [Act.put, List.setIfInBounds_toArray, List.set_cons_zero, List.set_cons_succ])
        refine wpAnyH_take (i := 3) (v := ?_) rfl (by kernel_rfl) (by kernel_rfl) (by kernel_rfl) (fun _ _ _ h => h) (Or.inl ⟨by rfl, ?_⟩) hHeld ?_
        rotate_left
        · intro W hSw; (try dsimp only at hSw); go_simp <;> with_reducible rfl
        (try simp only [Act.put, List.setIfInBounds_toArray, List.set_cons_zero, List.set_cons_succ])
        refine wpAnyH_take (i := 4) (v := ?_) rfl (by kernel_rfl) (by kernel_rfl) (by kernel_rfl) (fun _ _ _ h => h) (Or.inl ⟨by rfl, ?_⟩) hHeld ?_
        rotate_left
        · intro W hSw; (try dsimp only at hSw); go_simp <;> with_reducible rfl
        (try simp only [Act.put, List.setIfInBounds_toArray, List.set_cons_zero, List.set_cons_succ])
        refine wpAnyH_take (i := 5) (v := ?_) rfl (by kernel_rfl) (by kernel_rfl) (by kernel_rfl) (fun _ _ _ h => h) (Or.inl ⟨by rfl, ?_⟩) hHeld ?_
        rotate_left
        · intro W hSw; (try dsimp only at hSw); go_simp <;> with_reducible rfl
        (try simp only [Act.put, List.setIfInBounds_toArray, List.set_cons_zero, List.set_cons_succ])
        refine wpAnyH_ready (rs := [6]) (by kernel_rfl) (by simp) ?_
        refine AllReadyH.cons rfl (fun K hK => ?_) AllReadyH.nil
        go_simp
        ((with_reducible refine (HWD.out _ (hB0.out.nxt hB.drew)).mono ?_); rintro en w2 ⟨rfl, rfl⟩; have B2 := hB.drew.drew; go_simp)
        refine hK.out _ _ ?_ (fun hHeld => ?_)
        · ((try dsimp only); first | with_reducible exact HALL.out _ B3 | with_reducible exact HALL.out _ B2 | with_reducible exact HALL.out _ hB.drew)
        clear hK K
        (try simp only [Act.put, List.setIfInBounds_toArray, List.set_cons_zero, List.set_cons_succ])
        refine wpAnyH_take (i := 7) (v := ?_) rfl (by kernel_rfl) (by kernel_rfl) (by kernel_rfl) (fun _ _ _ h => h) (Or.inl ⟨by rfl, ?_⟩) hHeld ?_
        rotate_left
        · intro W hSw; (try dsimp only at hSw); go_simp <;> with_reducible rfl
        (try simp only [Act.put, List.setIfInBounds_toArray, List.set_cons_zero, List.set_cons_succ])
        refine wpAnyH_take (i := 8) (v := ?_) rfl (by kernel_rfl) (by kernel_rfl) (by kernel_rfl) (fun _ _ _ h => h) (Or.inl ⟨by rfl, ?_⟩) hHeld ?_
        rotate_left
        · intro W hSw; (try dsimp only at hSw); go_simp <;> with_reducible rfl
        (try simp only [Act.put, List.setIfInBounds_toArray, List.set_cons_zero, List.set_cons_succ])
        refine wpAnyH_ready (rs := [9]) (by kernel_rfl) (by simp) ?_
        refine AllReadyH.cons rfl (fun K hK => ?_) AllReadyH.nil
        go_simp
        ((with_reducible refine (HS1.out _ (hB0.out.nxt B2)).mono ?_); rintro en w3 ⟨rfl, hb3⟩; have B3 := B2.nxt hb3)
        refine hK.out _ _ ?_ (fun hHeld => ?_)
        · ((try dsimp only); first | with_reducible exact HALL.out _ B3 | with_reducible exact HALL.out _ B2 | with_reducible exact HALL.out _ hB.drew)
        clear hK K
        (try simp only [Act.put, List.setIfInBounds_toArray, List.set_cons_zero, List.set_cons_succ])
        refine wpAnyH_done (by kernel_rfl) ?_ _
        show wpList _ _ _ _ _ _
        have HB8 := Lib.hid (hB0.out.nxt B3)
        clear HALL hHeld B2 B3 hb3 hB HS1 r1 hB0
        go_wp2
        go_roundw
        case rel => exact ⟨i + 1, by go_num, by omega, by rw [HE.out], HB8.out⟩
        case measure => simp [intOf]; omega
      · have y1 : decide (0 ≤ sgnQ (Lp.at_ (t.row i) 15)) = false := decide_eq_false (by rcases hsp with ⟨-, e⟩ | ⟨e, -⟩ | ⟨e, -⟩ <;> first | (rw [e]; omega) | exact absurd (show 0 ≤ Lp.at_ (t.row i) 15 by grind) hp)
        have HKP := Lib.hid (ws_keep (t := t) (i := i) hp)
        have HTK := Lib.hid (ws_take (t := t) (i := i) hp)
        have HCP1 := Lib.hid HCP.out
        have HCM1 := Lib.hid (HCM.out i hlt)
        have hbd := HBD.out i
        obtain ⟨be, hbe⟩ : ∃ z, Lp.worstS t i = z := ⟨_, rfl⟩
        rw [hbe] at HKP HTK hbd
        rw [hbe]
        clear HCP HSG HCM HBD HSP HC1 hsp hp HO hbe
        rcases hbd with rfl | ⟨j, hj, rfl⟩
        · have HE := Lib.hid (HTK.out (by omega))
          clear HKP HTK HCM1 HCP1
          generalize sgnQ (Lp.at_ (t.row i) 15) = sg at *
          generalize rtoa (Lp.at_ (t.row i) 15) = tv at *
          go_wp2_with fail
          refine Go.Front.wp_region_front (S := fun V => V.cell? ⟨ad 10, 0, none⟩ = some (.pointer (some ⟨ad 9, 0, none⟩)) ∧ V.cell? ⟨ad i, 15, none⟩ = some (.string ⟨tv.toArray⟩)) 10 (by kernel_rfl) (by simp) (by kernel_rfl) (by kernel_rfl) (by kernel_rfl) (by kernel_rfl) ?_ (fun hHeld => ?_)
          · (first | with_reducible exact HALL.out _ B3 | with_reducible exact HALL.out _ B2 | with_reducible exact HALL.out _ hB.drew)
          simp only [List.take_succ_cons, List.take_zero, List.drop_succ_cons, List.drop_zero]
          refine wpAnyH_take (i := 0) (v := ?_) rfl (by kernel_rfl) (by kernel_rfl) (by kernel_rfl) (fun _ _ _ h => h) (Or.inl ⟨by rfl, ?_⟩) hHeld ?_
          rotate_left
          · intro W hSw; (try dsimp only at hSw); go_simp <;> with_reducible rfl
          (try simp only [Act.put, List.setIfInBounds_toArray, List.set_cons_zero, List.set_cons_succ])
          refine wpAnyH_take (i := 1) (v := ?_) rfl (by kernel_rfl) (by kernel_rfl) (by kernel_rfl) (fun _ _ _ h => h) (Or.inl ⟨by rfl, ?_⟩) hHeld ?_
          rotate_left
          · intro W hSw; (try dsimp only at hSw); go_simp <;> with_reducible rfl
          (try simp only [Act.put, List.setIfInBounds_toArray, List.set_cons_zero, List.set_cons_succ])
          refine wpAnyH_take (i := 2) (v := ?_) rfl (by kernel_rfl) (by kernel_rfl) (by kernel_rfl) (fun _ _ _ h => h) (Or.inl ⟨by rfl, ?_⟩) hHeld ?_
          rotate_left
          · intro W hSw; (try dsimp only at hSw); go_simp <;> with_reducible rfl
          (try simp only [Act.put, List.setIfInBounds_toArray, List.set_cons_zero, List.set_cons_succ])
          refine wpAnyH_take (i := 3) (v := ?_) rfl (by kernel_rfl) (by kernel_rfl) (by kernel_rfl) (fun _ _ _ h => h) (Or.inl ⟨by rfl, ?_⟩) hHeld ?_
          rotate_left
          · intro W hSw; (try dsimp only at hSw); go_simp <;> with_reducible rfl
          (try simp only [Act.put, List.setIfInBounds_toArray, List.set_cons_zero, List.set_cons_succ])
          refine wpAnyH_take (i := 4) (v := ?_) rfl (by kernel_rfl) (by kernel_rfl) (by kernel_rfl) (fun _ _ _ h => h) (Or.inl ⟨by rfl, ?_⟩) hHeld ?_
          rotate_left
          · intro W hSw; (try dsimp only at hSw); go_simp <;> with_reducible rfl
          (try simp only [Act.put, List.setIfInBounds_toArray, List.set_cons_zero, List.set_cons_succ])
          refine wpAnyH_take (i := 5) (v := ?_) rfl (by kernel_rfl) (by kernel_rfl) (by kernel_rfl) (fun _ _ _ h => h) (Or.inl ⟨by rfl, ?_⟩) hHeld ?_
          rotate_left
          · intro W hSw; (try dsimp only at hSw); go_simp <;> with_reducible rfl
          (try simp only [Act.put, List.setIfInBounds_toArray, List.set_cons_zero, List.set_cons_succ])
          refine wpAnyH_ready (rs := [6]) (by kernel_rfl) (by simp) ?_
          refine AllReadyH.cons rfl (fun K hK => ?_) AllReadyH.nil
          go_simp
          ((with_reducible refine (HWD.out _ (hB0.out.nxt hB.drew)).mono ?_); rintro en w2 ⟨rfl, rfl⟩; have B2 := hB.drew.drew; go_simp)
          refine hK.out _ _ ?_ (fun hHeld => ?_)
          · ((try dsimp only); first | with_reducible exact HALL.out _ B3 | with_reducible exact HALL.out _ B2 | with_reducible exact HALL.out _ hB.drew)
          clear hK K
          (try simp only [Act.put, List.setIfInBounds_toArray, List.set_cons_zero, List.set_cons_succ])
          refine wpAnyH_take (i := 7) (v := ?_) rfl (by kernel_rfl) (by kernel_rfl) (by kernel_rfl) (fun _ _ _ h => h) (Or.inl ⟨by rfl, ?_⟩) hHeld ?_
          rotate_left
          · intro W hSw; (try dsimp only at hSw); go_simp <;> with_reducible rfl
          (try simp only [Act.put, List.setIfInBounds_toArray, List.set_cons_zero, List.set_cons_succ])
          refine wpAnyH_take (i := 8) (v := ?_) rfl (by kernel_rfl) (by kernel_rfl) (by kernel_rfl) (fun _ _ _ h => h) (Or.inl ⟨by rfl, ?_⟩) hHeld ?_
          rotate_left
          · intro W hSw; (try dsimp only at hSw); go_simp <;> with_reducible rfl
          (try simp only [Act.put, List.setIfInBounds_toArray, List.set_cons_zero, List.set_cons_succ])
          refine wpAnyH_ready (rs := [9]) (by kernel_rfl) (by simp) ?_
          refine AllReadyH.cons rfl (fun K hK => ?_) AllReadyH.nil
          go_simp
          ((with_reducible refine (HS1.out _ (hB0.out.nxt B2)).mono ?_); rintro en w3 ⟨rfl, hb3⟩; have B3 := B2.nxt hb3)
          refine hK.out _ _ ?_ (fun hHeld => ?_)
          · ((try dsimp only); first | with_reducible exact HALL.out _ B3 | with_reducible exact HALL.out _ B2 | with_reducible exact HALL.out _ hB.drew)
          clear hK K
          (try simp only [Act.put, List.setIfInBounds_toArray, List.set_cons_zero, List.set_cons_succ])
          refine wpAnyH_done (by kernel_rfl) ?_ _
          show wpList _ _ _ _ _ _
          have HB8 := Lib.hid (hB0.out.nxt B3)
          clear HALL hHeld B2 B3 hb3 hB HS1 r1 hB0
          go_wp2
          go_roundw
          case rel => exact ⟨i + 1, by go_num, by omega, by rw [HE.out], HB8.out⟩
          case measure => simp [intOf]; omega
        · have HC3 := Lib.hid (cmp3 (Lp.at_ (t.row i) 15) (Lp.at_ (t.row j) 15))
          have y2 : decide ((0 : Int) ≤ (j : Int)) = true := decide_eq_true (by omega)
          have i6 : (0 : Int) ≤ (j : Int) := by omega
          have i7 : (j : Int) < 6 := by omega
          have HCM2 := Lib.hid (HCM1.out j (by omega))
          have HAL8 := Lib.hid (fun (W' : World) (hb : Below wr.heap.size wr W') => by
            have T := HT.out _ (hB0.out.nxt hb)
            obtain ⟨-, -, -, t3, -⟩ := T.tcell
            exact (⟨t3, HCP1.out i hlt _ (hB0.out.nxt hb), T.rcell (show j < 6 by omega), HCP1.out j (by omega) _ (hB0.out.nxt hb)⟩ : W'.cell? ⟨ad 10, 3, none⟩ = some (.slice (some ⟨ad 8, 0, none⟩) 6 cr) ∧ W'.cell? ⟨ad i, 15, none⟩ = some ((Value.string ⟨(rtoa (Lp.at_ (t.row i) 15)).toArray⟩)) ∧ W'.cell? ⟨ad 8, j, none⟩ = some (.slice (some ⟨ad j, 0, none⟩) 16 16) ∧ W'.cell? ⟨ad j, 15, none⟩ = some ((Value.string ⟨(rtoa (Lp.at_ (t.row j) 15)).toArray⟩))))
          have HKP1 := Lib.hid (fun (h : Lp.at_ (t.row j) 15 ≤ Lp.at_ (t.row i) 15) => HKP.out ⟨by omega, by simpa using h⟩)
          have HTK1 := Lib.hid (fun (h : ¬ Lp.at_ (t.row j) 15 ≤ Lp.at_ (t.row i) 15) => HTK.out (fun k => h (by simpa using k.2)))
          clear HKP HTK HCM1 HCP1
          obtain ⟨n, hn, hE⟩ : ∃ n, cmpQ (Lp.at_ (t.row i) 15) (Lp.at_ (t.row j) 15) = n ∧ ((0 ≤ n ∧ Lp.worstS t (i + 1) = (j : Int)) ∨ (n < 0 ∧ Lp.worstS t (i + 1) = (i : Int))) := by
            rcases HC3.out with ⟨a, e⟩ | ⟨a, e⟩ | ⟨a, e⟩
            · exact ⟨_, e, .inr ⟨by omega, HTK1.out (by grind)⟩⟩
            · exact ⟨_, e, .inl ⟨by omega, HKP1.out (by grind)⟩⟩
            · exact ⟨_, e, .inl ⟨by omega, HKP1.out (by grind)⟩⟩
          rw [hn] at HCM2
          clear HC3 HKP1 HTK1 hn
          generalize sgnQ (Lp.at_ (t.row i) 15) = sg at *
          generalize rtoa (Lp.at_ (t.row i) 15) = tv at *
          generalize rtoa (Lp.at_ (t.row j) 15) = tj at *
          go_wp2_with fail
          refine Go.Front.wp_region_front (S := fun V => V.cell? ⟨ad 10, 0, none⟩ = some (.pointer (some ⟨ad 9, 0, none⟩)) ∧ V.cell? ⟨ad i, 15, none⟩ = some (.string ⟨tv.toArray⟩)) 10 (by kernel_rfl) (by simp) (by kernel_rfl) (by kernel_rfl) (by kernel_rfl) (by kernel_rfl) ?_ (fun hHeld => ?_)
          · (first | with_reducible exact HALL.out _ B3 | with_reducible exact HALL.out _ B2 | with_reducible exact HALL.out _ hB.drew)
          simp only [List.take_succ_cons, List.take_zero, List.drop_succ_cons, List.drop_zero]
          refine wpAnyH_take (i := 0) (v := ?_) rfl (by kernel_rfl) (by kernel_rfl) (by kernel_rfl) (fun _ _ _ h => h) (Or.inl ⟨by rfl, ?_⟩) hHeld ?_
          rotate_left
          · intro W hSw; (try dsimp only at hSw); go_simp <;> with_reducible rfl
          (try simp only [Act.put, List.setIfInBounds_toArray, List.set_cons_zero, List.set_cons_succ])
          refine wpAnyH_take (i := 1) (v := ?_) rfl (by kernel_rfl) (by kernel_rfl) (by kernel_rfl) (fun _ _ _ h => h) (Or.inl ⟨by rfl, ?_⟩) hHeld ?_
          rotate_left
          · intro W hSw; (try dsimp only at hSw); go_simp <;> with_reducible rfl
          (try simp only [Act.put, List.setIfInBounds_toArray, List.set_cons_zero, List.set_cons_succ])
          refine wpAnyH_take (i := 2) (v := ?_) rfl (by kernel_rfl) (by kernel_rfl) (by kernel_rfl) (fun _ _ _ h => h) (Or.inl ⟨by rfl, ?_⟩) hHeld ?_
          rotate_left
          · intro W hSw; (try dsimp only at hSw); go_simp <;> with_reducible rfl
          (try simp only [Act.put, List.setIfInBounds_toArray, List.set_cons_zero, List.set_cons_succ])
          refine wpAnyH_take (i := 3) (v := ?_) rfl (by kernel_rfl) (by kernel_rfl) (by kernel_rfl) (fun _ _ _ h => h) (Or.inl ⟨by rfl, ?_⟩) hHeld ?_
          rotate_left
          · intro W hSw; (try dsimp only at hSw); go_simp <;> with_reducible rfl
          (try simp only [Act.put, List.setIfInBounds_toArray, List.set_cons_zero, List.set_cons_succ])
          refine wpAnyH_take (i := 4) (v := ?_) rfl (by kernel_rfl) (by kernel_rfl) (by kernel_rfl) (fun _ _ _ h => h) (Or.inl ⟨by rfl, ?_⟩) hHeld ?_
          rotate_left
          · intro W hSw; (try dsimp only at hSw); go_simp <;> with_reducible rfl
          (try simp only [Act.put, List.setIfInBounds_toArray, List.set_cons_zero, List.set_cons_succ])
          refine wpAnyH_take (i := 5) (v := ?_) rfl (by kernel_rfl) (by kernel_rfl) (by kernel_rfl) (fun _ _ _ h => h) (Or.inl ⟨by rfl, ?_⟩) hHeld ?_
          rotate_left
          · intro W hSw; (try dsimp only at hSw); go_simp <;> with_reducible rfl
          (try simp only [Act.put, List.setIfInBounds_toArray, List.set_cons_zero, List.set_cons_succ])
          refine wpAnyH_ready (rs := [6]) (by kernel_rfl) (by simp) ?_
          refine AllReadyH.cons rfl (fun K hK => ?_) AllReadyH.nil
          go_simp
          ((with_reducible refine (HWD.out _ (hB0.out.nxt hB.drew)).mono ?_); rintro en w2 ⟨rfl, rfl⟩; have B2 := hB.drew.drew; go_simp)
          refine hK.out _ _ ?_ (fun hHeld => ?_)
          · ((try dsimp only); first | with_reducible exact HALL.out _ B3 | with_reducible exact HALL.out _ B2 | with_reducible exact HALL.out _ hB.drew)
          clear hK K
          (try simp only [Act.put, List.setIfInBounds_toArray, List.set_cons_zero, List.set_cons_succ])
          refine wpAnyH_take (i := 7) (v := ?_) rfl (by kernel_rfl) (by kernel_rfl) (by kernel_rfl) (fun _ _ _ h => h) (Or.inl ⟨by rfl, ?_⟩) hHeld ?_
          rotate_left
          · intro W hSw; (try dsimp only at hSw); go_simp <;> with_reducible rfl
          (try simp only [Act.put, List.setIfInBounds_toArray, List.set_cons_zero, List.set_cons_succ])
          refine wpAnyH_take (i := 8) (v := ?_) rfl (by kernel_rfl) (by kernel_rfl) (by kernel_rfl) (fun _ _ _ h => h) (Or.inl ⟨by rfl, ?_⟩) hHeld ?_
          rotate_left
          · intro W hSw; (try dsimp only at hSw); go_simp <;> with_reducible rfl
          (try simp only [Act.put, List.setIfInBounds_toArray, List.set_cons_zero, List.set_cons_succ])
          refine wpAnyH_ready (rs := [9]) (by kernel_rfl) (by simp) ?_
          refine AllReadyH.cons rfl (fun K hK => ?_) AllReadyH.nil
          go_simp
          ((with_reducible refine (HS1.out _ (hB0.out.nxt B2)).mono ?_); rintro en w3 ⟨rfl, hb3⟩; have B3 := B2.nxt hb3)
          refine hK.out _ _ ?_ (fun hHeld => ?_)
          · ((try dsimp only); first | with_reducible exact HALL.out _ B3 | with_reducible exact HALL.out _ B2 | with_reducible exact HALL.out _ hB.drew)
          clear hK K
          (try simp only [Act.put, List.setIfInBounds_toArray, List.set_cons_zero, List.set_cons_succ])
          refine wpAnyH_done (by kernel_rfl) ?_ _
          show wpList _ _ _ _ _ _
          clear hHeld hb3 B2 HALL HS1
          go_wp2_with fail
          refine Go.Front.wp_region_front (S := fun V => V.cell? ⟨ad 10, 3, none⟩ = some (.slice (some ⟨ad 8, 0, none⟩) 6 cr) ∧ V.cell? ⟨ad i, 15, none⟩ = some (.string ⟨tv.toArray⟩) ∧ V.cell? ⟨ad 8, j, none⟩ = some (.slice (some ⟨ad j, 0, none⟩) 16 16) ∧ V.cell? ⟨ad j, 15, none⟩ = some (.string ⟨tj.toArray⟩)) 21 (by kernel_rfl) (by simp) (by kernel_rfl) (by kernel_rfl) (by kernel_rfl) (by kernel_rfl) ?_ (fun hHeld => ?_)
          · (first | with_reducible exact HAL8.out _ B6 | with_reducible exact HAL8.out _ B5 | with_reducible exact HAL8.out _ B4 | with_reducible exact HAL8.out _ B3.drew)
          simp only [List.take_succ_cons, List.take_zero, List.drop_succ_cons, List.drop_zero]
          refine wpAnyH_take (i := 0) (v := ?_) rfl (by kernel_rfl) (by kernel_rfl) (by kernel_rfl) (fun _ _ _ h => h) (Or.inl ⟨by rfl, ?_⟩) hHeld ?_
          rotate_left
          · intro W hSw; (try dsimp only at hSw); go_simp <;> with_reducible rfl
          (try simp only [Act.put, List.setIfInBounds_toArray, List.set_cons_zero, List.set_cons_succ])
          refine wpAnyH_take (i := 1) (v := ?_) rfl (by kernel_rfl) (by kernel_rfl) (by kernel_rfl) (fun _ _ _ h => h) (Or.inl ⟨by rfl, ?_⟩) hHeld ?_
          rotate_left
          · intro W hSw; (try dsimp only at hSw); go_simp <;> with_reducible rfl
          (try simp only [Act.put, List.setIfInBounds_toArray, List.set_cons_zero, List.set_cons_succ])
          refine wpAnyH_take (i := 5) (v := ?_) rfl (by kernel_rfl) (by kernel_rfl) (by kernel_rfl) (fun _ _ _ h => h) (Or.inl ⟨by rfl, ?_⟩) hHeld ?_
          rotate_left
          · intro W hSw; (try dsimp only at hSw); go_simp <;> with_reducible rfl
          (try simp only [Act.put, List.setIfInBounds_toArray, List.set_cons_zero, List.set_cons_succ])
          refine wpAnyH_take (i := 6) (v := ?_) rfl (by kernel_rfl) (by kernel_rfl) (by kernel_rfl) (fun _ _ _ h => h) (Or.inl ⟨by rfl, ?_⟩) hHeld ?_
          rotate_left
          · intro W hSw; (try dsimp only at hSw); go_simp <;> with_reducible rfl
          (try simp only [Act.put, List.setIfInBounds_toArray, List.set_cons_zero, List.set_cons_succ])
          refine wpAnyH_take (i := 7) (v := ?_) rfl (by kernel_rfl) (by kernel_rfl) (by kernel_rfl) (fun _ _ _ h => h) (Or.inl ⟨by rfl, ?_⟩) hHeld ?_
          rotate_left
          · intro W hSw; (try dsimp only at hSw); go_simp <;> with_reducible rfl
          (try simp only [Act.put, List.setIfInBounds_toArray, List.set_cons_zero, List.set_cons_succ])
          refine wpAnyH_take (i := 8) (v := ?_) rfl (by kernel_rfl) (by kernel_rfl) (by kernel_rfl) (fun _ _ _ h => h) (Or.inl ⟨by rfl, ?_⟩) hHeld ?_
          rotate_left
          · intro W hSw; (try dsimp only at hSw); go_simp <;> with_reducible rfl
          (try simp only [Act.put, List.setIfInBounds_toArray, List.set_cons_zero, List.set_cons_succ])
          refine wpAnyH_take (i := 9) (v := ?_) rfl (by kernel_rfl) (by kernel_rfl) (by kernel_rfl) (fun _ _ _ h => h) (Or.inl ⟨by rfl, ?_⟩) hHeld ?_
          rotate_left
          · intro W hSw; (try dsimp only at hSw); go_simp <;> with_reducible rfl
          (try simp only [Act.put, List.setIfInBounds_toArray, List.set_cons_zero, List.set_cons_succ])
          refine wpAnyH_take (i := 10) (v := ?_) rfl (by kernel_rfl) (by kernel_rfl) (by kernel_rfl) (fun _ _ _ h => h) (Or.inl ⟨by rfl, ?_⟩) hHeld ?_
          rotate_left
          · intro W hSw; (try dsimp only at hSw); go_simp <;> with_reducible rfl
          (try simp only [Act.put, List.setIfInBounds_toArray, List.set_cons_zero, List.set_cons_succ])
          refine wpAnyH_take (i := 11) (v := ?_) rfl (by kernel_rfl) (by kernel_rfl) (by kernel_rfl) (fun _ _ _ h => h) (Or.inl ⟨by rfl, ?_⟩) hHeld ?_
          rotate_left
          · intro W hSw; (try dsimp only at hSw); go_simp <;> with_reducible rfl
          (try simp only [Act.put, List.setIfInBounds_toArray, List.set_cons_zero, List.set_cons_succ])
          refine wpAnyH_take (i := 12) (v := ?_) rfl (by kernel_rfl) (by kernel_rfl) (by kernel_rfl) (fun _ _ _ h => h) (Or.inl ⟨by rfl, ?_⟩) hHeld ?_
          rotate_left
          · intro W hSw; (try dsimp only at hSw); go_simp <;> with_reducible rfl
          (try simp only [Act.put, List.setIfInBounds_toArray, List.set_cons_zero, List.set_cons_succ])
          refine wpAnyH_ready (rs := [2]) (by kernel_rfl) (by simp) ?_
          refine AllReadyH.cons rfl (fun K hK => ?_) AllReadyH.nil
          go_simp
          ((with_reducible refine (HWD.out _ (hB0.out.nxt B3.drew)).mono ?_); rintro en w4 ⟨rfl, rfl⟩; have B4 := B3.drew.drew; go_simp)
          refine hK.out _ _ ?_ (fun hHeld => ?_)
          · ((try dsimp only); first | with_reducible exact HAL8.out _ B6 | with_reducible exact HAL8.out _ B5 | with_reducible exact HAL8.out _ B4 | with_reducible exact HAL8.out _ B3.drew)
          clear hK K
          (try simp only [Act.put, List.setIfInBounds_toArray, List.set_cons_zero, List.set_cons_succ])
          refine wpAnyH_take (i := 3) (v := ?_) rfl (by kernel_rfl) (by kernel_rfl) (by kernel_rfl) (fun _ _ _ h => h) (Or.inl ⟨by rfl, ?_⟩) hHeld ?_
          rotate_left
          · intro W hSw; (try dsimp only at hSw); go_simp <;> with_reducible rfl
          (try simp only [Act.put, List.setIfInBounds_toArray, List.set_cons_zero, List.set_cons_succ])
          refine wpAnyH_take (i := 4) (v := ?_) rfl (by kernel_rfl) (by kernel_rfl) (by kernel_rfl) (fun _ _ _ h => h) (Or.inl ⟨by rfl, ?_⟩) hHeld ?_
          rotate_left
          · intro W hSw; (try dsimp only at hSw); go_simp <;> with_reducible rfl
          (try simp only [Act.put, List.setIfInBounds_toArray, List.set_cons_zero, List.set_cons_succ])
          refine wpAnyH_ready (rs := [13]) (by kernel_rfl) (by simp) ?_
          refine AllReadyH.cons rfl (fun K hK => ?_) AllReadyH.nil
          go_simp
          ((with_reducible refine (HWD.out _ (hB0.out.nxt B4)).mono ?_); rintro en w5 ⟨rfl, rfl⟩; have B5 := B4.drew; go_simp)
          refine hK.out _ _ ?_ (fun hHeld => ?_)
          · ((try dsimp only); first | with_reducible exact HAL8.out _ B6 | with_reducible exact HAL8.out _ B5 | with_reducible exact HAL8.out _ B4 | with_reducible exact HAL8.out _ B3.drew)
          clear hK K
          (try simp only [Act.put, List.setIfInBounds_toArray, List.set_cons_zero, List.set_cons_succ])
          refine wpAnyH_take (i := 14) (v := ?_) rfl (by kernel_rfl) (by kernel_rfl) (by kernel_rfl) (fun _ _ _ h => h) (Or.inl ⟨by rfl, ?_⟩) hHeld ?_
          rotate_left
          · intro W hSw; (try dsimp only at hSw); go_simp <;> with_reducible rfl
          (try simp only [Act.put, List.setIfInBounds_toArray, List.set_cons_zero, List.set_cons_succ])
          refine wpAnyH_take (i := 15) (v := ?_) rfl (by kernel_rfl) (by kernel_rfl) (by kernel_rfl) (fun _ _ _ h => h) (Or.inl ⟨by rfl, ?_⟩) hHeld ?_
          rotate_left
          · intro W hSw; (try dsimp only at hSw); go_simp <;> with_reducible rfl
          (try simp only [Act.put, List.setIfInBounds_toArray, List.set_cons_zero, List.set_cons_succ])
          refine wpAnyH_ready (rs := [16]) (by kernel_rfl) (by simp) ?_
          refine AllReadyH.cons rfl (fun K hK => ?_) AllReadyH.nil
          go_simp
          ((with_reducible refine (HCM2.out _ (hB0.out.nxt B5)).mono ?_); rintro en w6 ⟨rfl, hb6⟩; have B6 := B5.nxt hb6)
          refine hK.out _ _ ?_ (fun hHeld => ?_)
          · ((try dsimp only); first | with_reducible exact HAL8.out _ B6 | with_reducible exact HAL8.out _ B5 | with_reducible exact HAL8.out _ B4 | with_reducible exact HAL8.out _ B3.drew)
          clear hK K
          (try simp only [Act.put, List.setIfInBounds_toArray, List.set_cons_zero, List.set_cons_succ])
          refine wpAnyH_take (i := 17) (v := ?_) rfl (by kernel_rfl) (by kernel_rfl) (by kernel_rfl) (fun _ _ _ h => h) (Or.inl ⟨by rfl, ?_⟩) hHeld ?_
          rotate_left
          · intro W hSw; (try dsimp only at hSw); go_simp <;> with_reducible rfl
          (try simp only [Act.put, List.setIfInBounds_toArray, List.set_cons_zero, List.set_cons_succ])
          refine wpAnyH_take (i := 18) (v := ?_) rfl (by kernel_rfl) (by kernel_rfl) (by kernel_rfl) (fun _ _ _ h => h) (Or.inl ⟨by rfl, ?_⟩) hHeld ?_
          rotate_left
          · intro W hSw; (try dsimp only at hSw); go_simp <;> with_reducible rfl
          (try simp only [Act.put, List.setIfInBounds_toArray, List.set_cons_zero, List.set_cons_succ])
          refine wpAnyH_take (i := 19) (v := ?_) rfl (by kernel_rfl) (by kernel_rfl) (by kernel_rfl) (fun _ _ _ h => h) (Or.inl ⟨by rfl, ?_⟩) hHeld ?_
          rotate_left
          · intro W hSw; (try dsimp only at hSw); go_simp <;> with_reducible rfl
          (try simp only [Act.put, List.setIfInBounds_toArray, List.set_cons_zero, List.set_cons_succ])
          refine wpAnyH_take (i := 20) (v := ?_) rfl (by kernel_rfl) (by kernel_rfl) (by kernel_rfl) (fun _ _ _ h => h) (Or.inl ⟨by rfl, ?_⟩) hHeld ?_
          rotate_left
          · intro W hSw; (try dsimp only at hSw); go_simp <;> with_reducible rfl
          (try simp only [Act.put, List.setIfInBounds_toArray, List.set_cons_zero, List.set_cons_succ])
          refine wpAnyH_done (by kernel_rfl) ?_ _
          show wpList _ _ _ _ _ _
          have HB8 := Lib.hid (hB0.out.nxt B6)
          clear HAL8 hHeld B3 B4 B5 B6 hb6 hB HCM2 HWD r1 hB0
          rcases hE with ⟨hn, hE⟩ | ⟨hn, hE⟩
          · have y3 : decide (0 ≤ n) = true := decide_eq_true hn
            have HE := Lib.hid hE
            clear hE hn
            go_wp2
            go_roundw
            case rel => exact ⟨i + 1, by go_num, by omega, by rw [HE.out], HB8.out⟩
            case measure => simp [intOf]; omega
          · have y3 : decide (0 ≤ n) = false := decide_eq_false (by omega)
            have HE := Lib.hid hE
            clear hE hn
            go_wp2
            go_roundw
            case rel => exact ⟨i + 1, by go_num, by omega, by rw [HE.out], HB8.out⟩
            case measure => simp [intOf]; omega
    · obtain rfl : i = 6 := by omega
      rw [show ((6 : Nat) : Int) = 6 from rfl, HO.out.worst]
      have T6 := HT.out _ hB0.out
      obtain ⟨-, -, -, -, -, t5⟩ := T6.tcell
      have f6 := T6.free (show 6 < 7 by omega) 14
      have g6 := T6.cell (show 6 < 7 by omega) (show 14 < 16 by omega)
      have HGL := Lib.hid T6.gl
      have y1 : decide ((r : Int) < 0) = false := decide_eq_false (by omega)
      clear T6 HCP HSG HCM HSP HBD HWD
      go_upto_region 15 with fail
      generalize hX : wr.setCell ⟨ad 6, 14, none⟩ (.string ⟨#[45, 49]⟩) = wx at *
      have HKX := Lib.hid (show Kp ad W wx from hX ▸ (Kp.below hB0.out).trans (Kp.set _ (show 6 < 11 by omega) 14 _))
      clear hX t5 f6 g6 HT hB0
      go_wp2_with fail
      have HPV := Lib.hid (show Calls Tryz.prog 107 #[.pointer (some ⟨ad 10, 0, none⟩), .int .i64 (r : Int), .int .i64 14] wx (TtP w0 ad cr cb wx (Lp.pivot (gl t) r 14) (.tuple #[])) from pivT_c (c := 14) hg HO.out.piv HGL.out)
      ((with_reducible refine HPV.out.mono ?_); rintro en w2 ⟨rfl, hT2, hK2⟩)
      have HT2 := Lib.hid hT2
      have HK2 := Lib.hid (HKX.out.trans hK2)
      clear hT2 hK2 HGL HKX HPV
      go_wp2_with fail
      ((with_reducible refine (climb3_c hg HO.out.ok HT2.out).mono ?_); rintro en w3 ⟨rfl, hT3, hK3⟩)
      have HT3 := Lib.hid hT3
      have HK3 := Lib.hid (HK2.out.trans hK3)
      clear hT3 hK3 HT2 HK2
      have HZ := Lib.hid HO.out.zero
      have HALL := Lib.hid (fun (W' : World) (hb : Below w3.heap.size w3 W') => by
        have T := HT3.out.later hb
        obtain ⟨t0, -, -, -, -, t5⟩ := T.tcell
        have g := T.cell (show 6 < 7 by omega) (show 15 < 16 by omega)
        rw [tX_goal, HZ.out, rtoa_zero] at g
        exact (⟨t0, one_cell T.sum, t5, g⟩ : W'.cell? ⟨ad 10, 0, none⟩ = some (.pointer (some ⟨ad 9, 0, none⟩)) ∧ W'.cell? ⟨ad 9, 0, none⟩ = some (.int .i64 0) ∧ W'.cell? ⟨ad 10, 5, none⟩ = some (.slice (some ⟨ad 6, 0, none⟩) 16 16) ∧ W'.cell? ⟨ad 6, 15, none⟩ = some (.string ⟨#[48]⟩)))
      have HIX := Lib.hid (fun (W' : World) (hb : Below w3.heap.size w3 W') => (show Calls Tryz.prog 108 #[.slice (some ⟨ad 7, 0, none⟩) 6 cb, .int .i64 14] W' (Ret W' (.int .i64 (-1))) from index_c (x := 14) (HT3.out.later hb) HO.out.nob))
      have HWD := Lib.hid (fun (W' : World) (hb : Below w3.heap.size w3 W') => pwidth_c (HT3.out.later hb))
      have hB := Below.refl w3.heap.size w3
      clear HZ HO
      go_wp2_with fail
      refine Go.Front.wp_region_front (S := fun V => V.cell? ⟨ad 10, 0, none⟩ = some (.pointer (some ⟨ad 9, 0, none⟩)) ∧ V.cell? ⟨ad 9, 0, none⟩ = some (.int .i64 0) ∧ V.cell? ⟨ad 10, 5, none⟩ = some (.slice (some ⟨ad 6, 0, none⟩) 16 16) ∧ V.cell? ⟨ad 6, 15, none⟩ = some (.string ⟨#[48]⟩)) 18 (by kernel_rfl) (by simp) (by kernel_rfl) (by kernel_rfl) (by kernel_rfl) (by kernel_rfl) ?_ (fun hHeld => ?_)
      · (first | with_reducible exact HALL.out _ B2 | with_reducible exact HALL.out _ hB.drew)
      simp only [List.take_succ_cons, List.take_zero, List.drop_succ_cons, List.drop_zero]
      refine wpAnyH_take (i := 0) (v := ?_) rfl (by kernel_rfl) (by kernel_rfl) (by kernel_rfl) (fun _ _ _ h => h) (Or.inl ⟨by rfl, ?_⟩) hHeld ?_
      rotate_left
      · intro W hSw; (try dsimp only at hSw); go_simp <;> with_reducible rfl
      (try simp only [Act.put, List.setIfInBounds_toArray, List.set_cons_zero, List.set_cons_succ])
      refine wpAnyH_take (i := 1) (v := ?_) rfl (by kernel_rfl) (by kernel_rfl) (by kernel_rfl) (fun _ _ _ h => h) (Or.inl ⟨by rfl, ?_⟩) hHeld ?_
      rotate_left
      · intro W hSw; (try dsimp only at hSw); go_simp <;> with_reducible rfl
      (try simp only [Act.put, List.setIfInBounds_toArray, List.set_cons_zero, List.set_cons_succ])
      refine wpAnyH_take (i := 2) (v := ?_) rfl (by kernel_rfl) (by kernel_rfl) (by kernel_rfl) (fun _ _ _ h => h) (Or.inl ⟨by rfl, ?_⟩) hHeld ?_
      rotate_left
      · intro W hSw; (try dsimp only at hSw); go_simp <;> with_reducible rfl
      (try simp only [Act.put, List.setIfInBounds_toArray, List.set_cons_zero, List.set_cons_succ])
      refine wpAnyH_take (i := 3) (v := ?_) rfl (by kernel_rfl) (by kernel_rfl) (by kernel_rfl) (fun _ _ _ h => h) (Or.inl ⟨by rfl, ?_⟩) hHeld ?_
      rotate_left
      · intro W hSw; (try dsimp only at hSw); go_simp <;> with_reducible rfl
      (try simp only [Act.put, List.setIfInBounds_toArray, List.set_cons_zero, List.set_cons_succ])
      refine wpAnyH_take (i := 4) (v := ?_) rfl (by kernel_rfl) (by kernel_rfl) (by kernel_rfl) (fun _ _ _ h => h) (Or.inl ⟨by rfl, ?_⟩) hHeld ?_
      rotate_left
      · intro W hSw; (try dsimp only at hSw); go_simp <;> with_reducible rfl
      (try simp only [Act.put, List.setIfInBounds_toArray, List.set_cons_zero, List.set_cons_succ])
      refine wpAnyH_take (i := 5) (v := ?_) rfl (by kernel_rfl) (by kernel_rfl) (by kernel_rfl) (fun _ _ _ h => h) (Or.inl ⟨by rfl, ?_⟩) hHeld ?_
      rotate_left
      · intro W hSw; (try dsimp only at hSw); go_simp <;> with_reducible rfl
      (try simp only [Act.put, List.setIfInBounds_toArray, List.set_cons_zero, List.set_cons_succ])
      refine wpAnyH_take (i := 6) (v := ?_) rfl (by kernel_rfl) (by kernel_rfl) (by kernel_rfl) (fun _ _ _ h => h) (Or.inl ⟨by rfl, ?_⟩) hHeld ?_
      rotate_left
      · intro W hSw; (try dsimp only at hSw); go_simp <;> with_reducible rfl
      (try simp only [Act.put, List.setIfInBounds_toArray, List.set_cons_zero, List.set_cons_succ])
      refine wpAnyH_take (i := 7) (v := ?_) rfl (by kernel_rfl) (by kernel_rfl) (by kernel_rfl) (fun _ _ _ h => h) (Or.inl ⟨by rfl, ?_⟩) hHeld ?_
      rotate_left
      · intro W hSw; (try dsimp only at hSw); go_simp <;> with_reducible rfl
      (try simp only [Act.put, List.setIfInBounds_toArray, List.set_cons_zero, List.set_cons_succ])
      refine wpAnyH_take (i := 8) (v := ?_) rfl (by kernel_rfl) (by kernel_rfl) (by kernel_rfl) (fun _ _ _ h => h) (Or.inl ⟨by rfl, ?_⟩) hHeld ?_
      rotate_left
      · intro W hSw; (try dsimp only at hSw); go_simp <;> with_reducible rfl
      (try simp only [Act.put, List.setIfInBounds_toArray, List.set_cons_zero, List.set_cons_succ])
      refine wpAnyH_take (i := 9) (v := ?_) rfl (by kernel_rfl) (by kernel_rfl) (by kernel_rfl) (fun _ _ _ h => h) (Or.inl ⟨by kernel_rfl, ?_⟩) hHeld ?_
      rotate_left
      · intro W hSw; (try dsimp only at hSw); go_simp <;> with_reducible rfl
      (try simp only [Act.put, List.setIfInBounds_toArray, List.set_cons_zero, List.set_cons_succ])
      refine wpAnyH_take (i := 10) (v := ?_) rfl (by kernel_rfl) (by kernel_rfl) (by kernel_rfl) (fun _ _ _ h => h) (Or.inl ⟨by kernel_rfl, ?_⟩) hHeld ?_
      rotate_left
      · intro W hSw; (try dsimp only at hSw); go_simp <;> with_reducible rfl
      (try simp only [Act.put, List.setIfInBounds_toArray, List.set_cons_zero, List.set_cons_succ])
      refine wpAnyH_take (i := 11) (v := ?_) rfl (by kernel_rfl) (by kernel_rfl) (by kernel_rfl) (fun _ _ _ h => h) (Or.inl ⟨by kernel_rfl, ?_⟩) hHeld ?_
      rotate_left
      · intro W hSw; (try dsimp only at hSw); go_simp <;> with_reducible rfl
      (try simp only [Act.put, List.setIfInBounds_toArray, List.set_cons_zero, List.set_cons_succ])
      refine wpAnyH_take (i := 12) (v := ?_) rfl (by kernel_rfl) (by kernel_rfl) (by kernel_rfl) (fun _ _ _ h => h) (Or.inl ⟨by kernel_rfl, ?_⟩) hHeld ?_
      rotate_left
      · intro W hSw; (try dsimp only at hSw); go_simp <;> with_reducible rfl
      (try simp only [Act.put, List.setIfInBounds_toArray, List.set_cons_zero, List.set_cons_succ])
      refine wpAnyH_take (i := 13) (v := ?_) rfl (by kernel_rfl) (by kernel_rfl) (by kernel_rfl) (fun _ _ _ h => h) (Or.inl ⟨by kernel_rfl, ?_⟩) hHeld ?_
      rotate_left
      · intro W hSw; (try dsimp only at hSw); go_simp <;> with_reducible rfl
      (try simp only [Act.put, List.setIfInBounds_toArray, List.set_cons_zero, List.set_cons_succ])
      refine wpAnyH_ready (rs := [14]) (by kernel_rfl) (by simp) ?_
      refine AllReadyH.cons rfl (fun K hK => ?_) AllReadyH.nil
      go_simp
      ((with_reducible refine (HWD.out _ hB.drew).mono ?_); rintro en w4 ⟨rfl, rfl⟩; have B2 := hB.drew.drew; go_simp)
      refine hK.out _ _ ?_ (fun hHeld => ?_)
      · ((try dsimp only); first | with_reducible exact HALL.out _ B2 | with_reducible exact HALL.out _ hB.drew)
      clear hK K
      (try simp only [Act.put, List.setIfInBounds_toArray, List.set_cons_zero, List.set_cons_succ])
      refine wpAnyH_take (i := 15) (v := ?_) rfl (by kernel_rfl) (by kernel_rfl) (by kernel_rfl) (fun _ _ _ h => h) (Or.inl ⟨by kernel_rfl, ?_⟩) hHeld ?_
      rotate_left
      · intro W hSw; (try dsimp only at hSw); go_simp <;> with_reducible rfl
      (try simp only [Act.put, List.setIfInBounds_toArray, List.set_cons_zero, List.set_cons_succ])
      refine wpAnyH_take (i := 16) (v := ?_) rfl (by kernel_rfl) (by kernel_rfl) (by kernel_rfl) (fun _ _ _ h => h) (Or.inl ⟨by kernel_rfl, ?_⟩) hHeld ?_
      rotate_left
      · intro W hSw; (try dsimp only at hSw); go_simp <;> with_reducible rfl
      (try simp only [Act.put, List.setIfInBounds_toArray, List.set_cons_zero, List.set_cons_succ])
      refine wpAnyH_take (i := 17) (v := ?_) rfl (by kernel_rfl) (by kernel_rfl) (by kernel_rfl) (fun _ _ _ h => h) (Or.inl ⟨by kernel_rfl, ?_⟩) hHeld ?_
      rotate_left
      · intro W hSw; (try dsimp only at hSw); go_simp <;> with_reducible rfl
      (try simp only [Act.put, List.setIfInBounds_toArray, List.set_cons_zero, List.set_cons_succ])
      refine wpAnyH_done (by kernel_rfl) ?_ _
      show wpList _ _ _ _ _ _
      obtain ⟨-, -, -, -, t4, -⟩ := (HT3.out.later B2).tcell
      clear HALL hHeld HWD
      go_wp2_with fail
      ((with_reducible refine (HIX.out _ B2).mono ?_); rintro en w5 ⟨rfl, hb5⟩)
      have HT5 := Lib.hid (HT3.out.later (B2.nxt hb5))
      have HK5 := Lib.hid (HK3.out.trans (Kp.below (B2.nxt hb5)))
      clear HIX B2 hb5 t4 hB HT3 HK3
      go_wp2
      go_ret
      exact ⟨rfl, HT5.out, HK5.out⟩
end Go.Proofs.Wk
