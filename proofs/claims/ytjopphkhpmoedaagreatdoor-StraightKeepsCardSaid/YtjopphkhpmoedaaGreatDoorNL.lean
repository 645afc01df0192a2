/- STRAIGHTNESS: one index more behind a list of indices; what was the list before is so still. -/
import Derived.Test.YtjopphkhpmoedaaGreatDoorNK
import Derived.Test.YtjopphkhpmoedaaGreatDoorKB
import Derived.ArgAppend
import Derived.Lib.SliceRun
import Derived.Deep.RegionLaw
import Derived.Stop.RegionWithIn
namespace Go.Proofs.Wk
open Go.RowKit Mt

/-- Old blocks are as they were, but for one. -/
structure Kp (g : Option Nat) (W W' : World) : Prop where
  os : W'.os = W.os
  tape : W'.tape = W.tape
  output : W'.output = W.output
  size : W.heap.size ≤ W'.heap.size
  block : ∀ k, k < W.heap.size → some k ≠ g → W'.heap[k]? = W.heap[k]?
theorem Kp.refl (g : Option Nat) (W : World) : Kp g W W := ⟨rfl, rfl, rfl, Nat.le_refl _, fun _ _ _ => rfl⟩
theorem Kp.of {g : Option Nat} {W W' : World} (h : Below W.heap.size W W') : Kp g W W' := ⟨h.os, h.tape, h.output, h.size, fun k hk _ => h.block k hk⟩
theorem Kp.trans {g : Option Nat} {W W1 W2 : World} (h : Kp g W W1) (h2 : Kp g W1 W2) : Kp g W W2 :=
  ⟨h2.os.trans h.os, h2.tape.trans h.tape, h2.output.trans h.output, Nat.le_trans h.size h2.size, fun k hk hn => (h2.block k (Nat.lt_of_lt_of_le hk h.size) hn).trans (h.block k hk hn)⟩
theorem Kp.below {g : Option Nat} {W W' : World} (h : Kp g W W') {base : Nat} (hb : base ≤ W.heap.size) (hg : ∀ k, g = some k → base ≤ k) : Below base W W' :=
  ⟨h.os, h.tape, h.output, h.size, fun k hk => h.block k (Nat.lt_of_lt_of_le hk hb) fun e => by have := hg k e.symm; omega⟩
abbrev natZ : Value := .int .i64 0
theorem enc_nat (i : Nat) : Row.enc i = [Value.int .i64 (i : Int)] := rfl
theorem own_block {W : World} {base : Nat} {v : Value} {xs : List Nat} (h : OwX 3 W base v xs) : ∀ k, v.ownBlock = some k → base ≤ k ∧ k < W.heap.size := fun k hk => by
  rcases h.2 with ⟨rfl, -⟩ | ⟨g, cap, cur, rfl, h1, h2, -⟩
  · cases hk
  · obtain rfl : g = k := Option.some.inj hk
    exact ⟨h1, (Array.getElem?_eq_some_iff.1 h2).1⟩
/-- A row whose block is as it was. -/
theorem own_keep {W W' : World} {base : Nat} {v : Value} {xs : List Nat} (h : OwX 3 W base v xs) (hk : ∀ k, v.ownBlock = some k → W'.heap[k]? = W.heap[k]?) : OwX 3 W' base v xs := by
  obtain ⟨h1, h2⟩ := h
  refine ⟨h1, ?_⟩
  rcases h2 with h2 | ⟨g, cap, cur, e1, e2, e3, e4⟩
  · exact .inl h2
  · subst e1
    exact .inr ⟨g, cap, cur, rfl, e2, by rw [hk g rfl]; exact e3, e4⟩
/-- One index is appended. -/
theorem run_pushN (W : World) (ty : TypeId) (base : Nat) (hb : base ≤ W.heap.size) (v : Value) (xs : List Nat) (S : OwX 3 W base v xs) (hn : xs.length ≤ 100) (b i : Nat) (hc : W.cell? ⟨b, 0, none⟩ = some (.int .i64 (i : Int))) :
    ∃ v' W', (Builtin.append_ #[29, 29] ty #[v, .slice (some ⟨b, 0, none⟩) 1 1]).run Tryz.prog W = .ok v' W' ∧ OwX 3 W' base v' (xs ++ [i]) ∧ Kp v.ownBlock W W' ∧
      ∀ W2, Kp v'.ownBlock W' W2 → OwX 3 W2 base v' (xs ++ [i]) → OwX 3 W2 base v xs ∧ Kp v.ownBlock W W2 := by
  obtain ⟨i0, hi0, hz0, hz1, hz2⟩ := info_parts (show (Tryz.prog.info? 3).map (fun i => (i.zero, i.size, i.bytes)) = some (some natZ, 1, 8) by kernel_rfl)
  have ht := Tryz.underlying29
  have hnews : ∀ j u, ([Value.int .i64 (i : Int)])[j]? = some u → W.cell? ((⟨b, 0, none⟩ : Addr).add j) = some u := fun j u hu => by
    match j, hu with
    | 0, hu => rw [Addr.add_lit]; obtain rfl := Option.some.inj hu; exact hc
  have h1 : ∀ u ∈ [Value.int .i64 (i : Int)], u.oneCell' = true := fun u hu => by rw [List.mem_singleton.1 hu]; rfl
  -- a row made anew
  have fresh : ∀ v' W', W'.ownsRow W.heap.size 3 1 v' (xs.length + 1) (rcells xs ++ [.int .i64 (i : Int)]) → W.grownBy W' none →
      OwX 3 W' base v' (xs ++ [i]) ∧ Kp v.ownBlock W W' ∧ ∀ W2, Kp v'.ownBlock W' W2 → OwX 3 W2 base v' (xs ++ [i]) → OwX 3 W2 base v xs ∧ Kp v.ownBlock W W2 := by
    intro v' W' ho hgr
    have ho' : OwX 3 W' W.heap.size v' (xs ++ [i]) := by
      unfold OwX
      rw [List.length_append, rcells_app, rcells_one]
      exact ho
    have hK : ∀ g, Kp g W W' := fun g => ⟨hgr.os, hgr.tape, hgr.output, hgr.size, fun k hk _ => hgr.block k hk (by simp)⟩
    refine ⟨ho'.base hb, hK _, fun W2 hk2 _ => ?_⟩
    have hold : ∀ k, k < W.heap.size → W2.heap[k]? = W.heap[k]? := fun k hk => by
      rw [hk2.block k (Nat.lt_of_lt_of_le hk hgr.size) (fun e => by have := (own_block ho' k e.symm).1; omega)]
      exact hgr.block k hk (by simp)
    refine ⟨own_keep S fun k hk => hold k (own_block S k hk).2, ⟨hk2.os.trans hgr.os, hk2.tape.trans hgr.tape, hk2.output.trans hgr.output, Nat.le_trans hgr.size hk2.size, fun k hk _ => hold k hk⟩⟩
  have hm : xs.length + 1 ≤ maxLen := by unfold maxLen; omega
  rcases S.2 with ⟨rfl, h0⟩ | ⟨g, cap, cur, rfl, e2, e3, e4, e5, e6, e7⟩
  · obtain rfl := List.length_eq_zero_iff.1 h0
    obtain ⟨v', W', hr, r1, r2, -⟩ := run_append_own (P := Tryz.prog) W W.heap.size 29 ty 3 i0 natZ 1 8 ht hi0 hz0 hz1 hz2 rfl (by decide) (.slice none 0 0) 0 [] (World.ownsRow_nil W _ _ _) ⟨b, 0, none⟩ 1 1 [.int .i64 (i : Int)] rfl hnews h1 (by unfold maxLen; omega) (by omega) (Nat.le_refl _)
    obtain ⟨q1, q2, q3⟩ := fresh v' W' r1 r2
    exact ⟨v', W', hr, q1, q2, q3⟩
  · by_cases hroom : xs.length + 1 ≤ cap
    · have hsz : cur.size = cap := by rw [e6]; exact Nat.mul_one _
      have hlt : xs.length < cur.size := by omega
      have hcell : (W.cell? ⟨g, xs.length, none⟩).isSome = true := by rw [cell_of_row W g _ _ _ _ e3]; simp [hlt]
      have hr := run_append_room_cells (P := Tryz.prog) W 29 ty 3 i0 ht hi0 g 0 xs.length cap ⟨b, 0, none⟩ 1 1 [.int .i64 (i : Int)] (by rw [hz1]; rfl) hnews h1 hroom
        (fun j hj => by
          obtain rfl : j = 0 := by simpa using hj
          rw [hz1, Nat.mul_one, Nat.zero_add, Nat.add_zero]; exact hcell) (fun j hj => frozen_of_row W g _ _ _ e3)
      rw [hz1, Nat.mul_one, Nat.zero_add] at hr
      have hset : W.setCells g xs.length [.int .i64 (i : Int)] = W.setCell ⟨g, xs.length, none⟩ (.int .i64 (i : Int)) := rfl
      rw [hset] at hr
      have hh : (W.setCell ⟨g, xs.length, none⟩ (.int .i64 (i : Int))).heap[g]? = some (.cells (cur.setIfInBounds xs.length (.int .i64 (i : Int))) 3 (0, 0)) := heap_setCell_same W g _ _ _ _ e3
      have hkp : Kp (Value.ownBlock (.slice (some ⟨g, 0, none⟩) xs.length cap)) W (W.setCell ⟨g, xs.length, none⟩ (.int .i64 (i : Int))) :=
        ⟨rfl, rfl, rfl, by simp [World.setCell], fun k hk hne => heap_setCell_other _ _ _ _ (fun e => hne (congrArg some e))⟩
      have hlen : (xs ++ [i]).length = xs.length + 1 := by simp
      have hrl : (rcells xs).length = xs.length := by rw [rcells_len]; exact Nat.mul_one _
      refine ⟨_, _, hr, ?_, hkp, fun W2 hk2 ho2 => ⟨?_, ?_⟩⟩
      · rw [← hlen]
        refine OwX.mk e2 hh (by rw [hlen]; exact hroom) e5 (by rw [Array.size_setIfInBounds]; exact e6) ⟨cur.toList.drop (xs.length + 1), ?_⟩
        rw [Array.toList_setIfInBounds, rcells_app, rcells_one, enc_nat, List.set_eq_take_append_cons_drop, if_pos (by rw [Array.length_toList]; exact hlt)]
        have e7' : cur.toList.take xs.length = rcells xs := by
          have h := e7
          rwa [show xs.length * Row.k Nat = xs.length from Nat.mul_one _] at h
        rw [e7']
        simp
      · rcases ho2.2 with ⟨hv, -⟩ | ⟨g2, cap2, cur2, hv, f2, f3, f4, f5, f6, f7⟩
        · cases hv
        · simp only [Value.slice.injEq, Option.some.injEq, Addr.mk.injEq, and_true] at hv
          obtain ⟨rfl, -, rfl⟩ := hv
          refine ⟨rcells_len xs, .inr ⟨g, cap, cur2, rfl, f2, f3, e4, e5, f6, ?_⟩⟩
          have : cur2.toList.take ((xs ++ [i]).length * 1) = rcells (xs ++ [i]) := f7
          rw [hlen, Nat.mul_one, rcells_app] at this
          have h3 := congrArg (List.take xs.length) this
          rw [List.take_take, Nat.min_eq_left (Nat.le_succ _), List.take_left' hrl] at h3
          rw [show xs.length * Row.k Nat = xs.length from Nat.mul_one _]
          exact h3
      · exact hkp.trans hk2
    · have hcells : ∀ j u, (rcells xs)[j]? = some u → W.cell? ((⟨g, 0, none⟩ : Addr).add j) = some u := (RX.of_row e3 e7).src
      obtain ⟨v', W', hr, r1, r2⟩ := run_append_arg_grows (P := Tryz.prog) W 29 ty 3 i0 natZ 1 8 ht hi0 hz0 hz1 hz2 rfl (by decide) ⟨g, 0, none⟩ xs.length cap (rcells xs) (rcells_len xs) hcells ⟨b, 0, none⟩ 1 1 [.int .i64 (i : Int)] rfl hnews (by omega) hm (by omega)
      obtain ⟨q1, q2, q3⟩ := fresh v' W' r1 r2
      exact ⟨v', W', hr, q1, q2, q3⟩
end Go.Proofs.Wk
/- STRAIGHTNESS: lists of indices cloned; the choices, by recursion. -/
namespace Go.Proofs.Wk
open Go.RowKit Go.Rng Mt
attribute [local go_sem] Oper.semAt_some

/-- A clone of a list of indices. -/
def ClnN (w : World) (xs : List Nat) (e : Ending) (w' : World) : Prop := ∃ v', e = .returned v' ∧ OwX 3 w' w.heap.size v' xs ∧ Below w.heap.size w w'
set_option maxRecDepth 100000 in
theorem cloneN_c {v : Value} (xs : List Nat) (w : World) (S : SlX w v xs) (h0 : 0 < xs.length) (hn : xs.length ≤ 1000) : Calls Tryz.prog 28 #[v] w (ClnN w xs) := by
  refine S.cases _ ?_ ?_
  · rintro a cap rfl rfl
    simp at h0
  rintro b off cap rfl hp hR hb
  have HS := Lib.hid S
  have HN := Lib.hid (show xs.length * 8 ≤ 140737488355328 by omega)
  have hnil := fun (W : World) => Lib.run_eql_slice_nil (P := Tryz.prog) W 29 3 (some ⟨b, off, none⟩) xs.length cap 0 0 Tryz.underlying29
  clear S hR
  go_enter Tryz.func28, Tryz.ntmps28
  go_wp2_with (at_builtin; refine wpList_clone_row rfl _ _ 29 3 rfl Tryz.underlying29 natZ 8 (by decide) (by kernel_rfl) rfl w.heap.size _ xs _ rfl rfl HN.out (HS.out.later ((Below.refl _ _).alloc (Nat.le_refl _) _)) (Nat.le_of_lt (alloc_lt _ _)) ?_; rintro v' w' h1 h2)
  go_ret
  refine ⟨_, rfl, ?_, ((Below.refl _ _).alloc (Nat.le_refl _) _).trans h2⟩
  rcases h1 with ⟨rfl, -⟩ | h1
  · simp at h0
  · exact h1
def ChP (J : World → Prop) (Jx : List Nat → World → Prop) (base : Nat) (v : Value) (xs : List Nat) (r : Option (List Nat)) (W : World) (e : Ending) (W' : World) : Prop := match r with
  | none => e = .returned (.bool true) ∧ J W' ∧ Kp v.ownBlock W W' ∧ OwX 3 W' base v xs
  | some x => e = .returned (.bool false) ∧ Jx x W'
def YcT (J : World → Prop) (W : World) (e : Ending) (W' : World) : Prop := e = .returned (.bool true) ∧ J W' ∧ Kp none W W'
def YcF (Jx : List Nat → World → Prop) (x : List Nat) (e : Ending) (W' : World) : Prop := e = .returned (.bool false) ∧ Jx x W'
set_option maxRecDepth 100000 in
set_option maxHeartbeats 2000000 in
theorem choose_0 (n k kb yb nb cb l base : Nat) (Q : List Nat → Bool) (J : World → Prop) (Jx : List Nat → World → Prop) (hJ : ∀ W1 W2, J W1 → Below base W1 W2 → J W2)
    (hJc : ∀ W1, J W1 → W1.cell? ⟨kb, 0, none⟩ = some (.int .i64 (k : Int)) ∧ W1.cell? ⟨nb, 0, none⟩ = some (.int .i64 (n : Int)) ∧ W1.cell? ⟨yb, 0, none⟩ = some (.func (.yield l) #[] #[]) ∧ base ≤ W1.heap.size)
    (hgo : ∀ x u W1, Q x = true → x.length = k → (∀ i ∈ x, i < n) → SlX W1 u x → J W1 → YieldAt Fence.wide 0 Tryz.prog l #[u] W1 (YcT J W1))
    (hst : ∀ x u W1, Q x = false → x.length = k → (∀ i ∈ x, i < n) → SlX W1 u x → J W1 → YieldAt Fence.wide 0 Tryz.prog l #[u] W1 (YcF Jx x))
    (xs : List Nat) (f : Nat) (W : World) (v : Value) (h0 : 0 < k) (hk : k ≤ 64) (hx : xs.length = k) (hxm : ∀ i ∈ xs, i < n) (S : OwX 3 W base v xs) (hj : J W) :
    CallsIn Fence.wide 0 Tryz.prog 92 #[v, .int .i64 (f : Int), .pointer (some ⟨kb, 0, none⟩), .pointer (some ⟨yb, 0, none⟩), .pointer (some ⟨nb, 0, none⟩), .pointer (some ⟨cb, 0, none⟩)] W
      (ChP J Jx base v xs (if Q xs = true then none else some xs) W) := by
  obtain ⟨c0, c1, c2, hbs⟩ := hJc _ hj
  have HCL := Lib.hid (fun W' (h : Below W.heap.size W W') => cloneN_c xs W' (S.sl.later h) (by omega) (by omega))
  obtain ⟨sa, cap, hv⟩ := S.sl.lenN
  have z : ((k : Int) == (k : Int)) = true := by simp
  cases hq : Q xs with
  | true =>
    have HGO := Lib.hid (fun u W1 h1 h2 => hgo xs u W1 hq hx hxm h1 h2)
    have HS := Lib.hid S
    have HJ := Lib.hid (fun W1 (h : Below W.heap.size W W1) => hJ W W1 hj (h.mono hbs))
    have HJC := Lib.hid (fun W1 (h : J W1) => (hJc W1 h).2.2.1)
    rw [if_pos rfl]
    rw [hx] at hv
    subst hv
    clear hst hgo hJ hJc S hq hj hx hxm
    refine callsIn_of_wp Tryz.func92 rfl trivial ?_
    simp only [Tryz.ntmps92, List.size_toArray, List.length_cons, List.length_nil, Nat.reduceAdd, Nat.reduceSub, Array.replicate_succ, Array.replicate_zero, List.push_toArray, List.append_toArray, List.nil_append, List.cons_append]
    gi_wp2_with fail
    gi_region_with (first
      | (refine ⟨trivial, rfl, ?_⟩; refine (callsIn_wide.2 (HCL.out _ ?_)).mono ?_; (first | exact (Below.refl _ _).drew | exact Below.refl _ _); rintro e w1 ⟨u, rfl, hown, hb1⟩;
          have hb1' : Below W.heap.size W w1 := ⟨hb1.os, hb1.tape, hb1.output, hb1.size, hb1.block⟩; have hj1 := HJ.out w1 hb1'; have c3 := HJC.out w1 hj1; obtain ⟨fn, tmps, assign, body, hy, hRd⟩ := HGO.out u w1 hown.sl hj1; have HRD := Lib.hid hRd; have HB1 := Lib.hid hb1'; clear hRd hj1 hown hb1 hb1')
      | (refine ⟨rfl, ?_⟩; refine HRD.out.mono ?_; rintro e w2 ⟨rfl, h2⟩; have H2 := Lib.hid h2; clear h2 hy HRD))
    all_goals
      gi_wp2
      go_ret
      obtain ⟨h3, h4⟩ := H2.out
      exact ⟨rfl, h3, (Kp.of HB1.out).trans ⟨h4.os, h4.tape, h4.output, h4.size, fun k hk _ => h4.block k hk (by simp)⟩, own_keep HS.out fun k hk => by
        have hlt := (own_block HS.out k hk).2
        rw [h4.block k (Nat.lt_of_lt_of_le hlt HB1.out.size) (by simp)]; exact HB1.out.block k hlt⟩
  | false =>
    have HGS := Lib.hid (fun u W1 h1 h2 => hst xs u W1 hq hx hxm h1 h2)
    have HS := Lib.hid S
    have HJ := Lib.hid (fun W1 (h : Below W.heap.size W W1) => hJ W W1 hj (h.mono hbs))
    have HJC := Lib.hid (fun W1 (h : J W1) => (hJc W1 h).2.2.1)
    rw [if_neg (by simp)]
    rw [hx] at hv
    subst hv
    clear hst hgo hJ hJc S hq hj hx hxm
    refine callsIn_of_wp Tryz.func92 rfl trivial ?_
    simp only [Tryz.ntmps92, List.size_toArray, List.length_cons, List.length_nil, Nat.reduceAdd, Nat.reduceSub, Array.replicate_succ, Array.replicate_zero, List.push_toArray, List.append_toArray, List.nil_append, List.cons_append]
    gi_wp2_with fail
    gi_region_with (first
      | (refine ⟨trivial, rfl, ?_⟩; refine (callsIn_wide.2 (HCL.out _ ?_)).mono ?_; (first | exact (Below.refl _ _).drew | exact Below.refl _ _); rintro e w1 ⟨u, rfl, hown, hb1⟩;
          have hb1' : Below W.heap.size W w1 := ⟨hb1.os, hb1.tape, hb1.output, hb1.size, hb1.block⟩; have hj1 := HJ.out w1 hb1'; have c3 := HJC.out w1 hj1; obtain ⟨fn, tmps, assign, body, hy, hRd⟩ := HGS.out u w1 hown.sl hj1; have HRD := Lib.hid hRd; have HB1 := Lib.hid hb1'; clear hRd hj1 hown hb1 hb1')
      | (refine ⟨rfl, ?_⟩; refine HRD.out.mono ?_; rintro e w2 ⟨rfl, h2⟩; have H2 := Lib.hid h2; clear h2 hy HRD))
    all_goals
      gi_wp2
      go_ret
      exact ⟨rfl, H2.out⟩
end Go.Proofs.Wk
/- STRAIGHTNESS: the choices, by recursion. -/
namespace Go.Proofs.Wk
open Go.RowKit Go.Rng Mt
attribute [local go_sem] Oper.semAt_some
attribute [-go_sem] Builtin.append_

/-- What is left of the choices behind a list, from an index on. -/
def dfD (n m : Nat) (xs : List Nat) (i : Nat) : List (List Nat) := (List.range' i (n - i)).flatMap fun j => St.dfs n m (xs ++ [j]) (j + 1)
theorem dfD_step {n m : Nat} {xs : List Nat} {i : Nat} (h : i < n) (q : List Nat → Bool) : (dfD n m xs i).find? q = ((St.dfs n m (xs ++ [i]) (i + 1)).find? q).or ((dfD n m xs (i + 1)).find? q) := by
  unfold dfD
  rw [St.range_cons h, List.flatMap_cons, List.find?_append]
theorem dfD_end {n m : Nat} {xs : List Nat} {i : Nat} (h : n ≤ i) (q : List Nat → Bool) : (dfD n m xs i).find? q = none := by
  unfold dfD
  rw [St.range_nil h]; rfl
set_option maxRecDepth 100000 in
set_option maxHeartbeats 4000000 in
theorem choose_in (n k kb yb nb cb l base : Nat) (Q : List Nat → Bool) (J : World → Prop) (Jx : List Nat → World → Prop) (hJ : ∀ W1 W2, J W1 → Below base W1 W2 → J W2)
    (hJc : ∀ W1, J W1 → W1.cell? ⟨kb, 0, none⟩ = some (.int .i64 (k : Int)) ∧ W1.cell? ⟨nb, 0, none⟩ = some (.int .i64 (n : Int)) ∧ W1.cell? ⟨yb, 0, none⟩ = some (.func (.yield l) #[] #[]) ∧ base ≤ W1.heap.size)
    (hJd : ∀ W1, J W1 → W1.cell? ⟨cb, 0, none⟩ = some (.func (.func 92) #[] #[.pointer (some ⟨kb, 0, none⟩), .pointer (some ⟨yb, 0, none⟩), .pointer (some ⟨nb, 0, none⟩), .pointer (some ⟨cb, 0, none⟩)]))
    (hgo : ∀ x u W1, Q x = true → x.length = k → (∀ i ∈ x, i < n) → SlX W1 u x → J W1 → YieldAt Fence.wide 0 Tryz.prog l #[u] W1 (YcT J W1))
    (hst : ∀ x u W1, Q x = false → x.length = k → (∀ i ∈ x, i < n) → SlX W1 u x → J W1 → YieldAt Fence.wide 0 Tryz.prog l #[u] W1 (YcF Jx x)) (h0 : 0 < k) (hk : k ≤ 64) (hn : n ≤ 64) :
    ∀ (m : Nat) (xs : List Nat) (f : Nat) (W : World) (v : Value), xs.length + m = k → (∀ i ∈ xs, i < n) → f ≤ 64 → OwX 3 W base v xs → J W →
    CallsIn Fence.wide 0 Tryz.prog 92 #[v, .int .i64 (f : Int), .pointer (some ⟨kb, 0, none⟩), .pointer (some ⟨yb, 0, none⟩), .pointer (some ⟨nb, 0, none⟩), .pointer (some ⟨cb, 0, none⟩)] W
      (ChP J Jx base v xs ((St.dfs n m xs f).find? fun x => !Q x) W)
  | 0, xs, f, W, v, hl, hxm, _, S, hj => by
    have := choose_0 n k kb yb nb cb l base Q J Jx hJ hJc hgo hst xs f W v h0 hk (by omega) hxm S hj
    rw [show ((St.dfs n 0 xs f).find? fun x => !Q x) = if Q xs = true then none else some xs by cases q : Q xs <;> simp [St.dfs, q]]
    exact this
  | m + 1, xs, f, W, v, hl, hxm, hf, S, hj => by
    have HIH := Lib.hid (fun i W v (h0i : i < n) h1 h2 h3 => choose_in n k kb yb nb cb l base Q J Jx hJ hJc hJd hgo hst h0 hk hn m (xs ++ [i]) (i + 1) W v (by simp; omega) (fun j hj => (List.mem_append.1 hj).elim (hxm j) fun e => by rw [List.mem_singleton.1 e]; exact h0i) h1 h2 h3)
    obtain ⟨E, hE⟩ : ∃ E, ((St.dfs n (m + 1) xs f).find? fun x => !Q x) = E := ⟨_, rfl⟩
    rw [hE]
    have hE2 : (dfD n m xs f).find? (fun x => !Q x) = E := hE
    have HE := Lib.hid hE2
    have HJ := Lib.hid hJ
    have HJC := Lib.hid hJc
    have HJD := Lib.hid hJd
    have HS := Lib.hid S
    have HJ0 := Lib.hid hj
    have hxl : xs.length ≤ 64 := by omega
    have z : ((xs.length : Int) == (k : Int)) = false := beq_eq_false_iff_ne.2 (by omega)
    obtain ⟨c0, c1, c2, hbs⟩ := hJc _ hj
    have HOK := Lib.hid (fun k hk => own_block S k hk)
    obtain ⟨sa, cap, hv⟩ := S.sl.lenN
    subst hv
    clear hE hE2 hJ hJc hJd hgo hst S hj hl hxm
    refine callsIn_of_wp Tryz.func92 rfl trivial ?_
    simp only [Tryz.ntmps92, List.size_toArray, List.length_cons, List.length_nil, Nat.reduceAdd, Nat.reduceSub, Array.replicate_succ, Array.replicate_zero, List.push_toArray, List.append_toArray, List.nil_append, List.cons_append]
    gi_wp2_with fail
    clear c0 c1 c2
    gi_loopw [9] (fun si wr => ∃ i : Nat, si = .int .i64 (i : Int) ∧ i ≤ 64 ∧ Hid ((dfD n m xs i).find? (fun x => !Q x) = E) ∧ Hid (J wr) ∧ Hid (OwX 3 wr base (.slice sa xs.length cap) xs) ∧ Hid (Kp (Value.ownBlock (.slice sa xs.length cap)) W wr))
      (fun si _ => n - (intOf si).toNat)
    case atStart => exact ⟨f, rfl, hf, HE.out, HJ0.out, HS.out, Kp.refl _ _⟩
    case round =>
      obtain ⟨i, rfl, hi, he, hjw, ho, hkp⟩ := hrel
      have c1 := (HJC.out _ hjw.out).2.1
      by_cases hlt : i < n
      · have hed := he.out
        rw [dfD_step hlt] at hed
        have HED := Lib.hid hed
        have hal : Below wr.heap.size wr (wr.alloc (.cells #[.int .i64 (i : Int)] 3)).drew := (below_al wr _).drew
        have hbw := (HJC.out _ hjw.out).2.2.2
        have c5 := HJD.out _ hjw.out
        have hoa : OwX 3 (wr.alloc (.cells #[.int .i64 (i : Int)] 3)).drew base (.slice sa xs.length cap) xs := own_keep ho.out fun k hk => hal.block k (own_block ho.out k hk).2
        obtain ⟨v', W', hr, ho', hkp', hback⟩ := run_pushN (wr.alloc (.cells #[.int .i64 (i : Int)] 3)).drew 29 base (Nat.le_trans hbw hal.size) (.slice sa xs.length cap) xs hoa (by omega) wr.heap.size i
          (by rw [show (wr.alloc (.cells #[.int .i64 (i : Int)] 3)).drew.cell? ⟨wr.heap.size, 0, none⟩ = (wr.alloc (.cells #[.int .i64 (i : Int)] 3)).cell? ⟨wr.heap.size, 0, none⟩ from rfl]; exact c1row (heap_alloc_new wr _))
        have hjW : J W' := HJ.out _ _ (HJ.out _ _ hjw.out (hal.mono hbw)) (hkp'.below (Nat.le_trans hbw hal.size) fun k hk => (own_block hoa k hk).1)
        have hih := HIH.out i W' v' hlt (by omega) ho' hjW
        rw [show (((i + 1 : Nat)) : Int) = (i : Int) + 1 from rfl] at hih
        have HBK := Lib.hid hback
        have HK2 := Lib.hid (hkp.out.trans (Kp.of hal))
        have hw : IntKind.i64.wrap ((i : Int) + 1) = (i : Int) + 1 := Go.Proofs.Wk.wr rfl (by omega)
        have c5' := HJD.out _ hjW
        have c5a : (wr.alloc (.cells #[.int .i64 (i : Int)] 3)).cell? ⟨cb, 0, none⟩ = _ := HJD.out _ (HJ.out _ _ hjw.out ((below_al wr (.cells #[.int .i64 (i : Int)] 3)).mono hbw))
        have hcb : cb < wr.heap.size := World.block_lt_of_cell? wr _ c5
        clear hed hback hoa ho' hkp' hjW he ho
        generalize ((St.dfs n m (xs ++ [i]) (i + 1)).find? fun x => !Q x) = r at *
        cases r with
        | none =>
          have HI := Lib.hid hih
          have HED2 := Lib.hid (show (dfD n m xs (i + 1)).find? (fun x => !Q x) = E from HED.out)
          clear hih HED
          gi_wp2_with fail
          gi_region_with (refine ⟨trivial, rfl, ?_⟩; refine HI.out.mono ?_; rintro e w2 ⟨rfl, h2, h3, h4⟩; have H2 := Lib.hid h2; have H3 := Lib.hid (HBK.out w2 h3 h4); clear h2 h3 h4 HI hr)
          all_goals
            gi_wp2
            go_roundw
            case rel => exact ⟨i + 1, by go_num, by omega, HED2.out, H2.out, H3.out.1, (hkp.out.trans (Kp.of hal)).trans H3.out.2⟩
            case measure => simp [intOf]; omega
        | some x =>
          have HI := Lib.hid hih
          obtain rfl : some x = E := HED.out
          clear hih HED
          gi_wp2_with fail
          gi_region_with (refine ⟨trivial, rfl, ?_⟩; refine HI.out.mono ?_; rintro e w2 ⟨rfl, h2⟩; have H2 := Lib.hid h2; clear h2 HI hr)
          all_goals
            gi_wp2
            go_ret
            exact ⟨rfl, H2.out⟩
      · have hed := he.out
        rw [dfD_end (by omega)] at hed
        subst hed
        clear HE he
        gi_wp2
        go_ret
        exact ⟨rfl, hjw.out, hkp.out, ho.out⟩
end Go.Proofs.Wk
/- STRAIGHTNESS: the iterator over the choices. -/
namespace Go.Proofs.Wk
open Go.RowKit Go.Rng Mt
attribute [local go_sem] Oper.semAt_some

def ChFn (n k : Nat) (w : World) (e : Ending) (w' : World) : Prop := e = .returned (.func (.func 91) #[] #[.pointer (some ⟨w.heap.size + 1, 0, none⟩), .pointer (some ⟨w.heap.size, 0, none⟩)]) ∧
  w' = (w.alloc (.cells #[.int .i64 (n : Int)] 3)).alloc (.cells #[.int .i64 (k : Int)] 3)
set_option maxRecDepth 100000 in
theorem choices_c (n k : Nat) (w : World) : Calls Tryz.prog 52 #[.int .i64 (n : Int), .int .i64 (k : Int)] w (ChFn n k w) := by
  go_enter Tryz.func52, Tryz.ntmps52
  go_wp2
  go_ret
  exact ⟨rfl, rfl⟩
def ChI (J : World → Prop) (Jx : List Nat → World → Prop) (r : Option (List Nat)) (e : Ending) (W' : World) : Prop := (∃ v, e = .returned v) ∧ match r with
  | none => J W'
  | some x => Jx x W'
theorem Kp.cell {W W' : World} (h : Kp none W W') {b j : Nat} {v : Value} (hc : W.cell? ⟨b, j, none⟩ = some v) : W'.cell? ⟨b, j, none⟩ = some v :=
  (World.cell?_of_block (a := ⟨b, j, none⟩) (h.block b (World.block_lt_of_cell? W _ hc) (by simp))).trans hc
/-- The invariant with the iterator's own cells. -/
structure ChJ (J0 : World → Prop) (kb nb l B : Nat) (W1 : World) : Prop where
  j : J0 W1
  y : W1.cell? ⟨B, 0, none⟩ = some (.func (.yield l) #[] #[])
  c : W1.cell? ⟨B + 1, 0, none⟩ = some (.func (.func 92) #[] #[.pointer (some ⟨kb, 0, none⟩), .pointer (some ⟨B, 0, none⟩), .pointer (some ⟨nb, 0, none⟩), .pointer (some ⟨B + 1, 0, none⟩)])
  s : B + 2 ≤ W1.heap.size
set_option maxRecDepth 100000 in
set_option maxHeartbeats 4000000 in
theorem choices_in (n k kb nb l : Nat) (Q : List Nat → Bool) (J0 : World → Prop) (Jx : List Nat → World → Prop) (W : World) (hJ : ∀ W1 W2, J0 W1 → Below W.heap.size W1 W2 → J0 W2)
    (hJc : ∀ W1, J0 W1 → W1.cell? ⟨kb, 0, none⟩ = some (.int .i64 (k : Int)) ∧ W1.cell? ⟨nb, 0, none⟩ = some (.int .i64 (n : Int)))
    (hgo : ∀ x u W1, Q x = true → x.length = k → (∀ i ∈ x, i < n) → SlX W1 u x → J0 W1 → YieldAt Fence.wide 0 Tryz.prog l #[u] W1 (YcT J0 W1))
    (hst : ∀ x u W1, Q x = false → x.length = k → (∀ i ∈ x, i < n) → SlX W1 u x → J0 W1 → YieldAt Fence.wide 0 Tryz.prog l #[u] W1 (YcF Jx x)) (h0 : 0 < k) (hk : k ≤ 64) (hn : n ≤ 64) (hj : J0 W) :
    CallsIn Fence.wide 0 Tryz.prog 91 #[.func (.yield l) #[] #[], .pointer (some ⟨kb, 0, none⟩), .pointer (some ⟨nb, 0, none⟩)] W (ChI J0 Jx ((St.lst n k).find? fun x => !Q x)) := by
  have hm := choose_in n k kb W.heap.size nb (W.heap.size + 1) l (W.heap.size + 2) Q (ChJ J0 kb nb l W.heap.size) Jx
    (fun W1 W2 h hb => ⟨hJ _ _ h.j (hb.mono (by omega)), (hb.cell (p := ⟨W.heap.size, 0, none⟩) (by simp)).trans h.y, (hb.cell (p := ⟨W.heap.size + 1, 0, none⟩) (by simp)).trans h.c, Nat.le_trans h.s hb.size⟩)
    (fun W1 h => ⟨(hJc _ h.j).1, (hJc _ h.j).2, h.y, h.s⟩) (fun W1 h => h.c)
    (fun x u W1 q1 q2 qm q3 h => by
      obtain ⟨fn, tmps, assign, body, hy, hR⟩ := hgo x u W1 q1 q2 qm q3 h.j
      exact ⟨fn, tmps, assign, body, hy, hR.mono fun e W' ⟨r1, r2, r3⟩ => ⟨r1, ⟨r2, r3.cell h.y, r3.cell h.c, Nat.le_trans h.s r3.size⟩, r3⟩⟩)
    (fun x u W1 q1 q2 qm q3 h => hst x u W1 q1 q2 qm q3 h.j) h0 hk hn k [] 0
  rw [St.dfs_lst] at hm
  generalize ((St.lst n k).find? fun x => !Q x) = r at *
  obtain ⟨c0, c1⟩ := hJc _ hj
  have HM := Lib.hid (fun W1 (h : ChJ J0 kb nb l W.heap.size W1) => hm W1 (.slice none 0 0) (by simp) (fun _ h => (nomatch h)) (by decide) (OwX.nil _ _ _) h)
  have a1 := below_al W (.cells #[.func (.yield l) #[] #[]] 126)
  have s1 : (W.alloc (.cells #[.func (.yield l) #[] #[]] 126)).heap.size = W.heap.size + 1 := by simp
  have hfin : ∀ F, F = Value.func (.func 92) #[] #[.pointer (some ⟨kb, 0, none⟩), .pointer (some ⟨W.heap.size, 0, none⟩), .pointer (some ⟨nb, 0, none⟩), .pointer (some ⟨W.heap.size + 1, 0, none⟩)] →
      ChJ J0 kb nb l W.heap.size ((W.alloc (.cells #[.func (.yield l) #[] #[]] 126)).alloc (.cells #[F] 127)) := fun F hF => by
    subst hF
    have a2 := below_al (W.alloc (.cells #[.func (.yield l) #[] #[]] 126)) (.cells #[.func (.func 92) #[] #[.pointer (some ⟨kb, 0, none⟩), .pointer (some ⟨W.heap.size, 0, none⟩), .pointer (some ⟨nb, 0, none⟩), .pointer (some ⟨W.heap.size + 1, 0, none⟩)]] 127)
    refine ⟨hJ _ _ hj (a1.nx a2), ?_, c1row (alloc_at s1), by simp⟩
    rw [a2.cell (p := ⟨W.heap.size, 0, none⟩) (by rw [s1]; simp)]
    exact c1row (heap_alloc_new W _)
  have HF := Lib.hid (hfin _ rfl)
  clear hm hfin a1 s1 hJ hJc hgo hst hj
  refine callsIn_of_wp Tryz.func91 rfl trivial ?_
  simp only [Tryz.ntmps91, List.size_toArray, List.length_cons, List.length_nil, Nat.reduceAdd, Nat.reduceSub, Array.replicate_succ, Array.replicate_zero, List.push_toArray, List.append_toArray, List.nil_append, List.cons_append]
  gi_wp2_with fail
  refine ⟨trivial, rfl, ?_⟩
  refine (HM.out _ HF.out).mono ?_
  rintro e W2 h
  cases r with
  | none =>
    obtain ⟨rfl, h2, -, -⟩ := h
    have H2 := Lib.hid h2.j
    clear h2 HM HF
    gi_wp2
    refine bodyPost_ret (results_none rfl _ _ _) rfl ?_
    exact ⟨⟨_, rfl⟩, H2.out⟩
  | some x =>
    obtain ⟨rfl, h2⟩ := h
    have H2 := Lib.hid h2
    clear h2 HM HF
    gi_wp2
    refine bodyPost_ret (results_none rfl _ _ _) rfl ?_
    exact ⟨⟨_, rfl⟩, H2.out⟩
end Go.Proofs.Wk
