/- STRAIGHTNESS: slices of slices of indices; the reference's lists. -/
import Derived.Test.YtjopphkhpmoedaaGreatDoorScG
import Derived.Test.YtjopphkhpmoedaaGreatDoorNL
import Derived.Maps.AppendAt
namespace Go.Proofs.Wk
open Go.RowKit Mt

/-- The head of a slice, as an element. -/
structure SlH where
  a : Option Addr
  n : Nat
  c : Nat
abbrev SlH.v (h : SlH) : Value := .slice h.a h.n h.c
instance : Row SlH where
  enc h := [h.v]
  k := 1
  len _ := rfl
  pos := by decide
  one a u hu := by
    obtain rfl := List.mem_singleton.1 hu
    rfl
/-- The slices behind the heads. -/
def Hds (W : World) (hs : List SlH) (xs : List (List Nat)) : Prop := hs.length = xs.length ∧ ∀ (i : Nat) (h : SlH) (x : List Nat), hs[i]? = some h → xs[i]? = some x → SlX W h.v x
theorem Hds.nil (W : World) : Hds W [] [] := ⟨rfl, fun i h x e => by simp at e⟩
theorem Hds.later {W W' : World} {hs : List SlH} {xs : List (List Nat)} (h : Hds W hs xs) (hb : Below W.heap.size W W') : Hds W' hs xs := ⟨h.1, fun i a x e1 e2 => (h.2 i a x e1 e2).later hb⟩
theorem Hds.snoc {W : World} {hs : List SlH} {xs : List (List Nat)} (h : Hds W hs xs) {a : SlH} {x : List Nat} (S : SlX W a.v x) : Hds W (hs ++ [a]) (xs ++ [x]) := by
  refine ⟨by simp [h.1], fun i b y e1 e2 => ?_⟩
  rcases Nat.lt_trichotomy i hs.length with q | q | q
  · rw [List.getElem?_append_left q] at e1
    rw [List.getElem?_append_left (by rw [← h.1]; exact q)] at e2
    exact h.2 i b y e1 e2
  · subst q
    rw [List.getElem?_append_right (Nat.le_refl _), Nat.sub_self] at e1
    rw [h.1, List.getElem?_append_right (Nat.le_refl _), Nat.sub_self] at e2
    obtain rfl : a = b := by simpa using e1
    obtain rfl : x = y := by simpa using e2
    exact S
  · rw [List.getElem?_append_right (Nat.le_of_lt q)] at e1
    rw [List.getElem?_eq_none (by simp; omega)] at e1; cases e1
theorem SlH.ex {W : World} {v : Value} {x : List Nat} (S : SlX W v x) : ∃ h : SlH, v = h.v ∧ h.n = x.length := by
  obtain ⟨a, c, rfl⟩ := S.lenN
  exact ⟨⟨a, x.length, c⟩, rfl, rfl⟩
theorem RX.slh {w : World} {b off : Nat} {ls : List SlH} (h : RX w b off ls) {i : Nat} (hi : i < ls.length) : w.cell? ⟨b, off + i, none⟩ = some ls[i].v := by
  have := h i hi 0 (by decide)
  rw [show Row.k SlH = 1 from rfl, Nat.mul_one, Nat.add_zero] at this
  exact this
/-- A slice of slices that a call has made. -/
def NewL (w : World) (xs : List (List Nat)) (e : Ending) (w' : World) : Prop := ∃ v hs, e = .returned v ∧ SlX w' v hs ∧ Hds w' hs xs ∧ Below w.heap.size w w'
theorem new_slh (W : World) (h : SlH) (t : TypeId) : ∀ j, j < Row.k SlH → (W.alloc (.cells #[h.v] t)).cell? ⟨W.heap.size, j, none⟩ = (Row.enc h)[j]? := fun j hj => by
  rw [cell_of_row _ _ _ _ _ _ (heap_alloc_new W _)]
  match j, hj with
  | 0, _ => rfl
theorem ext_len (n : Nat) (b : List Nat) : (St.ext n b).length ≤ n := by unfold St.ext; rw [List.length_map, List.length_range']; omega
theorem flat_len (n : Nat) : ∀ L : List (List Nat), (L.flatMap (St.ext n)).length ≤ L.length * n
  | [] => by simp
  | b :: L => by
    rw [List.flatMap_cons, List.length_append, List.length_cons, Nat.add_mul, Nat.one_mul]
    have := flat_len n L
    have := ext_len n b
    omega
theorem lst_len {n : Nat} (hn : n ≤ 10) : ∀ k, (St.lst n k).length ≤ 10 ^ k
  | 0 => by simp [St.lst]
  | k + 1 => by
    have h1 := flat_len n (St.lst n k)
    have h2 := lst_len hn k
    have h3 : (St.lst n k).length * n ≤ 10 ^ k * 10 := Nat.mul_le_mul h2 hn
    rw [Nat.pow_succ]
    exact Nat.le_trans h1 h3
theorem flat_step {n : Nat} {L : List (List Nat)} {i : Nat} (h : i < L.length) : (L.take (i + 1)).flatMap (St.ext n) = (L.take i).flatMap (St.ext n) ++ St.ext n L[i] := by
  rw [List.take_succ_eq_append_getElem h, List.flatMap_append]; simp
/-- A part of the lists that go on from one. -/
def extP (x : List Nat) (m : Nat) : List (List Nat) := (List.range' (St.nxt x) m).map fun i => x ++ [i]
theorem extP_step (x : List Nat) (m : Nat) : extP x (m + 1) = extP x m ++ [x ++ [St.nxt x + m]] := by
  unfold extP; rw [List.range'_concat, List.map_append]; simp
theorem extP_all (n : Nat) (x : List Nat) : extP x (n - St.nxt x) = St.ext n x := rfl
theorem extP_len (x : List Nat) (m : Nat) : (extP x m).length = m := by unfold extP; rw [List.length_map, List.length_range']
theorem nxt_last {x : List Nat} (h : 0 < x.length) : St.nxt x = nA x (x.length - 1) + 1 := by
  unfold St.nxt
  rw [nA_get (by omega), List.getLast?_eq_getElem?, List.getElem?_eq_getElem (by omega)]
theorem own_blk {α : Type} [Row α] {e : TypeId} {W : World} {base : Nat} {v : Value} {xs : List α} (h : OwX e W base v xs) : ∀ k, v.ownBlock = some k → base ≤ k ∧ k < W.heap.size := fun k hk => by
  rcases h.2 with ⟨rfl, -⟩ | ⟨g, cap, cur, rfl, h1, h2, -⟩
  · cases hk
  · obtain rfl : g = k := Option.some.inj hk
    exact ⟨h1, (Array.getElem?_eq_some_iff.1 h2).1⟩
/-- An own row of slices; the slices lie elsewhere. -/
structure LoO (base : Nat) (W : World) (sv : Value) (hs : List SlH) (xs : List (List Nat)) : Prop where
  own : OwX 29 W base sv hs
  keep : ∀ W', Kp sv.ownBlock W W' → Hds W' hs xs
theorem LoO.nil (base : Nat) (W : World) : LoO base W (.slice none 0 0) [] [] := ⟨OwX.nil _ _ _, fun _ _ => Hds.nil _⟩
theorem LoO.later {base : Nat} {W W2 : World} {sv : Value} {hs : List SlH} {xs : List (List Nat)} (h : LoO base W sv hs xs) (hb : Below W.heap.size W W2) : LoO base W2 sv hs xs := ⟨h.own.later hb, fun W' k => h.keep W' ((Kp.of hb).trans k)⟩
theorem LoO.snoc {base : Nat} {W w4 : World} {sv sv' : Value} {hs : List SlH} {xs : List (List Nat)} (h : LoO base W sv hs xs) {a : SlH} {x : List Nat} (hx : ∀ W', Kp sv.ownBlock W W' → SlX W' a.v x)
    (ho : OwX 29 w4 base sv' (hs ++ [a])) (hk : Kp sv.ownBlock W w4) (hn : sv'.ownBlock = sv.ownBlock ∨ sv'.ownBlock = some W.heap.size) : LoO base w4 sv' (hs ++ [a]) (xs ++ [x]) := by
  refine ⟨ho, fun W' k => ?_⟩
  have k2 : Kp sv.ownBlock W W' := ⟨k.os.trans hk.os, k.tape.trans hk.tape, k.output.trans hk.output, Nat.le_trans hk.size k.size, fun q hq hne => by
    rw [k.block q (Nat.lt_of_lt_of_le hq hk.size) ?_, hk.block q hq hne]
    rcases hn with e | e
    · rw [e]; exact hne
    · rw [e]; intro e2; have := Option.some.inj e2; omega⟩
  exact (h.keep W' k2).snoc (hx W' k2)
/-- A list made after the row lies elsewhere. -/
theorem LoO.apart {base : Nat} {W0 W W' : World} {sv : Value} {hs : List SlH} {xs : List (List Nat)} (h : LoO base W0 sv hs xs) {v : Value} {x : List Nat} (hv : OwX 3 W W0.heap.size v x) (k : Kp sv.ownBlock W W') : SlX W' v x := by
  refine (own_keep hv fun q hq => ?_).sl
  obtain ⟨h1, h2⟩ := own_blk hv q hq
  exact k.block q h2 fun e => by have := (own_blk h.own q e.symm).2; omega
/-- One element appended; what else is changed. -/
theorem wpList_app_kp {α : Type} [Row α] {P : Program} {w : World} {ops : Array Oper} {rest : List Oper} {o : Oper} {a : Act} {Q : Exit → Act → World → Prop} (hgd : o.guard = none) (s x : Operand) (t e : TypeId)
    (ho : o.op = .call { callee := .builtin .append, args := #[s, x], argTypes := #[t, t] }) (ht : P.underlying t = some (.slice e)) (z : Value) (by_ : Nat) (hby : 1 ≤ by_)
    (hi : (P.info? e).map (fun i => (i.zero, i.size, i.bytes)) = some (some z, Row.k α, by_)) (hz : z.cells.size = Row.k α) (base : Nat) (v : Value) (ls : List α) (hs : a.eval s = v) (hown : OwX e w base v ls)
    (b : Nat) (l : α) (hx : a.eval x = .slice (some ⟨b, 0, none⟩) 1 1) (hc : ∀ j, j < Row.k α → w.cell? ⟨b, j, none⟩ = (Row.enc l)[j]?) (hn : (ls.length + 1) * by_ ≤ 140737488355328) (hbase : base ≤ w.heap.size)
    (h : ∀ v' w', OwX e w' base v' (ls ++ [l]) → Kp v.ownBlock w w' → (v'.ownBlock = v.ownBlock ∨ v'.ownBlock = some w.heap.size) → wpList P ops Q rest (a.put o.dst v') w') : wpList P ops Q (o :: rest) a w := by
  obtain ⟨i0, hi0, hz0, hz1, hz2⟩ := info_parts hi
  refine wpList_append_own_at w hgd s x t ho base e i0 z (Row.k α) by_ ht hi0 hz0 hz1 hz2 hz Row.pos v ls.length (rcells ls) hs hown ⟨b, 0, none⟩ 1 1 (Row.enc l) hx (by rw [Row.len, Nat.one_mul]) ?_ (Row.one l) ?_ ?_ hbase ?_
  · intro j u hu
    have hj : j < Row.k α := by rw [← Row.len l]; exact (List.getElem?_eq_some_iff.1 hu).1
    rw [show (⟨b, 0, none⟩ : Addr).add j = ⟨b, j, none⟩ by (simp [Addr.add]; try (intro e; exact e.symm)), hc j hj, hu]
  · have := Nat.le_mul_of_pos_right (ls.length + 1) hby
    unfold maxLen; omega
  · exact hn
  · intro v' w' h1 h2 _ h4
    refine h v' w' ?_ ⟨h2.os, h2.tape, h2.output, h2.size, h2.block⟩ h4
    unfold OwX
    rw [List.length_append, rcells_app, rcells_one]
    exact h1
end Go.Proofs.Wk
