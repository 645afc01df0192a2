/- LISTS OF TEXTS THAT A CALL MAKES BY APPENDING. -/
import Derived.Test.YtjljappilpkelaaGreatDoorWhT
import Derived.Laws.AppendOwn
import Derived.Laws.OwnMore
import Derived.Deep.AppendLies
namespace Go.Proofs.Wk
open Go.RowKit Mt

abbrev txt (l : Txt) : Value := .string ⟨l.toArray⟩
def OwT (e : TypeId) (w : World) (base : Nat) (v : Value) (ls : List Txt) : Prop := w.ownsRow base e 1 v ls.length (ls.map txt)
theorem OwT.nil (e : TypeId) (w : World) (base : Nat) : OwT e w base (.slice none 0 0) [] := World.ownsRow_nil w base e 1
theorem OwT.zero (e : TypeId) (w : World) : OwT e (w.alloc (.cells #[] e)) w.heap.size (.slice (some ⟨w.heap.size, 0, none⟩) 0 0) [] :=
  World.ownsRow_lit (base := w.heap.size) (e := e) (size := 1) w #[] 0 (Nat.le_refl _) (by decide) rfl
theorem OwT.one (e : TypeId) (w : World) (l : Txt) : OwT e (w.alloc (.cells #[txt l] e)) w.heap.size (.slice (some ⟨w.heap.size, 0, none⟩) 1 1) [l] :=
  World.ownsRow_lit (base := w.heap.size) (e := e) (size := 1) w #[txt l] 1 (Nat.le_refl _) (by decide) rfl
theorem OwT.later {e : TypeId} {w w' : World} {base : Nat} {v : Value} {ls : List Txt} (h : OwT e w base v ls) (hb : Below w.heap.size w w') : OwT e w' base v ls := by
  obtain ⟨h1, h2⟩ := h
  refine ⟨h1, ?_⟩
  rcases h2 with h2 | ⟨g, cap, cur, e1, e2, e3, e4⟩
  · exact .inl h2
  · exact .inr ⟨g, cap, cur, e1, e2, by rw [hb.block g (Array.getElem?_eq_some_iff.1 e3).1]; exact e3, e4⟩
theorem OwT.base {e : TypeId} {w : World} {b b' : Nat} {v : Value} {ls : List Txt} (h : OwT e w b v ls) (hb : b' ≤ b) : OwT e w b' v ls := by
  obtain ⟨h1, h2⟩ := h
  refine ⟨h1, ?_⟩
  rcases h2 with h2 | ⟨g, cap, cur, e1, e2, e3⟩
  · exact .inl h2
  · exact .inr ⟨g, cap, cur, e1, Nat.le_trans hb e2, e3⟩
theorem OwT.sl {e : TypeId} {w : World} {base : Nat} {v : Value} {ls : List Txt} (h : OwT e w base v ls) : SlS w v ls := by
  obtain ⟨h1, h2⟩ := h
  rcases h2 with ⟨rfl, h2⟩ | ⟨g, cap, cur, rfl, e2, e3, e4, e5, e6, e7⟩
  · exact .inl ⟨none, 0, rfl, List.length_eq_zero_iff.1 h2⟩
  · refine .inr ⟨g, 0, cap, rfl, fun j hj => ?_, (Array.getElem?_eq_some_iff.1 e3).1⟩
    rw [Nat.zero_add, cell_of_row w g j _ _ _ e3]
    have : (cur.toList.take (ls.length * 1))[j]? = (ls.map txt)[j]? := by rw [e7]
    rw [List.getElem?_take, if_pos (by omega)] at this
    simpa [hj] using this
theorem wpList_app_txt {P : Program} {w : World} {ops : Array Oper} {rest : List Oper} {o : Oper} {a : Act} {Q : Exit → Act → World → Prop} (hgd : o.guard = none) (s x : Operand) (t e : TypeId)
    (ho : o.op = .call { callee := .builtin .append, args := #[s, x], argTypes := #[t, t] }) (ht : P.underlying t = some (.slice e))
    (hi : (P.info? e).map (fun i => (i.zero, i.size, i.bytes)) = some (some (.string ⟨#[]⟩), 1, 16)) (base : Nat) (v : Value) (ls : List Txt) (hs : a.eval s = v) (hown : OwT e w base v ls)
    (b : Nat) (l : Txt) (hx : a.eval x = .slice (some ⟨b, 0, none⟩) 1 1) (hc : w.cell? ⟨b, 0, none⟩ = some (txt l)) (hn : ls.length ≤ 1000000) (hbase : base ≤ w.heap.size)
    (h : ∀ v' w', OwT e w' base v' (ls ++ [l]) → Below base w w' → wpList P ops Q rest (a.put o.dst v') w') : wpList P ops Q (o :: rest) a w := by
  obtain ⟨i0, hi0, hz0, hz1, hz2⟩ := info_parts hi
  refine wpList_append_own w hgd s x t ho base e i0 (.string ⟨#[]⟩) 1 16 ht hi0 hz0 hz1 hz2 rfl (by decide) v ls.length (ls.map txt) hs hown ⟨b, 0, none⟩ 1 1 [txt l] hx rfl ?_ ?_ ?_ ?_ hbase ?_
  · intro j u hu
    match j, hu with
    | 0, hu =>
      obtain rfl : txt l = u := Option.some.inj hu
      simpa [Addr.add] using hc
  · intro u hu
    rw [List.mem_singleton.1 hu]; rfl
  · unfold maxLen; omega
  · omega
  · intro v' w' h1 h2 _
    refine h v' w' ?_ ?_
    · unfold OwT
      rw [List.length_append, List.map_append]
      exact h1
    · refine ⟨h2.os, h2.tape, h2.output, h2.size, fun k hk => h2.block k (by omega) ?_⟩
      intro e1
      have := (World.ownsRow.lt hown k e1.symm).1
      omega
/-- The same for a region that draws its order. -/
theorem step_app_txt {P : Program} (w : World) {ops : Array Oper} {o : Oper} {a : Act} {K : Act → World → Prop} {Q : Exit → Act → World → Prop} {E : Prop} (hgd : o.guard = none) (s x : Operand) (t e : TypeId)
    (ho : o.op = .call { callee := .builtin .append, args := #[s, x], argTypes := #[t, t] }) (ht : P.underlying t = some (.slice e))
    (hi : (P.info? e).map (fun i => (i.zero, i.size, i.bytes)) = some (some (.string ⟨#[]⟩), 1, 16)) (base : Nat) (v : Value) (ls : List Txt) (hs : a.eval s = v) (hown : OwT e w base v ls)
    (b : Nat) (l : Txt) (hx : a.eval x = .slice (some ⟨b, 0, none⟩) 1 1) (hc : w.cell? ⟨b, 0, none⟩ = some (txt l)) (hn : ls.length ≤ 1000000) (hbase : base ≤ w.heap.size)
    (h : ∀ g cap w', OwT e w' base (.slice (some ⟨g, 0, none⟩) (ls.length + 1) cap) (ls ++ [l]) → Below base w w' → K (a.put o.dst (.slice (some ⟨g, 0, none⟩) (ls.length + 1) cap)) w') :
    if Region.wanted o (yielded ops a.tmps) = true then Oper.wp P o a w K Q else E := by
  obtain ⟨i0, hi0, hz0, hz1, hz2⟩ := info_parts hi
  refine step_append_lies w hgd s x t ho base e i0 (.string ⟨#[]⟩) 1 16 ht hi0 hz0 hz1 hz2 rfl (by decide) v ls.length (ls.map txt) hs hown ⟨b, 0, none⟩ 1 1 [txt l] hx rfl ?_ ?_ (by decide) ?_ ?_ hbase _ rfl ?_
  · intro j u hu
    match j, hu with
    | 0, hu =>
      obtain rfl : txt l = u := Option.some.inj hu
      simpa [Addr.add] using hc
  · intro u hu
    rw [List.mem_singleton.1 hu]; rfl
  · unfold maxLen; omega
  · omega
  · intro g cap w' h1 h2 _ _
    refine h g cap w' ?_ ?_
    · unfold OwT
      rw [List.length_append, List.map_append]
      exact h1
    · refine ⟨h2.os, h2.tape, h2.output, h2.size, fun k hk => h2.block k (by omega) ?_⟩
      intro e1
      have := (World.ownsRow.lt hown k e1.symm).1
      omega
end Go.Proofs.Wk
