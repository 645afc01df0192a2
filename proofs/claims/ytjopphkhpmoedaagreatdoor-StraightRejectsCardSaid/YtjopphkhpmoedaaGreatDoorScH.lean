/- STRAIGHTNESS: rows cloned, and one element deleted. -/
import Derived.Test.YtjopphkhpmoedaaGreatDoorScG
import Derived.Deep.RegionLaw
import Derived.Lib.SliceRun
import Derived.Laws.IdiomCopy
namespace Go.Proofs.Wk
open Go.RowKit Go.Lib Mt

theorem run_clear_one {P : Program} (w : World) (t e ty : TypeId) (z : Value) (cs : List Value) (ht : P.underlying t = some (.slice e)) (hv : ∀ w, (zeroValue e).run P w = .ok z w) (hz : (Builtin.zeroCells z.cells 1).toList = cs) (h1 : ∀ u ∈ cs, u.oneCell' = true) (b o c : Nat)
    (hc : ∀ j, j < cs.length → (w.cell? ⟨b, o + j, none⟩).isSome = true) (hf : ∀ j, j < cs.length → w.frozen? ⟨b, o + j, none⟩ = false) :
    (Builtin.clear_ #[t] ty #[.slice (some ⟨b, o, none⟩) 1 c]).run P w = .ok (.tuple #[]) (w.setCells b o cs) := by
  have hst := run_storeCells_cells (P := P) b o cs 0 w (by simpa using hc) (by simpa using hf) (by intro v hv'; exact h1 v hv')
  simp only [Nat.add_zero] at hst
  simp [Builtin.clear_, run_underlying ht, hv, hz, hst]
theorem zero_run {P : Program} {t : TypeId} {z : Value} {s b : Nat} (h : (P.info? t).map (fun i => (i.zero, i.size, i.bytes)) = some (some z, s, b)) : ∀ w, (zeroValue t).run P w = .ok z w := by
  obtain ⟨i, hi, hz, -⟩ := info_parts h
  intro w
  have := run_typeInfo (P := P) w hi
  simp [zeroValue, this, hz, Result.andThen]
section
variable {α : Type} [Row α]
theorem rcells_drop (ls : List α) (i : Nat) : (rcells ls).drop (i * Row.k α) = rcells (ls.drop i) := by
  by_cases h : i ≤ ls.length
  · rw [rcells_split ls i, List.drop_left' (rcells_tl ls h)]
  · rw [List.drop_eq_nil_of_le (by rw [rcells_len]; exact Nat.mul_le_mul_right _ (by omega)), List.drop_eq_nil_of_le (by omega)]; rfl
/-- The cells of a list without one element. -/
theorem rcells_erase (ls : List α) (i : Nat) : rcells (ls.eraseIdx i) = rcells (ls.take i) ++ rcells (ls.drop (i + 1)) := by rw [List.eraseIdx_eq_take_drop_succ, rcells_app]
/-- Both steps of a deletion: what lies there behind them. -/
theorem del_cells {w : World} {g : Nat} {ls : List α} {i : Nat} (hi : i < ls.length) (hc : ∀ j u, (rcells ls)[j]? = some u → w.cell? ⟨g, j, none⟩ = some u) (zs : List Value) :
    ∀ j u, (rcells (ls.eraseIdx i))[j]? = some u → ((w.setCells g (i * Row.k α) (rcells (ls.drop (i + 1)))).setCells g ((ls.length - 1) * Row.k α) zs).cell? ⟨g, j, none⟩ = some u := by
  intro j u hu
  have hk := Row.pos (α := α)
  have hlen : (rcells (ls.drop (i + 1))).length = (ls.length - (i + 1)) * Row.k α := rcells_dl ls (i + 1)
  have hlt := (List.getElem?_eq_some_iff.1 hu).1
  have e1 : (rcells (ls.eraseIdx i)).length = (ls.length - 1) * Row.k α := by rw [rcells_len, List.length_eraseIdx_of_lt hi]
  rw [e1] at hlt
  rw [World.cell?_setCells_out g zs _ _ _ (fun _ _ => .inl hlt)]
  have e2 : (rcells (ls.take i)).length = i * Row.k α := rcells_tl ls (by omega)
  have e3 : (ls.length - 1) * Row.k α = i * Row.k α + (ls.length - (i + 1)) * Row.k α := by rw [← Nat.add_mul]; congr 1; omega
  rw [rcells_erase ls i] at hu
  by_cases hj : j < i * Row.k α
  · rw [World.cell?_setCells_out g _ _ _ _ (fun _ _ => .inl hj)]
    rw [List.getElem?_append_left (by rw [e2]; exact hj)] at hu
    refine hc j u ?_
    rw [rcells_split ls i, List.getElem?_append_left (by rw [e2]; exact hj)]
    exact hu
  · obtain ⟨m, rfl⟩ : ∃ m, j = i * Row.k α + m := ⟨j - i * Row.k α, by omega⟩
    rw [List.getElem?_append_right (by rw [e2]; omega), e2, Nat.add_sub_cancel_left] at hu
    have hm := (List.getElem?_eq_some_iff.1 hu)
    rw [World.cell?_setCells_in g _ _ _ (fun q hq => ?_) m hm.1, hm.2]
    have hq2 : i * Row.k α + q < (rcells ls).length := by
      rw [rcells_len]
      rw [hlen] at hq
      have : (i + 1) * Row.k α ≤ ls.length * Row.k α := Nat.mul_le_mul_right _ (by omega)
      rw [Nat.sub_mul] at hq
      rw [Nat.add_mul, Nat.one_mul] at this hq
      omega
    rw [hc _ _ (List.getElem?_eq_getElem hq2)]; rfl
theorem RX.of_cells {w : World} {b : Nat} {ls : List α} (h : ∀ j u, (rcells ls)[j]? = some u → w.cell? ⟨b, j, none⟩ = some u) : RX w b 0 ls := fun i hi j hj => by
  have e := rcells_at ls i hi j hj
  have hl : j < (Row.enc ls[i]).length := by rw [Row.len]; exact hj
  rw [List.getElem?_eq_getElem hl] at e ⊢
  rw [Nat.zero_add]
  exact h _ _ e
end
theorem below_cells {B : Nat} {a : World} {g : Nat} (hg : B ≤ g) : ∀ (vs : List Value) (o : Nat) (w : World), Below B a w → Below B a (w.setCells g o vs)
  | [], _, _, h => h
  | v :: r, o, _, h => below_cells hg r (o + 1) _ (h.cel hg v)
/-- What a deletion returns. -/
def DelR {α : Type} [Row α] (w : World) (base : Nat) (xs : List α) (e : Ending) (w' : World) : Prop := ∃ v', e = .returned v' ∧ SlX w' v' xs ∧ Below base w w'
set_option maxRecDepth 100000 in
set_option maxHeartbeats 4000000 in
theorem deleteN_c {v : Value} (ls : List Nat) (i j : Nat) (hj : j = i + 1) (w : World) (base : Nat) (O : OwX 3 w base v ls) (hi : i < ls.length) (hn : ls.length ≤ 1000) :
    Calls Tryz.prog 27 #[v, .int .i64 (i : Int), .int .i64 (j : Int)] w (DelR w base (ls.eraseIdx i)) := by
  obtain ⟨i0, hi0, hz0, hz1, hz2⟩ := info_parts (show (Tryz.prog.info? 3).map (fun i => (i.zero, i.size, i.bytes)) = some (some natZ, 1, 8) by kernel_rfl)
  rcases O.2 with ⟨rfl, h0⟩ | ⟨g, cap, cur, rfl, e2, e3, e4, e5, e6, e7⟩
  · omega
  have hcs := (RX.of_row e3 e7).cells
  simp only [Nat.zero_add] at hcs
  have hfz := fun j => frozen_of_row w g j _ _ e3
  have hgl := (Array.getElem?_eq_some_iff.1 e3).1
  obtain ⟨news, hnews⟩ : ∃ news, news = rcells (ls.drop j) := ⟨_, rfl⟩
  have hlen : news.length = (ls.length - j) * 1 := by rw [hnews]; exact rcells_dl ls j
  have hcm : cap ≤ 9223372036854775807 := e5
  obtain ⟨A, hA, hsrc⟩ : ∃ A : Addr, (if cap = j then some (⟨g, 0, none⟩ : Addr) else some ⟨g, j, none⟩) = some A ∧ Hid (∀ t u, news[t]? = some u → w.drew.cell? (A.add t) = some u) := by
    by_cases h : cap = j
    · refine ⟨⟨g, 0, none⟩, by simp [h], fun t u hu => ?_⟩
      have h0 : news.length = 0 := by rw [hlen]; omega
      rw [List.length_eq_zero_iff.1 h0] at hu
      simp at hu
    · refine ⟨⟨g, j, none⟩, by simp [h], fun t u hu => ?_⟩
      rw [hnews, ← rcells_drop, List.getElem?_drop] at hu
      rw [Addr.add_lit]
      have := hcs _ _ hu
      rwa [show j * Row.k Nat + t = j + t from congrArg (· + t) (Nat.mul_one _)] at this
  have s2 : Hid (∀ u ∈ news, u.oneCell' = true) := by
    intro u hu
    rw [hnews] at hu
    obtain ⟨x, _, hx⟩ := List.mem_flatMap.1 hu
    exact Row.one x u hx
  have s3 : Hid (∀ t, t < news.length → (w.drew.cell? ⟨g, 0 + i * 1 + t, none⟩).isSome = true ∧ w.drew.frozen? ⟨g, 0 + i * 1 + t, none⟩ = false) := by
    intro t ht
    rw [hlen] at ht
    have hq : i + t < (rcells ls).length := by rw [rcells_len]; show i + t < ls.length * 1; omega
    refine ⟨?_, hfz _⟩
    show (w.cell? _).isSome = true
    rw [show 0 + i * 1 + t = i + t by omega, hcs _ _ (List.getElem?_eq_getElem hq)]; rfl
  have hdel := del_cells (w := w.drew) hi hcs [.int .i64 0]
  rw [← hj, ← hnews, show Row.k Nat = 1 from rfl, Nat.mul_one, Nat.mul_one] at hdel
  obtain ⟨W1, hW1⟩ : ∃ W1, W1 = w.drew.setCells g (i * 1) news := ⟨_, rfl⟩
  have hW : Hid (W1 = w.drew.setCells g (0 + i * 1) news) := by rw [Nat.zero_add]; exact hW1
  have hic : i ≤ cap := by omega
  have hjc : j ≤ cap := by omega
  have hjl : j ≤ ls.length := by omega
  have hij : i ≤ j := by omega
  have hne : ((i : Int) == (j : Int)) = false := beq_eq_false_iff_ne.2 (by omega)
  have hne2 : ¬ i = j := by omega
  have hjj := Lib.hid hj
  have s1 := Lib.hid hlen
  have HX := Lib.hid hdel
  have HE3 := Lib.hid e3
  have HO := Lib.hid O
  have HCS := Lib.hid hcs
  have HFZ := Lib.hid hfz
  clear hW1 hdel hcs hfz e3 e7 O hnews hlen hj
  have mixed : Tryz.prog.follows Departure.mixedOrders = true := by kernel_rfl
  go_enter Tryz.func27, Tryz.ntmps27
  go_wp2_with fail
  go_region_law_o (refine step_append_room rfl (.tmp 22) (.tmp 25) 29 rfl 3 i0 1 Tryz.underlying29 hi0 hz1 g 0 i cap (by simp [Act.eval, Act.put]) A (ls.length - j) (cap - j) news (by simp [Act.eval, Act.put]) s1.out hsrc.out s2.out (by omega) s3.out ?_; rw [← hW.out])
  have hm : i + (ls.length - j) = ls.length - 1 := by have := hjj.out; omega
  have hcl : ∀ ty, (Builtin.clear_ #[29] ty #[.slice (some ⟨g, i + (ls.length - j), none⟩) (ls.length - (i + (ls.length - j))) (cap - (i + (ls.length - j)))]).run Tryz.prog W1 = .ok (.tuple #[]) (W1.setCells g (i + (ls.length - j)) [.int .i64 0]) := fun ty => by
    rw [show ls.length - (i + (ls.length - j)) = 1 by omega]
    refine run_clear_one W1 _ 3 ty natZ [.int .i64 0] Tryz.underlying29 (zero_run (s := 1) (b := 8) (by kernel_rfl)) (by simp [Builtin.zeroCells, Value.cells]) (fun u hu => by rw [List.mem_singleton.1 hu]; rfl) g _ _ (fun k hk => ?_) (fun k _ => ?_)
    · rw [hW.out, World.cell?_setCells_out g _ _ _ _ (fun _ _ => .inr (by rw [s1.out]; simp at hk; subst hk; simp))]
      show (w.cell? _).isSome = true
      have hq : i + (ls.length - j) + k < (rcells ls).length := by rw [rcells_len]; show _ < ls.length * 1; simp at hk; omega
      rw [HCS.out _ _ (List.getElem?_eq_getElem hq)]; rfl
    · rw [hW.out, World.frozen?_setCells]; exact HFZ.out _
  rw [hm] at hcl ⊢
  go_wp2
  go_ret
  refine ⟨.slice (some ⟨g, 0, none⟩) (ls.length - 1) cap, rfl, .inr ⟨g, 0, cap, by rw [List.length_eraseIdx_of_lt hi], RX.of_cells ?_, ?_⟩, ?_⟩
  · have h2 := HX.out
    rw [hW.out, Nat.zero_add, Nat.mul_one]
    exact h2
  · have hb := below_cells (Nat.le_refl g) [.int .i64 0] (ls.length - 1) W1 (Below.refl _ _)
    have hb2 := below_cells (Nat.le_refl g) news (0 + i * 1) w.drew (Below.refl _ _)
    rw [← hW.out] at hb2
    exact Nat.lt_of_lt_of_le hgl (Nat.le_trans hb2.size hb.size)
  · refine below_cells e2 _ _ _ ?_
    rw [hW.out]
    exact below_cells e2 _ _ _ (Below.refl _ _).drew
set_option maxRecDepth 100000 in
set_option maxHeartbeats 4000000 in
theorem deleteP_c {v : Value} (ls : List St.Pt) (i j : Nat) (hj : j = i + 1) (w : World) (base : Nat) (O : OwX 37 w base v ls) (hi : i < ls.length) (hn : ls.length ≤ 1000) :
    Calls Tryz.prog 35 #[v, .int .i64 (i : Int), .int .i64 (j : Int)] w (DelR w base (ls.eraseIdx i)) := by
  obtain ⟨i0, hi0, hz0, hz1, hz2⟩ := info_parts (show (Tryz.prog.info? 37).map (fun i => (i.zero, i.size, i.bytes)) = some (some ptZ, 2, 16) by kernel_rfl)
  rcases O.2 with ⟨rfl, h0⟩ | ⟨g, cap, cur, rfl, e2, e3, e4, e5, e6, e7⟩
  · omega
  have hcs := (RX.of_row e3 e7).cells
  simp only [Nat.zero_add] at hcs
  have hfz := fun j => frozen_of_row w g j _ _ e3
  have hgl := (Array.getElem?_eq_some_iff.1 e3).1
  obtain ⟨news, hnews⟩ : ∃ news, news = rcells (ls.drop j) := ⟨_, rfl⟩
  have hlen : news.length = (ls.length - j) * 2 := by rw [hnews]; exact rcells_dl ls j
  have hcm : cap ≤ 9223372036854775807 := e5
  obtain ⟨A, hA, hsrc⟩ : ∃ A : Addr, (if cap = j then some (⟨g, 0, none⟩ : Addr) else some ⟨g, j * 2, none⟩) = some A ∧ Hid (∀ t u, news[t]? = some u → w.drew.cell? (A.add t) = some u) := by
    by_cases h : cap = j
    · refine ⟨⟨g, 0, none⟩, by simp [h], fun t u hu => ?_⟩
      have h0 : news.length = 0 := by rw [hlen]; omega
      rw [List.length_eq_zero_iff.1 h0] at hu
      simp at hu
    · refine ⟨⟨g, j * 2, none⟩, by simp [h], fun t u hu => ?_⟩
      rw [hnews, ← rcells_drop, List.getElem?_drop] at hu
      rw [Addr.add_lit]
      have := hcs _ _ hu
      exact this
  have s2 : Hid (∀ u ∈ news, u.oneCell' = true) := by
    intro u hu
    rw [hnews] at hu
    obtain ⟨x, _, hx⟩ := List.mem_flatMap.1 hu
    exact Row.one x u hx
  have s3 : Hid (∀ t, t < news.length → (w.drew.cell? ⟨g, 0 + i * 2 + t, none⟩).isSome = true ∧ w.drew.frozen? ⟨g, 0 + i * 2 + t, none⟩ = false) := by
    intro t ht
    rw [hlen] at ht
    have hq : i * 2 + t < (rcells ls).length := by rw [rcells_len]; show i * 2 + t < ls.length * 2; omega
    refine ⟨?_, hfz _⟩
    show (w.cell? _).isSome = true
    rw [show 0 + i * 2 + t = i * 2 + t by omega, hcs _ _ (List.getElem?_eq_getElem hq)]; rfl
  have hdel := del_cells (w := w.drew) hi hcs [.int .i64 0, .int .i64 0]
  rw [← hj, ← hnews, show Row.k St.Pt = 2 from rfl] at hdel
  obtain ⟨W1, hW1⟩ : ∃ W1, W1 = w.drew.setCells g (i * 2) news := ⟨_, rfl⟩
  have hW : Hid (W1 = w.drew.setCells g (0 + i * 2) news) := by rw [Nat.zero_add]; exact hW1
  have hic : i ≤ cap := by omega
  have hjc : j ≤ cap := by omega
  have hjl : j ≤ ls.length := by omega
  have hij : i ≤ j := by omega
  have hne : ((i : Int) == (j : Int)) = false := beq_eq_false_iff_ne.2 (by omega)
  have hne2 : ¬ i = j := by omega
  have hjj := Lib.hid hj
  have s1 := Lib.hid hlen
  have HX := Lib.hid hdel
  have HE3 := Lib.hid e3
  have HO := Lib.hid O
  have HCS := Lib.hid hcs
  have HFZ := Lib.hid hfz
  clear hW1 hdel hcs hfz e3 e7 O hnews hlen hj
  have mixed : Tryz.prog.follows Departure.mixedOrders = true := by kernel_rfl
  go_enter Tryz.func35, Tryz.ntmps35
  go_wp2_with fail
  go_region_law_o (refine step_append_room rfl (.tmp 22) (.tmp 25) 22 rfl 37 i0 2 Tryz.underlying22 hi0 hz1 g 0 i cap (by simp [Act.eval, Act.put]) A (ls.length - j) (cap - j) news (by simp [Act.eval, Act.put]) s1.out hsrc.out s2.out (by omega) s3.out ?_; rw [← hW.out])
  have hm : i + (ls.length - j) = ls.length - 1 := by have := hjj.out; omega
  have hcl : ∀ ty, (Builtin.clear_ #[22] ty #[.slice (some ⟨g, (i + (ls.length - j)) * 2, none⟩) (ls.length - (i + (ls.length - j))) (cap - (i + (ls.length - j)))]).run Tryz.prog W1 = .ok (.tuple #[]) (W1.setCells g ((i + (ls.length - j)) * 2) [.int .i64 0, .int .i64 0]) := fun ty => by
    rw [show ls.length - (i + (ls.length - j)) = 1 by omega]
    refine run_clear_one W1 _ 37 ty ptZ [.int .i64 0, .int .i64 0] Tryz.underlying22 (zero_run (s := 2) (b := 16) (by kernel_rfl)) (by simp [Builtin.zeroCells, Value.cells]; rfl) (fun u hu => by simp at hu; rw [hu]; rfl) g _ _ (fun k hk => ?_) (fun k _ => ?_)
    · rw [hW.out, World.cell?_setCells_out g _ _ _ _ (fun _ _ => .inr (by rw [s1.out]; simp at hk; simp; omega))]
      show (w.cell? _).isSome = true
      have hq : (i + (ls.length - j)) * 2 + k < (rcells ls).length := by rw [rcells_len]; show _ < ls.length * 2; simp at hk; omega
      rw [HCS.out _ _ (List.getElem?_eq_getElem hq)]; rfl
    · rw [hW.out, World.frozen?_setCells]; exact HFZ.out _
  rw [hm] at hcl ⊢
  go_wp2
  go_ret
  refine ⟨.slice (some ⟨g, 0, none⟩) (ls.length - 1) cap, rfl, .inr ⟨g, 0, cap, by rw [List.length_eraseIdx_of_lt hi], RX.of_cells ?_, ?_⟩, ?_⟩
  · have h2 := HX.out
    rw [hW.out, Nat.zero_add]
    exact h2
  · have hb := below_cells (Nat.le_refl g) [.int .i64 0, .int .i64 0] ((ls.length - 1) * 2) W1 (Below.refl _ _)
    have hb2 := below_cells (Nat.le_refl g) news (0 + i * 2) w.drew (Below.refl _ _)
    rw [← hW.out] at hb2
    exact Nat.lt_of_lt_of_le hgl (Nat.le_trans hb2.size hb.size)
  · refine below_cells e2 _ _ _ ?_
    rw [hW.out]
    exact below_cells e2 _ _ _ (Below.refl _ _).drew
end Go.Proofs.Wk
