/- STRAIGHTNESS: right points, few. -/
import Derived.Test.YtjopphkhpmoedaaGreatDoorNN
import Derived.Deep.RegionLaw
import Derived.Lib.SliceRun
import Derived.Laws.IdiomCopy
namespace Go.Proofs.Wk
open Go.RowKit Mt

theorem keepR {w w' : World} {g : Nat} {o : Obj} (h : w.heap[g]? = some o) (hb : Below w.heap.size w w') : w'.heap[g]? = some o := (hb.block _ (Array.getElem?_eq_some_iff.1 h).1).trans h
def rightB (ls : List St.Pt) : Bool := decide (0 < ls.length) && (decide (ls.length ≤ 8) && decide (St.chkP ls = 0))
theorem rightB_iff {ls : List St.Pt} (h : rightB ls = true) : St.givP ls = 0 ∧ 0 < ls.length ∧ ls.length ≤ 8 ∧ ∀ p ∈ ls, St.InP p := by
  unfold rightB at h
  simp only [Bool.and_eq_true, decide_eq_true_eq] at h
  obtain ⟨h1, h2, h3⟩ := h
  have h0 : St.givP ls = 0 := givP_ok h3 (by omega)
  exact ⟨h0, h1, h2, (St.givP_in h0).2.2⟩
set_option maxRecDepth 100000 in
set_option maxHeartbeats 1000000 in
theorem right_c {v : Value} (ls : List St.Pt) (w : World) (S : SlX w v ls) (hln : ls.length ≤ 140737488355328) : Calls Tryz.prog 25 #[v] w (Ret w (.bool (rightB ls))) := by
  have HCK := Lib.hid (rpCheck_c ls w S hln)
  unfold rightB
  obtain ⟨sa, cap, rfl⟩ := S.len
  generalize St.chkP ls = E at *
  clear S
  generalize ls.length = n at *
  by_cases h1 : 0 < n
  · have z1 : (0 : Int) < (n : Int) := by omega
    rw [decide_eq_true h1]
    by_cases h2 : n ≤ 8
    · have z2 : (n : Int) ≤ 8 := by omega
      rw [decide_eq_true h2]
      have z3 : (E == 0) = decide (E = 0) := rfl
      generalize decide (E = 0) = q at *
      clear h1 h2 hln
      go_enter Tryz.func25, Tryz.ntmps25
      go_wp2_with fail
      ((with_reducible refine (HCK.out).mono ?_); rintro e w1 ⟨rfl, hb1⟩)
      go_wp2
      go_ret
      exact ⟨ret_bool (by simp), hb1⟩
    · have z2 : ¬ (n : Int) ≤ 8 := by omega
      rw [decide_eq_false h2]
      clear h1 h2 hln
      go_enter Tryz.func25, Tryz.ntmps25
      go_wp2
      go_ret
      exact ⟨ret_bool (by simp), Below.refl _ _⟩
  · have z1 : ¬ (0 : Int) < (n : Int) := by omega
    rw [decide_eq_false h1]
    clear h1 hln
    go_enter Tryz.func25, Tryz.ntmps25
    go_wp2
    go_ret
    exact ⟨ret_bool (by simp), Below.refl _ _⟩
end Go.Proofs.Wk
/- STRAIGHTNESS: rows cloned, and one element deleted. -/
namespace Go.Proofs.Wk
open Go.RowKit Go.Lib Mt

theorem run_clear_one {P : Program} (w : World) (t e ty : TypeId) (z : Value) (cs : List Value) (ht : P.underlying t = some (.slice e)) (hv : ∀ w, (zeroValue e).run P w = .ok z w) (hz : (Builtin.zeroCells z.cells 1).toList = cs) (h1 : ∀ u ∈ cs, u.oneCell' = true) (b o c : Nat)
    (hc : ∀ j, j < cs.length → (w.cell? ⟨b, o + j, none⟩).isSome = true) (hf : ∀ j, j < cs.length → w.frozen? ⟨b, o + j, none⟩ = false) :
    (Builtin.clear_ #[t] ty #[.slice (some ⟨b, o, none⟩) 1 c]).run P w = .ok (.tuple #[]) (w.setCells b o cs) := by
  have hst := run_storeCells_cells (P := P) b o cs 0 w (by simpa using hc) (by simpa using hf) (by intro v hv'; exact h1 v hv')
  simp only [Nat.add_zero] at hst
  simp [Builtin.clear_, run_underlying ht, hv, hz, hst]
theorem zero_run {P : Program} {t : TypeId} {z : Value} {s b : Nat} (h : (P.info? t).map (fun i => (i.zero, i.size, i.bytes)) = some (some z, s, b)) : ∀ w, (zeroValue t).run P w = .ok z w := by
  obtain ⟨i, hi, hz, -⟩ := info_parts h
  intro w
  have := run_typeInfo (P := P) w hi
  simp [zeroValue, this, hz, Result.andThen]
section
variable {α : Type} [Row α]
theorem rcells_drop (ls : List α) (i : Nat) : (rcells ls).drop (i * Row.k α) = rcells (ls.drop i) := by
  by_cases h : i ≤ ls.length
  · rw [rcells_split ls i, List.drop_left' (rcells_tl ls h)]
  · rw [List.drop_eq_nil_of_le (by rw [rcells_len]; exact Nat.mul_le_mul_right _ (by omega)), List.drop_eq_nil_of_le (by omega)]; rfl
/-- The cells of a list without one element. -/
theorem rcells_erase (ls : List α) (i : Nat) : rcells (ls.eraseIdx i) = rcells (ls.take i) ++ rcells (ls.drop (i + 1)) := by rw [List.eraseIdx_eq_take_drop_succ, rcells_app]
/-- Both steps of a deletion: what lies there behind them. -/
theorem del_cells {w : World} {g : Nat} {ls : List α} {i : Nat} (hi : i < ls.length) (hc : ∀ j u, (rcells ls)[j]? = some u → w.cell? ⟨g, j, none⟩ = some u) (zs : List Value) :
    ∀ j u, (rcells (ls.eraseIdx i))[j]? = some u → ((w.setCells g (i * Row.k α) (rcells (ls.drop (i + 1)))).setCells g ((ls.length - 1) * Row.k α) zs).cell? ⟨g, j, none⟩ = some u := by
  intro j u hu
  have hk := Row.pos (α := α)
  have hlen : (rcells (ls.drop (i + 1))).length = (ls.length - (i + 1)) * Row.k α := rcells_dl ls (i + 1)
  have hlt := (List.getElem?_eq_some_iff.1 hu).1
  have e1 : (rcells (ls.eraseIdx i)).length = (ls.length - 1) * Row.k α := by rw [rcells_len, List.length_eraseIdx_of_lt hi]
  rw [e1] at hlt
  rw [World.cell?_setCells_out g zs _ _ _ (fun _ _ => .inl hlt)]
  have e2 : (rcells (ls.take i)).length = i * Row.k α := rcells_tl ls (by omega)
  have e3 : (ls.length - 1) * Row.k α = i * Row.k α + (ls.length - (i + 1)) * Row.k α := by rw [← Nat.add_mul]; congr 1; omega
  rw [rcells_erase ls i] at hu
  by_cases hj : j < i * Row.k α
  · rw [World.cell?_setCells_out g _ _ _ _ (fun _ _ => .inl hj)]
    rw [List.getElem?_append_left (by rw [e2]; exact hj)] at hu
    refine hc j u ?_
    rw [rcells_split ls i, List.getElem?_append_left (by rw [e2]; exact hj)]
    exact hu
  · obtain ⟨m, rfl⟩ : ∃ m, j = i * Row.k α + m := ⟨j - i * Row.k α, by omega⟩
    rw [List.getElem?_append_right (by rw [e2]; omega), e2, Nat.add_sub_cancel_left] at hu
    have hm := (List.getElem?_eq_some_iff.1 hu)
    rw [World.cell?_setCells_in g _ _ _ (fun q hq => ?_) m hm.1, hm.2]
    have hq2 : i * Row.k α + q < (rcells ls).length := by
      rw [rcells_len]
      rw [hlen] at hq
      have : (i + 1) * Row.k α ≤ ls.length * Row.k α := Nat.mul_le_mul_right _ (by omega)
      rw [Nat.sub_mul] at hq
      rw [Nat.add_mul, Nat.one_mul] at this hq
      omega
    rw [hc _ _ (List.getElem?_eq_getElem hq2)]; rfl
theorem RX.of_cells {w : World} {b : Nat} {ls : List α} (h : ∀ j u, (rcells ls)[j]? = some u → w.cell? ⟨b, j, none⟩ = some u) : RX w b 0 ls := fun i hi j hj => by
  have e := rcells_at ls i hi j hj
  have hl : j < (Row.enc ls[i]).length := by rw [Row.len]; exact hj
  rw [List.getElem?_eq_getElem hl] at e ⊢
  rw [Nat.zero_add]
  exact h _ _ e
end
theorem below_cells {B : Nat} {a : World} {g : Nat} (hg : B ≤ g) : ∀ (vs : List Value) (o : Nat) (w : World), Below B a w → Below B a (w.setCells g o vs)
  | [], _, _, h => h
  | v :: r, o, _, h => below_cells hg r (o + 1) _ (h.cel hg v)
/-- What a deletion returns. -/
def DelR {α : Type} [Row α] (w : World) (base : Nat) (xs : List α) (e : Ending) (w' : World) : Prop := ∃ v', e = .returned v' ∧ SlX w' v' xs ∧ Below base w w'
set_option maxRecDepth 100000 in
set_option maxHeartbeats 4000000 in
theorem deleteN_c {v : Value} (ls : List Nat) (i j : Nat) (hj : j = i + 1) (w : World) (base : Nat) (O : OwX 3 w base v ls) (hi : i < ls.length) (hn : ls.length ≤ 1000) :
    Calls Tryz.prog 27 #[v, .int .i64 (i : Int), .int .i64 (j : Int)] w (DelR w base (ls.eraseIdx i)) := by
  obtain ⟨i0, hi0, hz0, hz1, hz2⟩ := info_parts (show (Tryz.prog.info? 3).map (fun i => (i.zero, i.size, i.bytes)) = some (some natZ, 1, 8) by kernel_rfl)
  rcases O.2 with ⟨rfl, h0⟩ | ⟨g, cap, cur, rfl, e2, e3, e4, e5, e6, e7⟩
  · omega
  have hcs := (RX.of_row e3 e7).cells
  simp only [Nat.zero_add] at hcs
  have hfz := fun j => frozen_of_row w g j _ _ e3
  have hgl := (Array.getElem?_eq_some_iff.1 e3).1
  obtain ⟨news, hnews⟩ : ∃ news, news = rcells (ls.drop j) := ⟨_, rfl⟩
  have hlen : news.length = (ls.length - j) * 1 := by rw [hnews]; exact rcells_dl ls j
  have hcm : cap ≤ 9223372036854775807 := e5
  obtain ⟨A, hA, hsrc⟩ : ∃ A : Addr, (if cap = j then some (⟨g, 0, none⟩ : Addr) else some ⟨g, j, none⟩) = some A ∧ Hid (∀ t u, news[t]? = some u → w.drew.cell? (A.add t) = some u) := by
    by_cases h : cap = j
    · refine ⟨⟨g, 0, none⟩, by simp [h], fun t u hu => ?_⟩
      have h0 : news.length = 0 := by rw [hlen]; omega
      rw [List.length_eq_zero_iff.1 h0] at hu
      simp at hu
    · refine ⟨⟨g, j, none⟩, by simp [h], fun t u hu => ?_⟩
      rw [hnews, ← rcells_drop, List.getElem?_drop] at hu
      rw [Addr.add_lit]
      have := hcs _ _ hu
      rwa [show j * Row.k Nat + t = j + t from congrArg (· + t) (Nat.mul_one _)] at this
  have s2 : Hid (∀ u ∈ news, u.oneCell' = true) := by
    intro u hu
    rw [hnews] at hu
    obtain ⟨x, _, hx⟩ := List.mem_flatMap.1 hu
    exact Row.one x u hx
  have s3 : Hid (∀ t, t < news.length → (w.drew.cell? ⟨g, 0 + i * 1 + t, none⟩).isSome = true ∧ w.drew.frozen? ⟨g, 0 + i * 1 + t, none⟩ = false) := by
    intro t ht
    rw [hlen] at ht
    have hq : i + t < (rcells ls).length := by rw [rcells_len]; show i + t < ls.length * 1; omega
    refine ⟨?_, hfz _⟩
    show (w.cell? _).isSome = true
    rw [show 0 + i * 1 + t = i + t by omega, hcs _ _ (List.getElem?_eq_getElem hq)]; rfl
  have hdel := del_cells (w := w.drew) hi hcs [.int .i64 0]
  rw [← hj, ← hnews, show Row.k Nat = 1 from rfl, Nat.mul_one, Nat.mul_one] at hdel
  obtain ⟨W1, hW1⟩ : ∃ W1, W1 = w.drew.setCells g (i * 1) news := ⟨_, rfl⟩
  have hW : Hid (W1 = w.drew.setCells g (0 + i * 1) news) := by rw [Nat.zero_add]; exact hW1
  have hic : i ≤ cap := by omega
  have hjc : j ≤ cap := by omega
  have hjl : j ≤ ls.length := by omega
  have hij : i ≤ j := by omega
  have hne : ((i : Int) == (j : Int)) = false := beq_eq_false_iff_ne.2 (by omega)
  have hne2 : ¬ i = j := by omega
  have hjj := Lib.hid hj
  have s1 := Lib.hid hlen
  have HX := Lib.hid hdel
  have HE3 := Lib.hid e3
  have HO := Lib.hid O
  have HCS := Lib.hid hcs
  have HFZ := Lib.hid hfz
  clear hW1 hdel hcs hfz e3 e7 O hnews hlen hj
  have mixed : Tryz.prog.follows Departure.mixedOrders = true := by kernel_rfl
  go_enter Tryz.func27, Tryz.ntmps27
  go_wp2_with fail
  go_region_law_o (refine step_append_room rfl (.tmp 22) (.tmp 25) 29 rfl 3 i0 1 Tryz.underlying29 hi0 hz1 g 0 i cap (by simp [Act.eval, Act.put]) A (ls.length - j) (cap - j) news (by simp [Act.eval, Act.put]) s1.out hsrc.out s2.out (by omega) s3.out ?_; rw [← hW.out])
  have hm : i + (ls.length - j) = ls.length - 1 := by have := hjj.out; omega
  have hcl : ∀ ty, (Builtin.clear_ #[29] ty #[.slice (some ⟨g, i + (ls.length - j), none⟩) (ls.length - (i + (ls.length - j))) (cap - (i + (ls.length - j)))]).run Tryz.prog W1 = .ok (.tuple #[]) (W1.setCells g (i + (ls.length - j)) [.int .i64 0]) := fun ty => by
    rw [show ls.length - (i + (ls.length - j)) = 1 by omega]
    refine run_clear_one W1 _ 3 ty natZ [.int .i64 0] Tryz.underlying29 (zero_run (s := 1) (b := 8) (by kernel_rfl)) (by simp [Builtin.zeroCells, Value.cells]) (fun u hu => by rw [List.mem_singleton.1 hu]; rfl) g _ _ (fun k hk => ?_) (fun k _ => ?_)
    · rw [hW.out, World.cell?_setCells_out g _ _ _ _ (fun _ _ => .inr (by rw [s1.out]; simp at hk; subst hk; simp))]
      show (w.cell? _).isSome = true
      have hq : i + (ls.length - j) + k < (rcells ls).length := by rw [rcells_len]; show _ < ls.length * 1; simp at hk; omega
      rw [HCS.out _ _ (List.getElem?_eq_getElem hq)]; rfl
    · rw [hW.out, World.frozen?_setCells]; exact HFZ.out _
  rw [hm] at hcl ⊢
  go_wp2
  go_ret
  refine ⟨.slice (some ⟨g, 0, none⟩) (ls.length - 1) cap, rfl, .inr ⟨g, 0, cap, by rw [List.length_eraseIdx_of_lt hi], RX.of_cells ?_, ?_⟩, ?_⟩
  · have h2 := HX.out
    rw [hW.out, Nat.zero_add, Nat.mul_one]
    exact h2
  · have hb := below_cells (Nat.le_refl g) [.int .i64 0] (ls.length - 1) W1 (Below.refl _ _)
    have hb2 := below_cells (Nat.le_refl g) news (0 + i * 1) w.drew (Below.refl _ _)
    rw [← hW.out] at hb2
    exact Nat.lt_of_lt_of_le hgl (Nat.le_trans hb2.size hb.size)
  · refine below_cells e2 _ _ _ ?_
    rw [hW.out]
    exact below_cells e2 _ _ _ (Below.refl _ _).drew
set_option maxRecDepth 100000 in
set_option maxHeartbeats 4000000 in
theorem deleteP_c {v : Value} (ls : List St.Pt) (i j : Nat) (hj : j = i + 1) (w : World) (base : Nat) (O : OwX 37 w base v ls) (hi : i < ls.length) (hn : ls.length ≤ 1000) :
    Calls Tryz.prog 35 #[v, .int .i64 (i : Int), .int .i64 (j : Int)] w (DelR w base (ls.eraseIdx i)) := by
  obtain ⟨i0, hi0, hz0, hz1, hz2⟩ := info_parts (show (Tryz.prog.info? 37).map (fun i => (i.zero, i.size, i.bytes)) = some (some ptZ, 2, 16) by kernel_rfl)
  rcases O.2 with ⟨rfl, h0⟩ | ⟨g, cap, cur, rfl, e2, e3, e4, e5, e6, e7⟩
  · omega
  have hcs := (RX.of_row e3 e7).cells
  simp only [Nat.zero_add] at hcs
  have hfz := fun j => frozen_of_row w g j _ _ e3
  have hgl := (Array.getElem?_eq_some_iff.1 e3).1
  obtain ⟨news, hnews⟩ : ∃ news, news = rcells (ls.drop j) := ⟨_, rfl⟩
  have hlen : news.length = (ls.length - j) * 2 := by rw [hnews]; exact rcells_dl ls j
  have hcm : cap ≤ 9223372036854775807 := e5
  obtain ⟨A, hA, hsrc⟩ : ∃ A : Addr, (if cap = j then some (⟨g, 0, none⟩ : Addr) else some ⟨g, j * 2, none⟩) = some A ∧ Hid (∀ t u, news[t]? = some u → w.drew.cell? (A.add t) = some u) := by
    by_cases h : cap = j
    · refine ⟨⟨g, 0, none⟩, by simp [h], fun t u hu => ?_⟩
      have h0 : news.length = 0 := by rw [hlen]; omega
      rw [List.length_eq_zero_iff.1 h0] at hu
      simp at hu
    · refine ⟨⟨g, j * 2, none⟩, by simp [h], fun t u hu => ?_⟩
      rw [hnews, ← rcells_drop, List.getElem?_drop] at hu
      rw [Addr.add_lit]
      have := hcs _ _ hu
      exact this
  have s2 : Hid (∀ u ∈ news, u.oneCell' = true) := by
    intro u hu
    rw [hnews] at hu
    obtain ⟨x, _, hx⟩ := List.mem_flatMap.1 hu
    exact Row.one x u hx
  have s3 : Hid (∀ t, t < news.length → (w.drew.cell? ⟨g, 0 + i * 2 + t, none⟩).isSome = true ∧ w.drew.frozen? ⟨g, 0 + i * 2 + t, none⟩ = false) := by
    intro t ht
    rw [hlen] at ht
    have hq : i * 2 + t < (rcells ls).length := by rw [rcells_len]; show i * 2 + t < ls.length * 2; omega
    refine ⟨?_, hfz _⟩
    show (w.cell? _).isSome = true
    rw [show 0 + i * 2 + t = i * 2 + t by omega, hcs _ _ (List.getElem?_eq_getElem hq)]; rfl
  have hdel := del_cells (w := w.drew) hi hcs [.int .i64 0, .int .i64 0]
  rw [← hj, ← hnews, show Row.k St.Pt = 2 from rfl] at hdel
  obtain ⟨W1, hW1⟩ : ∃ W1, W1 = w.drew.setCells g (i * 2) news := ⟨_, rfl⟩
  have hW : Hid (W1 = w.drew.setCells g (0 + i * 2) news) := by rw [Nat.zero_add]; exact hW1
  have hic : i ≤ cap := by omega
  have hjc : j ≤ cap := by omega
  have hjl : j ≤ ls.length := by omega
  have hij : i ≤ j := by omega
  have hne : ((i : Int) == (j : Int)) = false := beq_eq_false_iff_ne.2 (by omega)
  have hne2 : ¬ i = j := by omega
  have hjj := Lib.hid hj
  have s1 := Lib.hid hlen
  have HX := Lib.hid hdel
  have HE3 := Lib.hid e3
  have HO := Lib.hid O
  have HCS := Lib.hid hcs
  have HFZ := Lib.hid hfz
  clear hW1 hdel hcs hfz e3 e7 O hnews hlen hj
  have mixed : Tryz.prog.follows Departure.mixedOrders = true := by kernel_rfl
  go_enter Tryz.func35, Tryz.ntmps35
  go_wp2_with fail
  go_region_law_o (refine step_append_room rfl (.tmp 22) (.tmp 25) 22 rfl 37 i0 2 Tryz.underlying22 hi0 hz1 g 0 i cap (by simp [Act.eval, Act.put]) A (ls.length - j) (cap - j) news (by simp [Act.eval, Act.put]) s1.out hsrc.out s2.out (by omega) s3.out ?_; rw [← hW.out])
  have hm : i + (ls.length - j) = ls.length - 1 := by have := hjj.out; omega
  have hcl : ∀ ty, (Builtin.clear_ #[22] ty #[.slice (some ⟨g, (i + (ls.length - j)) * 2, none⟩) (ls.length - (i + (ls.length - j))) (cap - (i + (ls.length - j)))]).run Tryz.prog W1 = .ok (.tuple #[]) (W1.setCells g ((i + (ls.length - j)) * 2) [.int .i64 0, .int .i64 0]) := fun ty => by
    rw [show ls.length - (i + (ls.length - j)) = 1 by omega]
    refine run_clear_one W1 _ 37 ty ptZ [.int .i64 0, .int .i64 0] Tryz.underlying22 (zero_run (s := 2) (b := 16) (by kernel_rfl)) (by simp [Builtin.zeroCells, Value.cells]; rfl) (fun u hu => by simp at hu; rw [hu]; rfl) g _ _ (fun k hk => ?_) (fun k _ => ?_)
    · rw [hW.out, World.cell?_setCells_out g _ _ _ _ (fun _ _ => .inr (by rw [s1.out]; simp at hk; simp; omega))]
      show (w.cell? _).isSome = true
      have hq : (i + (ls.length - j)) * 2 + k < (rcells ls).length := by rw [rcells_len]; show _ < ls.length * 2; simp at hk; omega
      rw [HCS.out _ _ (List.getElem?_eq_getElem hq)]; rfl
    · rw [hW.out, World.frozen?_setCells]; exact HFZ.out _
  rw [hm] at hcl ⊢
  go_wp2
  go_ret
  refine ⟨.slice (some ⟨g, 0, none⟩) (ls.length - 1) cap, rfl, .inr ⟨g, 0, cap, by rw [List.length_eraseIdx_of_lt hi], RX.of_cells ?_, ?_⟩, ?_⟩
  · have h2 := HX.out
    rw [hW.out, Nat.zero_add]
    exact h2
  · have hb := below_cells (Nat.le_refl g) [.int .i64 0, .int .i64 0] ((ls.length - 1) * 2) W1 (Below.refl _ _)
    have hb2 := below_cells (Nat.le_refl g) news (0 + i * 2) w.drew (Below.refl _ _)
    rw [← hW.out] at hb2
    exact Nat.lt_of_lt_of_le hgl (Nat.le_trans hb2.size hb.size)
  · refine below_cells e2 _ _ _ ?_
    rw [hW.out]
    exact below_cells e2 _ _ _ (Below.refl _ _).drew
end Go.Proofs.Wk
/- STRAIGHTNESS: points far out; points cloned. -/
namespace Go.Proofs.Wk
open Go.RowKit Mt

/-- A point that is far from the origin. -/
def bigP (p : St.Pt) : Bool := !decide (-9999 ≤ p.x ∧ p.x ≤ 9999 ∧ -9999 ≤ p.y ∧ p.y ≤ 9999)
set_option maxRecDepth 100000 in
set_option maxHeartbeats 1000000 in
theorem big_c (p : St.Pt) (w : World) : Calls Tryz.prog 31 #[ptV p] w (Ret w (.bool (bigP p))) := by
  obtain ⟨x, y⟩ := p
  unfold bigP
  have h0 := heap_alloc_new w (.cells #[.int .i64 x, .int .i64 y] 37)
  have hb := below_al w (.cells #[.int .i64 x, .int .i64 y] 37)
  rcases (by omega : x < -9999 ∨ (-9999 ≤ x ∧ 9999 < x) ∨ ((-9999 ≤ x ∧ x ≤ 9999) ∧ y < -9999) ∨ ((-9999 ≤ x ∧ x ≤ 9999) ∧ (-9999 ≤ y ∧ 9999 < y)) ∨ ((-9999 ≤ x ∧ x ≤ 9999) ∧ (-9999 ≤ y ∧ y ≤ 9999))) with h | ⟨h, h'⟩ | ⟨⟨h, h'⟩, h2⟩ | ⟨⟨h, h'⟩, h2, h3⟩ | ⟨⟨h, h'⟩, h2, h3⟩
  · rw [decide_eq_false (by simp only; omega)]
    go_enter Tryz.func31, Tryz.ntmps31; go_wp2; go_ret; refine ⟨ret_bool ?_, hb⟩; first | rfl | (simp; done) | (simp; omega)
  · rw [decide_eq_false (by simp only; omega)]
    go_enter Tryz.func31, Tryz.ntmps31; go_wp2; go_ret; refine ⟨ret_bool ?_, hb⟩; first | rfl | (simp; done) | (simp; omega)
  · rw [decide_eq_false (by simp only; omega)]
    go_enter Tryz.func31, Tryz.ntmps31; go_wp2; go_ret; refine ⟨ret_bool ?_, hb⟩; first | rfl | (simp; done) | (simp; omega)
  · rw [decide_eq_false (by simp only; omega)]
    go_enter Tryz.func31, Tryz.ntmps31; go_wp2; go_ret; refine ⟨ret_bool ?_, hb⟩; first | rfl | (simp; done) | (simp; omega)
  · rw [decide_eq_true (by simp only; omega)]
    go_enter Tryz.func31, Tryz.ntmps31; go_wp2; go_ret; refine ⟨ret_bool ?_, hb⟩; first | rfl | (simp; done) | (simp; omega)
/-- A point that is moved, mirrored, turned, or twice as far. -/
def trK (k : Nat) (v p : St.Pt) : St.Pt := match k with
  | 0 => ⟨p.x + v.x, p.y + v.y⟩
  | 1 => ⟨-p.x, p.y⟩
  | 2 => ⟨-p.y, p.x⟩
  | _ => ⟨2 * p.x, 2 * p.y⟩
def wantT (ls : List St.Pt) (k : Nat) : Txt := if k = 3 then rtoa (St.wid ls * 4) else rtoa (St.wid ls)
theorem wid_tr (ls : List St.Pt) (v : St.Pt) {k : Nat} (hk : k < 4) : rtoa (St.wid (ls.map (trK k v))) = wantT ls k := by
  unfold wantT
  rcases (by omega : k = 0 ∨ k = 1 ∨ k = 2 ∨ k = 3) with rfl | rfl | rfl | rfl
  · exact congrArg rtoa (St.wid_shift v ls)
  · exact congrArg rtoa (St.wid_mirror ls)
  · exact congrArg rtoa (St.wid_turn ls)
  · exact congrArg rtoa (St.wid_double ls)
theorem big_no {p : St.Pt} (h : bigP p = false) : -9999 ≤ p.x ∧ p.x ≤ 9999 ∧ -9999 ≤ p.y ∧ p.y ≤ 9999 := by
  unfold bigP at h
  rw [Bool.not_eq_false', decide_eq_true_eq] at h
  exact h
theorem tr_in {k : Nat} {v p : St.Pt} (hp : -9999 ≤ p.x ∧ p.x ≤ 9999 ∧ -9999 ≤ p.y ∧ p.y ≤ 9999) (hv : -9999 ≤ v.x ∧ v.x ≤ 9999 ∧ -9999 ≤ v.y ∧ v.y ≤ 9999) : St.InP (trK k v p) := by
  unfold trK St.InP
  split <;> simp only <;> omega
/-- A clone of points. -/
def ClnP (w : World) (xs : List St.Pt) (e : Ending) (w' : World) : Prop := ∃ v', e = .returned v' ∧ OwX 37 w' w.heap.size v' xs ∧ Below w.heap.size w w'
set_option maxRecDepth 100000 in
theorem cloneP_c {v : Value} (xs : List St.Pt) (w : World) (S : SlX w v xs) (h0 : 0 < xs.length) (hn : xs.length ≤ 1000) : Calls Tryz.prog 30 #[v] w (ClnP w xs) := by
  refine S.cases _ ?_ ?_
  · rintro a cap rfl rfl
    simp at h0
  rintro b off cap rfl hp hR hb
  have HS := Lib.hid S
  have HN := Lib.hid (show xs.length * 16 ≤ 140737488355328 by omega)
  have hnil := fun (W : World) => Lib.run_eql_slice_nil (P := Tryz.prog) W 22 37 (some ⟨b, off, none⟩) xs.length cap 0 0 Tryz.underlying22
  clear S hR
  go_enter Tryz.func30, Tryz.ntmps30
  go_wp2_with (at_builtin; refine wpList_clone_row rfl _ _ 22 37 rfl Tryz.underlying22 ptZ 16 (by decide) (by kernel_rfl) rfl w.heap.size _ xs _ rfl rfl HN.out (HS.out.later ((Below.refl _ _).alloc (Nat.le_refl _) _)) (Nat.le_of_lt (alloc_lt _ _)) ?_; rintro v' w' h1 h2)
  go_ret
  refine ⟨_, rfl, ?_, ((Below.refl _ _).alloc (Nat.le_refl _) _).trans h2⟩
  rcases h1 with ⟨rfl, -⟩ | h1
  · simp at h0
  · exact h1
/-- One element appended: the run. -/
theorem run_app_row {α : Type} [Row α] {P : Program} {w : World} {t e ty : TypeId} (ht : P.underlying t = some (.slice e)) (z : Value) (by_ : Nat) (hby : 1 ≤ by_)
    (hi : (P.info? e).map (fun i => (i.zero, i.size, i.bytes)) = some (some z, Row.k α, by_)) (hz : z.cells.size = Row.k α) (base : Nat) (v : Value) (ls : List α) (hown : OwX e w base v ls)
    (b : Nat) (l : α) (hc : ∀ j, j < Row.k α → w.cell? ⟨b, j, none⟩ = (Row.enc l)[j]?) (hn : (ls.length + 1) * by_ ≤ 140737488355328) (hbase : base ≤ w.heap.size) :
    ∃ v' w', (Builtin.append_ #[t, t] ty #[v, .slice (some ⟨b, 0, none⟩) 1 1]).run P w = .ok v' w' ∧ OwX e w' base v' (ls ++ [l]) ∧ Below base w w' := by
  obtain ⟨i0, hi0, hz0, hz1, hz2⟩ := info_parts hi
  obtain ⟨v', w', hr, r1, r2, -⟩ := run_append_own (P := P) w base t ty e i0 z (Row.k α) by_ ht hi0 hz0 hz1 hz2 hz Row.pos v ls.length (rcells ls) hown ⟨b, 0, none⟩ 1 1 (Row.enc l) (by rw [Row.len, Nat.one_mul]) (fun j u hu => by
      have hj : j < Row.k α := by rw [← Row.len l]; exact (List.getElem?_eq_some_iff.1 hu).1
      rw [show (⟨b, 0, none⟩ : Addr).add j = ⟨b, j, none⟩ by (simp [Addr.add]; try (intro e; exact e.symm)), hc j hj, hu]) (Row.one l) (by have := Nat.le_mul_of_pos_right (ls.length + 1) hby; unfold maxLen; omega) hn hbase
  refine ⟨v', w', hr, ?_, r2.os, r2.tape, r2.output, r2.size, fun k hk => r2.block k (by omega) ?_⟩
  · unfold OwX
    rw [List.length_append, rcells_app, rcells_one]
    exact r1
  · intro e1
    have := (World.ownsRow.lt hown k e1.symm).1
    omega
end Go.Proofs.Wk
