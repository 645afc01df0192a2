/- REGISTERS OF LOTS: slices.Clone and slices.Insert at lots. -/
import Derived.Test.YtmbbppiikpfkcaaGreatDoorKB
import Derived.Test.YtmbbppiikpfkcaaGreatDoorKC
import Derived.Deep.RegionLaw
import Derived.Lib.SliceRun
import Derived.Lib.Overlaps
import Derived.Lib.AppendZerosOnto
namespace Go.Proofs.Wk
open Go.RowKit Mt

abbrev lotZ : Value := .agg #[.string ⟨#[]⟩, .int .i64 0, .int .i64 0, .int .i64 0, .int .i64 0, .int .i64 0, .int .i64 0]
/-- What a clone yields. -/
def ClnP (w : World) (ls : List Rg.Lt) (e : Ending) (w' : World) : Prop := ∃ v', e = .returned v' ∧ CnX 46 w' w.heap.size v' ls ∧ Below w.heap.size w w'
set_option maxRecDepth 100000 in
theorem clone_c {v : Value} (ls : List Rg.Lt) (w : World) (S : SlX w v ls) (hn : ls.length * 64 ≤ 140737488355328) :
    Calls Tryz.prog 48 #[v] w (ClnP w ls) := by
  have some_ : ∀ p len cap, v = .slice (some p) len cap → Calls Tryz.prog 48 #[v] w (ClnP w ls) := by
    rintro p len cap rfl
    have HS := Lib.hid S
    have HN := Lib.hid hn
    clear S hn
    have hnil := fun (W : World) => Lib.run_eql_slice_nil (P := Tryz.prog) W 37 46 (some p) len cap 0 0 Tryz.underlying37
    go_enter Tryz.func48, Tryz.ntmps48
    go_wp2_with (at_builtin; refine wpList_clone_row rfl _ _ 37 46 rfl Tryz.underlying37 lotZ 64 (by decide) (by kernel_rfl) rfl w.heap.size _ ls _ rfl rfl HN.out (HS.out.later ((Below.refl _ _).alloc (Nat.le_refl _) _)) (Nat.le_of_lt (alloc_lt _ _)) ?_; rintro v' w' h1 h2)
    go_ret
    exact ⟨_, rfl, h1, ((Below.refl _ _).alloc (Nat.le_refl _) _).trans h2⟩
  rcases S with ⟨a, cap, rfl, rfl⟩ | ⟨b, off, cap, rfl, hR, hb⟩
  · cases a with
    | some p => exact some_ p 0 cap rfl
    | none =>
      have hnil := fun (W : World) => Lib.run_eql_slice_nil (P := Tryz.prog) W 37 46 none 0 cap 0 0 Tryz.underlying37
      go_enter Tryz.func48, Tryz.ntmps48
      go_wp2
      go_ret
      exact ⟨_, rfl, .inl ⟨rfl, none, rfl⟩, Below.refl _ _⟩
  · exact some_ _ _ _ rfl
end Go.Proofs.Wk
/- REGISTERS OF LOTS: slices.Insert at lots. -/
namespace Go.Proofs.Wk
open Go.RowKit Mt

/-- What a call has made of a row. -/
def InsP (w : World) (base : Nat) (r : List Rg.Lt) (e : Ending) (w' : World) : Prop := ∃ v', e = .returned v' ∧ OwX 46 w' base v' r ∧ Below base w w'
-- At the end.
set_option maxRecDepth 100000 in
theorem insert_end {v : Value} (ls : List Rg.Lt) (l : Rg.Lt) (w : World) (base : Nat) (hb : base ≤ w.heap.size) (hv : CnX 46 w base v ls) (vb : Nat) (hvb : ∀ j, j < 7 → w.cell? ⟨vb, j, none⟩ = (lotC l)[j]?) (hn : (ls.length + 1) * 64 ≤ 140737488355328) :
    Calls Tryz.prog 47 #[v, .int .i64 (ls.length : Int), .slice (some ⟨vb, 0, none⟩) 1 1] w (InsP w base (ls ++ [l])) := by
  have go : ∀ a cap, v = .slice a ls.length cap → (ls.length ≤ cap ∧ cap ≤ maxLen) → (a = none → cap = 0) → Calls Tryz.prog 47 #[v, .int .i64 (ls.length : Int), .slice (some ⟨vb, 0, none⟩) 1 1] w (InsP w base (ls ++ [l])) := by
    rintro a cap rfl ⟨hc1, hc2⟩ hnone
    have HV := Lib.hid hv
    have HN := Lib.hid hn
    have HC := Lib.hid hvb
    have HB := Lib.hid hb
    unfold maxLen at hc2
    clear hv hn hvb hb
    go_enter Tryz.func47, Tryz.ntmps47
    go_wp2_with (at_builtin; refine wpList_push_row rfl _ _ 37 46 rfl Tryz.underlying37 lotZ 64 (by decide) (by kernel_rfl) rfl base _ ls rfl vb l rfl HN.out HV.out HB.out HC.out ?_; rintro v' w' h1 h2)
    all_goals (go_ret; exact ⟨_, rfl, by assumption, by assumption⟩)
  rcases hv with ⟨rfl, a, rfl⟩ | ⟨h1, ⟨rfl, h2⟩ | ⟨g, cap, cur, rfl, e2, e3, e4, e5, e6, e7⟩⟩
  · exact go a 0 rfl ⟨Nat.le_refl _, Nat.zero_le _⟩ (fun _ => rfl)
  · exact go none 0 (by rw [h2]) ⟨by omega, Nat.zero_le _⟩ (fun _ => rfl)
  · exact go _ cap rfl ⟨e4, e5⟩ (fun h => by cases h)
-- There is room.
set_option maxRecDepth 100000 in
set_option maxHeartbeats 4000000 in
theorem insert_shift (ls : List Rg.Lt) (l : Rg.Lt) (i : Nat) (hi : i < ls.length) (w : World) (base g cap : Nat) (cur : Array Value) (e2 : base ≤ g) (e3 : w.heap[g]? = some (.cells cur 46 (0, 0))) (e5 : cap ≤ maxLen) (e6 : cur.size = cap * 7)
    (e7 : cur.toList.take (ls.length * 7) = rcells ls) (hroom : ls.length + 1 ≤ cap) (vb : Nat) (T : TypeId) (hvb : w.heap[vb]? = some (.cells (lotC l).toArray T (0, 0))) (hne : vb ≠ g) :
    Calls Tryz.prog 47 #[.slice (some ⟨g, 0, none⟩) ls.length cap, .int .i64 (i : Int), .slice (some ⟨vb, 0, none⟩) 1 1] w (InsP w base (ls.take i ++ l :: ls.drop i)) := by
  obtain ⟨i0, hi0, -, hz1, -⟩ := info_parts (show (Tryz.prog.info? 46).map (fun i => (i.zero, i.size, i.bytes)) = some (some lotZ, 7, 64) by kernel_rfl)
  have hov : ∀ o lb cb, (callFunc 82 #[.slice (some ⟨vb, 0, none⟩) 1 1, .slice (some ⟨g, o, none⟩) lb cb]).run Tryz.prog w = .ok (.value (.bool false)) w := fun o lb cb => by
    rw [run_callFunc_extern Tryz.func82 (by kernel_rfl) (by kernel_rfl) (by kernel_rfl) (e := Extern.SlicesOverlaps.overlaps #[37, 37] #[4]) (by kernel_rfl),
      Lib.run_overlaps_apart w 37 4 46 Tryz.underlying37 7 (fun w => by simp [Go.sizeOf, typeInfo, hi0, hz1]) ⟨vb, 0, none⟩ ⟨g, o, none⟩ 1 1 lb cb hne T 46 7 cur.size (by simp [World.shape?, hvb]) (by simp [World.shape?, e3]) (by omega)
        (by simp [World.frozen?, hvb]) (by simp [World.frozen?, hvb])]
    rfl
  unfold maxLen at e5
  have hcl : cur.toList.length = cap * 7 := by rw [← e6]; exact Array.length_toList
  obtain ⟨row1, hr1⟩ : ∃ row1, row1 = cur.toList.take ((i + 1) * 7) ++ rcells (ls.drop i) ++ cur.toList.drop ((i + 1) * 7 + (rcells (ls.drop i)).length) := ⟨_, rfl⟩
  have hsh := shift_row (cur := cur.toList) l (Nat.le_of_lt hi) (by rw [hcl]; exact Nat.mul_le_mul_right 7 hroom) e7 hr1
  have hdl : (rcells (ls.drop i)).length = (ls.length - i) * 7 := rcells_dl ls i
  have hsz1 : row1.length = cap * 7 := by
    rw [hr1, List.length_append, List.length_append, List.length_take, List.length_drop, hdl, hcl]; omega
  have hcp1 : ∀ W : World, W.heap[g]? = some (.cells cur 46 (0, 0)) → ∀ ty dc sc, (Builtin.copy_ #[37, 37] ty #[.slice (some ⟨g, (i + 1) * 7, none⟩) (ls.length - i) dc, .slice (some ⟨g, i * 7, none⟩) (ls.length + 1 - i) sc]).run Tryz.prog W = .ok (goInt ((ls.length - i : Nat) : Int)) (W.setRow g row1.toArray) := fun W hW ty dc sc => by
    have := run_copy_rowK (P := Tryz.prog) W 37 37 ty 46 g ((i + 1) * 7) (ls.length - i) dc ⟨g, i * 7, none⟩ (ls.length + 1 - i) sc cur 46 (rcells (ls.drop i)) 7 (ls.length - i) Tryz.underlying37 (by kernel_rfl) hW
      (by simp only [Nat.min_def]; split <;> omega) hdl ?_ (by rw [hdl, e6]; omega) ?_
    · rw [this, ← hr1]
    · intro j u hj
      have hR : RX W g 0 ls := RX.of_row hW e7
      have := (hR.drop i).src j u hj
      rwa [Nat.zero_add] at this
    · intro u hu
      obtain ⟨x, -, hx⟩ := List.mem_flatMap.1 hu
      exact Row.one x u hx
  obtain ⟨row2, hr2⟩ : ∃ row2, row2 = row1.take (i * 7) ++ lotC l ++ row1.drop (i * 7 + (lotC l).length) := ⟨_, rfl⟩
  have hcp2 : ∀ W : World, W.heap[g]? = some (.cells row1.toArray 46 (0, 0)) → W.heap[vb]? = some (.cells (lotC l).toArray T (0, 0)) → ∀ ty dc, (Builtin.copy_ #[37, 37] ty #[.slice (some ⟨g, i * 7, none⟩) (ls.length + 1 - i) dc, .slice (some ⟨vb, 0, none⟩) 1 1]).run Tryz.prog W = .ok (goInt 1) (W.setRow g row2.toArray) := fun W hW hV ty dc => by
    have := run_copy_rowK (P := Tryz.prog) W 37 37 ty 46 g (i * 7) (ls.length + 1 - i) dc ⟨vb, 0, none⟩ 1 1 row1.toArray 46 (lotC l) 7 1 Tryz.underlying37 (by kernel_rfl) hW
      (by simp only [Nat.min_def]; split <;> omega) rfl ?_ (by simp only [List.size_toArray, hsz1]; show i * 7 + 7 ≤ _; omega) (Row.one l)
    · rw [this, hr2]; rfl
    · intro j u hj
      rw [Addr.add_lit, Nat.zero_add, cell_of_row _ _ _ _ _ _ hV]
      simpa using hj
  have hend : ∀ W : World, W.heap[g]? = some (.cells row2.toArray 46 (0, 0)) → OwX 46 W base (.slice (some ⟨g, 0, none⟩) (ls.length + 1) cap) (ls.take i ++ l :: ls.drop i) := fun W hW => by
    rw [← ins_len ls l (Nat.le_of_lt hi)]
    refine OwX.mk e2 hW (by rw [ins_len ls l (Nat.le_of_lt hi)]; exact hroom) (by unfold maxLen; omega) ?_ ⟨cur.toList.drop ((ls.length + 1) * 7), ?_⟩
    · rw [hr2, List.size_toArray, List.length_append, List.length_append, List.length_take, List.length_drop, hsz1]
      show min (i * 7) (cap * 7) + 7 + (cap * 7 - (i * 7 + 7)) = cap * 7
      have := Nat.mul_le_mul_right 7 (show i + 1 ≤ cap by omega)
      omega
    · rw [ins_cells, hr2]; exact hsh
  have H1 := Lib.hid hcp1
  have H2 := Lib.hid hcp2
  have HE := Lib.hid hend
  clear hcp1 hcp2 hend hsh hr1 hr2 hdl hsz1 e7 hcl hi0 hz1
  have hz2 : ¬ ((i : Int) = (ls.length : Int)) := by omega
  have hw1 : IntKind.i64.wrap ((i : Int) + 1) = (i : Int) + 1 := by rw [IntKind.wrap_i64]; omega
  have hb1 : (0 : Int) ≤ (i : Int) + 1 := by omega
  have htn : ((i : Int) + 1).toNat = i + 1 := by omega
  have hin : i ≤ ls.length := by omega
  have hci : ¬ (cap = i) := by omega
  have hcj : ¬ (cap = i + 1) := by omega
  have hb3 : (i : Int) ≤ (ls.length : Int) + 1 := by omega
  go_enter Tryz.func47, Tryz.ntmps47
  go_wp2_with (simp only [hov])
  go_region_law (refine step_cpy_run rfl _ _ 37 37 rfl _ _ (by simp [Act.eval, Act.put]) (by simp [Act.eval, Act.put]) (H1.out w.drew e3 _ (cap - (i + 1)) (cap - i)) ?_)
  have g1 : (w.drew.setRow g row1.toArray).heap[g]? = some (.cells row1.toArray 46 (0, 0)) := setRow_heap w.drew g cur _ _ _ e3
  have g2 : (w.drew.setRow g row1.toArray).heap[vb]? = some (.cells (lotC l).toArray T (0, 0)) := (setRow_other w.drew g vb _ hne).trans hvb
  go_wp2_with (refine wpList_cpy_run _ rfl _ _ 37 37 rfl _ _ rfl rfl (H2.out _ g1 g2 _ (cap - i)) ?_)
  go_ret
  exact ⟨_, rfl, HE.out _ (setRow_heap _ g _ _ _ _ g1), Below.row (Below.row (Below.refl _ _).drew e2 _) e2 _⟩
-- There is none.
set_option maxRecDepth 100000 in
set_option maxHeartbeats 4000000 in
theorem insert_grow (ls : List Rg.Lt) (l : Rg.Lt) (i : Nat) (hi : i < ls.length) (w : World) (base g cap : Nat) (hb : base ≤ w.heap.size) (hR : RX w g 0 ls) (hg : g < w.heap.size) (hnc : ls.length ≤ cap) (hroom : cap < ls.length + 1)
    (hn : (ls.length + 1) * 64 ≤ 140737488355328) (vb : Nat) (T : TypeId) (hvb : w.heap[vb]? = some (.cells (lotC l).toArray T (0, 0))) :
    Calls Tryz.prog 47 #[.slice (some ⟨g, 0, none⟩) ls.length cap, .int .i64 (i : Int), .slice (some ⟨vb, 0, none⟩) 1 1] w (InsP w base (ls.take i ++ l :: ls.drop i)) := by
  obtain ⟨i0, hi0, hz0, hz1, hz2⟩ := info_parts (show (Tryz.prog.info? 46).map (fun i => (i.zero, i.size, i.bytes)) = some (some lotZ, 7, 64) by kernel_rfl)
  have hvl : vb < w.heap.size := (Array.getElem?_eq_some_iff.1 hvb).1
  have hold : (Builtin.firstCells i0.size i (.slice (some ⟨g, 0, none⟩) i cap)).run Tryz.prog w.drew = .ok (rcells (ls.take i)).toArray w.drew := by
    rw [hz1]
    exact run_firstCells_some w.drew 7 i ⟨g, 0, none⟩ i cap (rcells (ls.take i)) (rcells_tl ls (Nat.le_of_lt hi)) (fun j u hj => (hR.take i).src j u hj)
  have hrz : ∀ ty, ∃ G, (ls.length + 1 ≤ G ∧ G ≤ maxLen) ∧ (Builtin.append_ #[37, 3] ty #[.slice (some ⟨g, 0, none⟩) i cap, .int .i64 ((ls.length : Int) + 1 - (i : Int))]).run Tryz.prog w =
      .ok (.slice (some ⟨w.heap.size, 0, none⟩) (ls.length + 1) G) (w.drew.alloc (.cells ((rcells (ls.take i)).toArray ++ Builtin.zeroCells lotZ.cells (ls.length + 1 - i) ++ Builtin.zeroCells lotZ.cells (G - (ls.length + 1))) 46)) := fun ty => by
    have h := Lib.run_append_grow_zeros (P := Tryz.prog) w 37 3 ty 46 i0 _ .i64 .i64 Tryz.underlying37 Tryz.underlying3 hi0 hz0 (some ⟨g, 0, none⟩) i cap (rcells (ls.take i)) hold (ls.length + 1 - i) (by omega) (by omega) (by omega) (by omega) (by rw [hz2]; omega)
      (by rw [hz2]; exact growslice_fits (by omega) (by rw [show i + (ls.length + 1 - i) = ls.length + 1 by omega]; exact hn))
    rw [show i + (ls.length + 1 - i) = ls.length + 1 by omega] at h
    rw [show (ls.length : Int) + 1 - (i : Int) = ((ls.length + 1 - i : Nat) : Int) by omega]
    exact ⟨_, ⟨grownCap_ge _ _ _ _, grownCap_le_maxLen _ _ _ _ (by unfold maxLen; omega)⟩, h⟩
  obtain ⟨G, ⟨hG1, hG2⟩, hrz⟩ := hrz 37
  obtain ⟨z, hzz⟩ : ∃ z, z = (Builtin.zeroCells lotZ.cells (ls.length + 1 - i) ++ Builtin.zeroCells lotZ.cells (G - (ls.length + 1))).toList := ⟨_, rfl⟩
  have hzl : z.length = (G - i) * 7 := by
    rw [hzz, show ∀ a : Array Value, a.toList.length = a.size from fun a => Array.length_toList, Array.size_append, size_zeroCells, size_zeroCells, show lotZ.cells.size = 7 from rfl, ← Nat.add_mul]; congr 1; omega
  obtain ⟨A, hA⟩ : ∃ A, A = (rcells (ls.take i)).toArray ++ Builtin.zeroCells lotZ.cells (ls.length + 1 - i) ++ Builtin.zeroCells lotZ.cells (G - (ls.length + 1)) := ⟨_, rfl⟩
  have hAl : A.toList = rcells (ls.take i) ++ z := by rw [hA, hzz, Array.append_assoc, Array.toList_append]
  rw [← hA] at hrz
  obtain ⟨row1, hr1⟩ : ∃ row1, row1 = (rcells (ls.take i) ++ z).take (i * 7) ++ lotC l ++ (rcells (ls.take i) ++ z).drop (i * 7 + (lotC l).length) := ⟨_, rfl⟩
  have hgr := grow_row l (Nat.le_of_lt hi) hr1
  have hdl : (rcells (ls.drop i)).length = (ls.length - i) * 7 := rcells_dl ls i
  have htl : (rcells (ls.take i)).length = i * 7 := rcells_tl ls (Nat.le_of_lt hi)
  have hAs : A.size = G * 7 := by rw [show A.size = A.toList.length from Array.length_toList.symm, hAl, List.length_append, htl, hzl]; omega
  have hsz1 : row1.length = G * 7 := by
    rw [hr1, List.length_append, List.length_append, List.length_take, List.length_drop, List.length_append, htl, hzl]
    show min (i * 7) (i * 7 + (G - i) * 7) + 7 + (i * 7 + (G - i) * 7 - (i * 7 + 7)) = G * 7
    omega
  have hcpA : ∀ W : World, W.heap[w.heap.size]? = some (.cells A 46 (0, 0)) → W.heap[vb]? = some (.cells (lotC l).toArray T (0, 0)) → ∀ ty dc, (Builtin.copy_ #[37, 37] ty #[.slice (some ⟨w.heap.size, i * 7, none⟩) (ls.length + 1 - i) dc, .slice (some ⟨vb, 0, none⟩) 1 1]).run Tryz.prog W = .ok (goInt 1) (W.setRow w.heap.size row1.toArray) := fun W hW hV ty dc => by
    have := run_copy_rowK (P := Tryz.prog) W 37 37 ty 46 w.heap.size (i * 7) (ls.length + 1 - i) dc ⟨vb, 0, none⟩ 1 1 A 46 (lotC l) 7 1 Tryz.underlying37 (by kernel_rfl) hW
      (by simp only [Nat.min_def]; split <;> omega) rfl ?_ (by rw [hAs]; show i * 7 + 7 ≤ _; omega) (Row.one l)
    · rw [this, hr1, hAl]; rfl
    · intro j u hj
      rw [Addr.add_lit, Nat.zero_add, cell_of_row _ _ _ _ _ _ hV]
      simpa using hj
  obtain ⟨row2, hr2⟩ : ∃ row2, row2 = row1.take ((i + 1) * 7) ++ rcells (ls.drop i) ++ row1.drop ((i + 1) * 7 + (rcells (ls.drop i)).length) := ⟨_, rfl⟩
  have hcpB : ∀ W : World, W.heap[w.heap.size]? = some (.cells row1.toArray 46 (0, 0)) → RX W g 0 ls → ∀ ty dc sc, (Builtin.copy_ #[37, 37] ty #[.slice (some ⟨w.heap.size, (i + 1) * 7, none⟩) (ls.length - i) dc, .slice (some ⟨g, i * 7, none⟩) (ls.length - i) sc]).run Tryz.prog W = .ok (goInt ((ls.length - i : Nat) : Int)) (W.setRow w.heap.size row2.toArray) := fun W hW hR ty dc sc => by
    have := run_copy_rowK (P := Tryz.prog) W 37 37 ty 46 w.heap.size ((i + 1) * 7) (ls.length - i) dc ⟨g, i * 7, none⟩ (ls.length - i) sc row1.toArray 46 (rcells (ls.drop i)) 7 (ls.length - i) Tryz.underlying37 (by kernel_rfl) hW
      (by simp only [Nat.min_def]; split <;> omega) hdl ?_ (by simp only [hdl, List.size_toArray, hsz1]; omega) ?_
    · rw [this, hr2]
    · intro j u hj
      have := (hR.drop i).src j u hj
      rwa [Nat.zero_add] at this
    · intro u hu
      obtain ⟨x, -, hx⟩ := List.mem_flatMap.1 hu
      exact Row.one x u hx
  have hend : ∀ W : World, W.heap[w.heap.size]? = some (.cells row2.toArray 46 (0, 0)) → OwX 46 W base (.slice (some ⟨w.heap.size, 0, none⟩) (ls.length + 1) G) (ls.take i ++ l :: ls.drop i) := fun W hW => by
    rw [← ins_len ls l (Nat.le_of_lt hi)]
    refine OwX.mk hb hW (by rw [ins_len ls l (Nat.le_of_lt hi)]; exact hG1) hG2 ?_ ⟨z.drop ((ls.length + 1 - i) * 7), ?_⟩
    · rw [hr2, List.size_toArray, List.length_append, List.length_append, List.length_take, List.length_drop, hsz1, hdl]
      show min ((i + 1) * 7) (G * 7) + (ls.length - i) * 7 + (G * 7 - ((i + 1) * 7 + (ls.length - i) * 7)) = G * 7
      omega
    · rw [ins_cells, hr2]; exact hgr
  have HA := Lib.hid hcpA
  have H2 := Lib.hid hcpB
  have HE := Lib.hid hend
  have HR := Lib.hid hR
  have HZ := Lib.hid hrz
  unfold maxLen at hG2
  clear hcpA hcpB hend hgr hr1 hr2 hdl hsz1 htl hAl hzz hzl hold hR hrz hA hi0 hz0 hz1 hz2
  have hq2 : ¬ ((i : Int) = (ls.length : Int)) := by omega
  have hq3 : (cap : Int) < (ls.length : Int) + 1 := by omega
  have hw1 : IntKind.i64.wrap ((i : Int) + 1) = (i : Int) + 1 := by rw [IntKind.wrap_i64]; omega
  have hb1 : (0 : Int) ≤ (i : Int) + 1 := by omega
  have htn : ((i : Int) + 1).toNat = i + 1 := by omega
  have hin : i ≤ ls.length := by omega
  have hci : ¬ (cap = i) := by omega
  have hGi : ¬ (G = i) := by omega
  have hGj : ¬ (G = i + 1) := by omega
  have hb3 : (i : Int) ≤ (ls.length : Int) := by omega
  have k1 : (w.alloc (.cells A 46)).drew.heap[w.heap.size]? = some (.cells A 46 (0, 0)) := heap_alloc_new w _
  have k2 : (w.alloc (.cells A 46)).drew.heap[vb]? = some (.cells (lotC l).toArray T (0, 0)) := (heap_alloc_old w _ hvl).trans hvb
  have hBl : Below w.heap.size w (w.alloc (.cells A 46)).drew := ((Below.refl _ _).alloc (Nat.le_refl _) _).drew
  have g1 := setRow_heap _ _ _ row1.toArray _ _ k1
  have hR1 : Hid (RX ((w.alloc (.cells A 46)).drew.setRow w.heap.size row1.toArray) g 0 ls) := Lib.hid (HR.out.later (Below.row hBl (Nat.le_refl _) _) hg)
  go_enter Tryz.func47, Tryz.ntmps47
  go_wp2_with (first
    | (at_builtin; refine Lib.wpList_append_run _ rfl _ _ _ _ rfl _ _ rfl rfl _ _ HZ.out ?_)
    | (refine wpList_cpy_run _ rfl _ _ 37 37 rfl _ _ rfl rfl (HA.out _ k1 k2 _ _) ?_))
  go_region_law (refine step_cpy_run rfl _ _ 37 37 rfl (.slice (some ⟨w.heap.size, (i + 1) * 7, none⟩) (ls.length - i) (G - (i + 1))) (.slice (some ⟨g, i * 7, none⟩) (ls.length - i) (cap - i)) (by simp [Act.eval, Act.put]) (by simp [Act.eval, Act.put]) (H2.out (((w.alloc (.cells A 46)).drew.setRow w.heap.size row1.toArray).drew) g1 hR1.out _ (G - (i + 1)) (cap - i)) ?_)
  go_wp2
  go_ret
  exact ⟨_, rfl, HE.out _ (setRow_heap _ _ row1.toArray _ _ _ g1), Below.row (Below.row (hBl.mono hb) hb _).drew hb _⟩
-- At any place.
theorem insert_c {v : Value} (ls : List Rg.Lt) (l : Rg.Lt) (i : Nat) (hi : i ≤ ls.length) (w : World) (base : Nat) (hb : base ≤ w.heap.size) (hv : CnX 46 w base v ls) (vb : Nat) (T : TypeId) (hvb : w.heap[vb]? = some (.cells (lotC l).toArray T (0, 0)))
    (hne : ∀ g n cap, ls ≠ [] → v = .slice (some ⟨g, 0, none⟩) n cap → vb ≠ g) (hn : (ls.length + 1) * 64 ≤ 140737488355328) :
    Calls Tryz.prog 47 #[v, .int .i64 (i : Int), .slice (some ⟨vb, 0, none⟩) 1 1] w (InsP w base (ls.take i ++ l :: ls.drop i)) := by
  by_cases h : i = ls.length
  · subst h
    rw [List.take_length, List.drop_length]
    exact insert_end ls l w base hb hv vb (fun j _ => by rw [cell_of_row _ _ _ _ _ _ hvb]; simp) hn
  · rcases hv with ⟨rfl, a, rfl⟩ | ⟨h1, ⟨rfl, h2⟩ | ⟨g, cap, cur, rfl, e2, e3, e4, e5, e6, e7⟩⟩
    · exact absurd (Nat.le_zero.1 hi) h
    · omega
    · by_cases hroom : ls.length + 1 ≤ cap
      · exact insert_shift ls l i (by omega) w base g cap cur e2 e3 e5 e6 e7 hroom vb T hvb (hne g _ _ (by rintro rfl; exact absurd (Nat.le_zero.1 hi) h) rfl)
      · exact insert_grow ls l i (by omega) w base g cap hb (RX.of_row e3 e7) (Array.getElem?_eq_some_iff.1 e3).1 e4 (by omega) hn vb T hvb
end Go.Proofs.Wk
/- REGISTERS OF LOTS: the deeds of entries. -/
namespace Go.Proofs.Wk
open Go.RowKit Mt

theorem Below.cellP {B : Nat} {a w : World} (h : Below B a w) {p : Addr} (hp : B ≤ p.block) (v : Value) : Below B a (w.setCell p v) :=
  ⟨h.os, h.tape, h.output, by rw [show (w.setCell p v).heap.size = w.heap.size by simp [World.setCell]]; exact h.size, fun k hk => by rw [heap_setCell_other w p k v (by omega)]; exact h.block k hk⟩
/-- A lot that was laid anew in its row; the other cells are as they were. -/
def PutC (w w' : World) (g o : Nat) (y : Rg.Lt) : Prop := ∀ j, w'.cell? ⟨g, j, none⟩ = if o ≤ j ∧ j < o + 7 then (lotC y)[j - o]? else w.cell? ⟨g, j, none⟩
theorem LotAt.get {w : World} {g o : Nat} {x : Rg.Lt} (h : LotAt w g o x) {d : Nat} (hd : d < 7) : w.cell? ⟨g, o + d, none⟩ = (lotC x)[d]? := by
  match d, hd with
  | 0, _ => exact h.c0
  | 1, _ => exact h.c1
  | 2, _ => exact h.c2
  | 3, _ => exact h.c3
  | 4, _ => exact h.c4
  | 5, _ => exact h.c5
  | 6, _ => exact h.c6
theorem PutC.refl {w w' : World} {g o : Nat} {x : Rg.Lt} (h : LotAt w g o x) (hb : Below w.heap.size w w') : PutC w w' g o x := fun j => by
  rw [hb.cell (p := ⟨g, j, none⟩) h.lt]
  split
  · rename_i q
    have := h.get (d := j - o) (by omega)
    rwa [show o + (j - o) = j by omega] at this
  · rfl
theorem PutC.set {w w1 : World} {g o f : Nat} {x y : Rg.Lt} {v : Value} (h : PutC w w1 g o x) (hf : f < 7) (hy : lotC y = (lotC x).set f v) : PutC w (w1.setCell ⟨g, o + f, none⟩ v) g o y := fun j => by
  by_cases e : j = o + f
  · subst e
    rw [if_pos ⟨by omega, by omega⟩, Nat.add_sub_cancel_left, hy]
    have h1 := h (o + f)
    rw [if_pos ⟨by omega, by omega⟩, Nat.add_sub_cancel_left] at h1
    have hl : f < (lotC x).length := hf
    rw [List.getElem?_eq_getElem hl] at h1
    rw [World.cell?_setCell_same _ _ _ h1, List.getElem?_set_self hl]
  · rw [World.cell?_setCell_other _ _ _ _ (by intro q; cases q; exact e rfl), h j]
    split
    · rename_i q
      rw [hy, List.getElem?_set_ne (by omega)]
    · rfl
/-- What a deed does. -/
def Deed (w : World) (g o : Nat) (c : Int) (y : Rg.Lt) (e : Ending) (w' : World) : Prop := e = .returned (.int .i64 c) ∧ Below g w w' ∧ (c = 0 → PutC w w' g o y)
theorem Deed.no {w w' : World} {g o : Nat} {c : Int} {y : Rg.Lt} {x : Rg.Lt} (h : LotAt w g o x) (hc : c ≠ 0) (hb : Below w.heap.size w w') : Deed w g o c y (.returned (.int .i64 c)) w' :=
  ⟨rfl, hb.mono (Nat.le_of_lt h.lt), fun q => absurd q hc⟩
set_option maxRecDepth 100000 in
set_option maxHeartbeats 1000000 in
theorem judge_c (f : Nat) (x y : Rg.Lt) (g o : Nat) (n : Int) (w : World) (h : LotAt w g o x) (hz : ∀ j, w.frozen? ⟨g, j, none⟩ = false) (ht : Tame x) (hn : 0 ≤ n ∧ n ≤ 1048576)
    (hf : (f = 2 ∧ y = { x with gd := x.gd + n }) ∨ (f = 3 ∧ y = { x with bd := x.bd + n })) (c : Int) (hc : c = if x.st ≠ 0 then 14 else if Rg.left x < n then 16 else 0) :
    Calls Tryz.prog 73 #[.pointer (some ⟨g, o, none⟩), .pointer (some ⟨g, o + f, none⟩), .int .i64 n] w (Deed w g o c y) := by
  have HL := Lib.hid (fun (W : World) (h : LotAt W g o x) => left_c g o x W h ht)
  have H := Lib.hid h
  obtain ⟨nm, sz, gd, bd, cn, sc, st⟩ := x
  generalize Rg.left ⟨nm, sz, gd, bd, cn, sc, st⟩ = L at *
  simp only at hc
  obtain ⟨c0, c1, c2, c3, c4, c5, c6, hl⟩ := h
  simp only at c0 c1 c2 c3 c4 c5 c6
  obtain ⟨⟨a0, a1⟩, ⟨b0, b1⟩, ⟨d0, d1⟩, -, -⟩ := ht
  simp only at a0 a1 b0 b1 d0 d1
  by_cases h0 : st = 0
  rotate_left
  · obtain rfl : c = 14 := by rw [hc, if_pos h0]
    have y1 : (st != 0) = true := bne_iff_ne.2 h0
    clear hc hf h0
    go_enter Tryz.func73, Tryz.ntmps73
    go_wp2
    go_ret
    exact Deed.no H.out (by decide) (Below.refl _ _)
  subst h0
  rw [if_neg (by omega)] at hc
  by_cases h1 : L < n
  · obtain rfl : c = 16 := by rw [hc, if_pos h1]
    clear hc hf
    go_enter Tryz.func73, Tryz.ntmps73
    go_wp2_with fail
    ((with_reducible refine (HL.out _ H.out).mono ?_); rintro e w1 ⟨rfl, hb1⟩)
    go_wp2
    go_ret
    exact Deed.no H.out (by decide) hb1
  rw [if_neg h1] at hc
  subst hc
  have w1 : IntKind.i64.wrap (gd + n) = gd + n := IntWalk.i64_in _ (by omega)
  have w2 : IntKind.i64.wrap (bd + n) = bd + n := IntWalk.i64_in _ (by omega)
  obtain ⟨u1, q1⟩ : ∃ u, IntKind.i64.wrap (gd + n) = u := ⟨_, rfl⟩
  obtain ⟨u2, q2⟩ : ∃ u, IntKind.i64.wrap (bd + n) = u := ⟨_, rfl⟩
  rw [q1] at w1
  rw [q2] at w2
  rw [← w1, ← w2] at hf
  have HF := Lib.hid hf
  clear w1 w2 a0 a1 b0 b1 d0 d1 hn
  have hf2 : f = 2 ∨ f = 3 := hf.imp And.left And.left
  clear hf
  rcases hf2 with rfl | rfl
  · go_enter Tryz.func73, Tryz.ntmps73
    go_wp2_with fail
    ((with_reducible refine (HL.out _ H.out).mono ?_); rintro e w1 ⟨rfl, hb1⟩)
    have k2 : w1.cell? ⟨g, o + 2, none⟩ = some (.int .i64 gd) := (H.out.later hb1).c2
    have z2 : w1.frozen? ⟨g, o + 2, none⟩ = false := by rw [World.frozen?_of_block (hb1.block g hl)]; exact hz _
    go_wp2
    go_ret
    refine ⟨rfl, Below.cellP (hb1.mono (Nat.le_of_lt hl)) (Nat.le_refl _) _, fun _ => ?_⟩
    obtain ⟨-, rfl⟩ | ⟨q, -⟩ := HF.out
    · exact (PutC.refl H.out hb1).set (by decide) rfl
    · cases q
  · go_enter Tryz.func73, Tryz.ntmps73
    go_wp2_with fail
    ((with_reducible refine (HL.out _ H.out).mono ?_); rintro e w1 ⟨rfl, hb1⟩)
    have k2 : w1.cell? ⟨g, o + 3, none⟩ = some (.int .i64 bd) := (H.out.later hb1).c3
    have z2 : w1.frozen? ⟨g, o + 3, none⟩ = false := by rw [World.frozen?_of_block (hb1.block g hl)]; exact hz _
    go_wp2
    go_ret
    refine ⟨rfl, Below.cellP (hb1.mono (Nat.le_of_lt hl)) (Nat.le_refl _) _, fun _ => ?_⟩
    obtain ⟨q, -⟩ | ⟨-, rfl⟩ := HF.out
    · cases q
    · exact (PutC.refl H.out hb1).set (by decide) rfl
set_option maxRecDepth 100000 in
set_option maxHeartbeats 1000000 in
theorem settle_c (f : Nat) (x y : Rg.Lt) (g o : Nat) (n : Int) (w : World) (h : LotAt w g o x) (hz : ∀ j, w.frozen? ⟨g, j, none⟩ = false) (ht : Tame x) (hn : 0 ≤ n ∧ n ≤ 1048576)
    (hf : (f = 4 ∧ y = { x with bd := x.bd - n, cn := x.cn + n }) ∨ (f = 5 ∧ y = { x with bd := x.bd - n, sc := x.sc + n })) (c : Int) (hc : c = if x.st = 2 then 14 else if x.bd < n then 16 else 0) :
    Calls Tryz.prog 76 #[.pointer (some ⟨g, o, none⟩), .pointer (some ⟨g, o + f, none⟩), .int .i64 n] w (Deed w g o c y) := by
  have H := Lib.hid h
  obtain ⟨nm, sz, gd, bd, cn, sc, st⟩ := x
  simp only at hc
  obtain ⟨c0, c1, c2, c3, c4, c5, c6, hl⟩ := h
  simp only at c0 c1 c2 c3 c4 c5 c6
  obtain ⟨⟨a0, a1⟩, -, ⟨d0, d1⟩, ⟨e0, e1⟩, ⟨f0, f1⟩⟩ := ht
  simp only at a0 a1 d0 d1 e0 e1 f0 f1
  by_cases h0 : st = 2
  · obtain rfl : c = 14 := by rw [hc, if_pos h0]
    subst h0
    clear hc hf
    go_enter Tryz.func76, Tryz.ntmps76
    go_wp2
    go_ret
    exact Deed.no H.out (by decide) (Below.refl _ _)
  rw [if_neg h0] at hc
  have y0 : (st == 2) = false := beq_eq_false_iff_ne.2 h0
  by_cases h1 : bd < n
  · obtain rfl : c = 16 := by rw [hc, if_pos h1]
    clear hc hf
    go_enter Tryz.func76, Tryz.ntmps76
    go_wp2
    go_ret
    exact Deed.no H.out (by decide) (Below.refl _ _)
  rw [if_neg h1] at hc
  subst hc
  have w1 : IntKind.i64.wrap (bd - n) = bd - n := IntWalk.i64_in _ (by omega)
  have w2 : IntKind.i64.wrap (cn + n) = cn + n := IntWalk.i64_in _ (by omega)
  have w3 : IntKind.i64.wrap (sc + n) = sc + n := IntWalk.i64_in _ (by omega)
  obtain ⟨u1, q1⟩ : ∃ u, IntKind.i64.wrap (bd - n) = u := ⟨_, rfl⟩
  obtain ⟨u2, q2⟩ : ∃ u, IntKind.i64.wrap (cn + n) = u := ⟨_, rfl⟩
  obtain ⟨u3, q3⟩ : ∃ u, IntKind.i64.wrap (sc + n) = u := ⟨_, rfl⟩
  rw [q1] at w1
  rw [q2] at w2
  rw [q3] at w3
  rw [← w1, ← w2, ← w3] at hf
  have HF := Lib.hid hf
  have z3 := hz (o + 3); have z4 := hz (o + 4); have z5 := hz (o + 5)
  clear w1 w2 w3 a0 a1 d0 d1 e0 e1 f0 f1 hn h0
  have hf2 : f = 4 ∨ f = 5 := hf.imp And.left And.left
  have P1 := (PutC.refl H.out (Below.refl _ _)).set (f := 3) (y := ⟨nm, sz, gd, u1, cn, sc, st⟩) (v := .int .i64 u1) (by decide) rfl
  have k4 : (w.setCell ⟨g, o + 3, none⟩ (.int .i64 u1)).cell? ⟨g, o + 4, none⟩ = some (.int .i64 cn) := by
    rw [World.cell?_setCell_other _ _ _ _ (by simp)]; exact c4
  have k5 : (w.setCell ⟨g, o + 3, none⟩ (.int .i64 u1)).cell? ⟨g, o + 5, none⟩ = some (.int .i64 sc) := by
    rw [World.cell?_setCell_other _ _ _ _ (by simp)]; exact c5
  have HP := Lib.hid P1
  clear hf P1
  rcases hf2 with rfl | rfl
  · go_enter Tryz.func76, Tryz.ntmps76
    go_wp2
    go_ret
    refine ⟨rfl, Below.cellP (Below.cellP ((Below.refl _ _).mono (Nat.le_of_lt hl)) (Nat.le_refl _) _) (Nat.le_refl _) _, fun _ => ?_⟩
    obtain ⟨-, rfl⟩ | ⟨q, -⟩ := HF.out
    · exact HP.out.set (f := 4) (by decide) rfl
    · cases q
  · go_enter Tryz.func76, Tryz.ntmps76
    go_wp2
    go_ret
    refine ⟨rfl, Below.cellP (Below.cellP ((Below.refl _ _).mono (Nat.le_of_lt hl)) (Nat.le_refl _) _) (Nat.le_refl _) _, fun _ => ?_⟩
    obtain ⟨q, -⟩ | ⟨-, rfl⟩ := HF.out
    · cases q
    · exact HP.out.set (f := 5) (by decide) rfl
set_option maxRecDepth 100000 in
set_option maxHeartbeats 1000000 in
theorem proceed_c (s k : Int) (hs : s = 1 ∨ s = 2) (x y : Rg.Lt) (g o : Nat) (w : World) (h : LotAt w g o x) (hz : ∀ j, w.frozen? ⟨g, j, none⟩ = false) (hy : y = { x with st := s }) (c : Int) (hc : c = if x.st ≠ s - 1 then 14 else if 0 < k then 16 else 0) :
    Calls Tryz.prog 79 #[.pointer (some ⟨g, o, none⟩), .int .i64 s, .int .i64 k] w (Deed w g o c y) := by
  have H := Lib.hid h
  obtain ⟨nm, sz, gd, bd, cn, sc, st⟩ := x
  simp only at hc hy
  obtain ⟨c0, c1, c2, c3, c4, c5, c6, hl⟩ := h
  simp only at c0 c1 c2 c3 c4 c5 c6
  have z6 := hz (o + 6)
  subst hy
  rcases hs with rfl | rfl
  · by_cases h0 : st = 0
    rotate_left
    · obtain rfl : c = 14 := by rw [hc, if_pos (by omega)]
      have y1 : (st != 0) = true := bne_iff_ne.2 h0
      clear hc h0
      go_enter Tryz.func79, Tryz.ntmps79
      go_wp2
      go_ret
      exact Deed.no H.out (by decide) (Below.refl _ _)
    rw [if_neg (by omega)] at hc
    subst h0
    by_cases h1 : 0 < k
    · obtain rfl : c = 16 := by rw [hc, if_pos h1]
      clear hc
      go_enter Tryz.func79, Tryz.ntmps79
      go_wp2
      go_ret
      exact Deed.no H.out (by decide) (Below.refl _ _)
    rw [if_neg h1] at hc
    subst hc
    go_enter Tryz.func79, Tryz.ntmps79
    go_wp2
    go_ret
    refine ⟨rfl, Below.cellP ((Below.refl _ _).mono (Nat.le_of_lt hl)) (Nat.le_refl _) _, fun _ => ?_⟩
    exact (PutC.refl H.out (Below.refl _ _)).set (f := 6) (by decide) rfl
  · by_cases h0 : st = 1
    rotate_left
    · obtain rfl : c = 14 := by rw [hc, if_pos (by omega)]
      have y1 : (st != 1) = true := bne_iff_ne.2 h0
      clear hc h0
      go_enter Tryz.func79, Tryz.ntmps79
      go_wp2
      go_ret
      exact Deed.no H.out (by decide) (Below.refl _ _)
    rw [if_neg (by omega)] at hc
    subst h0
    by_cases h1 : 0 < k
    · obtain rfl : c = 16 := by rw [hc, if_pos h1]
      clear hc
      go_enter Tryz.func79, Tryz.ntmps79
      go_wp2
      go_ret
      exact Deed.no H.out (by decide) (Below.refl _ _)
    rw [if_neg h1] at hc
    subst hc
    go_enter Tryz.func79, Tryz.ntmps79
    go_wp2
    go_ret
    refine ⟨rfl, Below.cellP ((Below.refl _ _).mono (Nat.le_of_lt hl)) (Nat.le_refl _) _, fun _ => ?_⟩
    exact (PutC.refl H.out (Below.refl _ _)).set (f := 6) (by decide) rfl
end Go.Proofs.Wk
/- REGISTERS OF LOTS: the deeds of the kinds of entries. -/
namespace Go.Proofs.Wk
open Go.RowKit Mt

theorem Deed.eq {w w' : World} {g o : Nat} {c c' : Int} {y y' : Rg.Lt} {e : Ending} (h : Deed w g o c y e w') (hc : c = c') (hy : c = 0 → y = y') : Deed w g o c' y' e w' := by
  subst hc
  exact ⟨h.1, h.2.1, fun q => by rw [← hy q]; exact h.2.2 q⟩
theorem ifs {p q : Prop} [Decidable p] [Decidable q] {x y z : Rg.Lt} (hy : y = z) (c : Int) (hc : c = if p then 14 else if q then 16 else 0) :
    c = (if p then (x, (14 : Int)) else if q then (x, 16) else (y, 0)).2 ∧ (c = 0 → z = (if p then (x, (14 : Int)) else if q then (x, 16) else (y, 0)).1) := by
  subst hc hy
  by_cases h1 : p
  · simp [h1]
  · by_cases h2 : q
    · simp [h1, h2]
    · simp [h1, h2]
set_option maxRecDepth 100000 in
theorem rows1_c (x : Rg.Lt) (nm : Txt) (g o : Nat) (n : Int) (w : World) (h : LotAt w g o x) (hz : ∀ j, w.frozen? ⟨g, j, none⟩ = false) (ht : Tame x) (hn : 0 ≤ n ∧ n ≤ 1048576) :
    Calls Tryz.prog 72 #[.pointer (some ⟨g, o, none⟩), .int .i64 n] w (Deed w g o (Rg.changed x ⟨1, nm, n⟩).2 (Rg.changed x ⟨1, nm, n⟩).1) := by
  obtain ⟨c, hc⟩ : ∃ c : Int, c = if x.st ≠ 0 then 14 else if Rg.left x < n then 16 else 0 := ⟨_, rfl⟩
  have hI := ifs (p := x.st ≠ 0) (q := Rg.left x < n) (x := x) (y := { x with gd := x.gd + n }) rfl c hc
  rw [show (if x.st ≠ 0 then (x, (14 : Int)) else if Rg.left x < n then (x, 16) else ({ x with gd := x.gd + n }, 0)) = Rg.changed x ⟨1, nm, n⟩ from rfl] at hI
  obtain ⟨i1, i2⟩ := hI
  generalize Rg.changed x ⟨1, nm, n⟩ = R at *
  have HI := Lib.hid i2
  rw [← i1]
  have HJ := Lib.hid (judge_c 2 x _ g o n w h hz ht hn (.inl ⟨rfl, rfl⟩) c hc)
  clear i1 i2 hc
  have hcell := h.c3
  go_enter Tryz.func72, Tryz.ntmps72
  go_wp2_with fail
  ((with_reducible refine HJ.out.mono ?_); rintro e w1 hd; obtain rfl := hd.1)
  go_wp2
  go_ret
  exact hd.eq rfl HI.out
set_option maxRecDepth 100000 in
theorem rows2_c (x : Rg.Lt) (nm : Txt) (g o : Nat) (n : Int) (w : World) (h : LotAt w g o x) (hz : ∀ j, w.frozen? ⟨g, j, none⟩ = false) (ht : Tame x) (hn : 0 ≤ n ∧ n ≤ 1048576) :
    Calls Tryz.prog 74 #[.pointer (some ⟨g, o, none⟩), .int .i64 n] w (Deed w g o (Rg.changed x ⟨2, nm, n⟩).2 (Rg.changed x ⟨2, nm, n⟩).1) := by
  obtain ⟨c, hc⟩ : ∃ c : Int, c = if x.st ≠ 0 then 14 else if Rg.left x < n then 16 else 0 := ⟨_, rfl⟩
  have hI := ifs (p := x.st ≠ 0) (q := Rg.left x < n) (x := x) (y := { x with bd := x.bd + n }) rfl c hc
  rw [show (if x.st ≠ 0 then (x, (14 : Int)) else if Rg.left x < n then (x, 16) else ({ x with bd := x.bd + n }, 0)) = Rg.changed x ⟨2, nm, n⟩ from rfl] at hI
  obtain ⟨i1, i2⟩ := hI
  generalize Rg.changed x ⟨2, nm, n⟩ = R at *
  have HI := Lib.hid i2
  rw [← i1]
  have HJ := Lib.hid (judge_c 3 x _ g o n w h hz ht hn (.inr ⟨rfl, rfl⟩) c hc)
  clear i1 i2 hc
  have hcell := h.c3
  go_enter Tryz.func74, Tryz.ntmps74
  go_wp2_with fail
  ((with_reducible refine HJ.out.mono ?_); rintro e w1 hd; obtain rfl := hd.1)
  go_wp2
  go_ret
  exact hd.eq rfl HI.out
set_option maxRecDepth 100000 in
theorem rows3_c (x : Rg.Lt) (nm : Txt) (g o : Nat) (n : Int) (w : World) (h : LotAt w g o x) (hz : ∀ j, w.frozen? ⟨g, j, none⟩ = false) (ht : Tame x) (hn : 0 ≤ n ∧ n ≤ 1048576) :
    Calls Tryz.prog 75 #[.pointer (some ⟨g, o, none⟩), .int .i64 n] w (Deed w g o (Rg.changed x ⟨3, nm, n⟩).2 (Rg.changed x ⟨3, nm, n⟩).1) := by
  obtain ⟨c, hc⟩ : ∃ c : Int, c = if x.st = 2 then 14 else if x.bd < n then 16 else 0 := ⟨_, rfl⟩
  have hI := ifs (p := x.st = 2) (q := x.bd < n) (x := x) (y := { x with bd := x.bd - n, cn := x.cn + n }) rfl c hc
  rw [show (if x.st = 2 then (x, (14 : Int)) else if x.bd < n then (x, 16) else ({ x with bd := x.bd - n, cn := x.cn + n }, 0)) = Rg.changed x ⟨3, nm, n⟩ from rfl] at hI
  obtain ⟨i1, i2⟩ := hI
  generalize Rg.changed x ⟨3, nm, n⟩ = R at *
  have HI := Lib.hid i2
  rw [← i1]
  have HJ := Lib.hid (settle_c 4 x _ g o n w h hz ht hn (.inl ⟨rfl, rfl⟩) c hc)
  clear i1 i2 hc
  have hcell := h.c3
  go_enter Tryz.func75, Tryz.ntmps75
  go_wp2_with fail
  ((with_reducible refine HJ.out.mono ?_); rintro e w1 hd; obtain rfl := hd.1)
  go_wp2
  go_ret
  exact hd.eq rfl HI.out
set_option maxRecDepth 100000 in
theorem rows4_c (x : Rg.Lt) (nm : Txt) (g o : Nat) (n : Int) (w : World) (h : LotAt w g o x) (hz : ∀ j, w.frozen? ⟨g, j, none⟩ = false) (ht : Tame x) (hn : 0 ≤ n ∧ n ≤ 1048576) :
    Calls Tryz.prog 77 #[.pointer (some ⟨g, o, none⟩), .int .i64 n] w (Deed w g o (Rg.changed x ⟨4, nm, n⟩).2 (Rg.changed x ⟨4, nm, n⟩).1) := by
  obtain ⟨c, hc⟩ : ∃ c : Int, c = if x.st = 2 then 14 else if x.bd < n then 16 else 0 := ⟨_, rfl⟩
  have hI := ifs (p := x.st = 2) (q := x.bd < n) (x := x) (y := { x with bd := x.bd - n, sc := x.sc + n }) rfl c hc
  rw [show (if x.st = 2 then (x, (14 : Int)) else if x.bd < n then (x, 16) else ({ x with bd := x.bd - n, sc := x.sc + n }, 0)) = Rg.changed x ⟨4, nm, n⟩ from rfl] at hI
  obtain ⟨i1, i2⟩ := hI
  generalize Rg.changed x ⟨4, nm, n⟩ = R at *
  have HI := Lib.hid i2
  rw [← i1]
  have HJ := Lib.hid (settle_c 5 x _ g o n w h hz ht hn (.inr ⟨rfl, rfl⟩) c hc)
  clear i1 i2 hc
  have hcell := h.c3
  go_enter Tryz.func77, Tryz.ntmps77
  go_wp2_with fail
  ((with_reducible refine HJ.out.mono ?_); rintro e w1 hd; obtain rfl := hd.1)
  go_wp2
  go_ret
  exact hd.eq rfl HI.out
theorem Deed.before {w w1 w2 : World} {g o : Nat} {c : Int} {x y : Rg.Lt} {e : Ending} (hd : Deed w1 g o c y e w2) (h : LotAt w g o x) (hb : Below w.heap.size w w1) : Deed w g o c y e w2 :=
  ⟨hd.1, (hb.mono (Nat.le_of_lt h.lt)).trans hd.2.1, fun q j => by rw [hd.2.2 q j, hb.cell (p := ⟨g, j, none⟩) h.lt]⟩
set_option maxRecDepth 100000 in
theorem rows5_c (x : Rg.Lt) (nm : Txt) (g o : Nat) (n : Int) (w : World) (h : LotAt w g o x) (hz : ∀ j, w.frozen? ⟨g, j, none⟩ = false) (ht : Tame x) (_ : 0 ≤ n ∧ n ≤ 1048576) :
    Calls Tryz.prog 78 #[.pointer (some ⟨g, o, none⟩), .int .i64 n] w (Deed w g o (Rg.changed x ⟨5, nm, n⟩).2 (Rg.changed x ⟨5, nm, n⟩).1) := by
  obtain ⟨c, hc⟩ : ∃ c : Int, c = if x.st ≠ 0 then 14 else if 0 < Rg.left x then 16 else 0 := ⟨_, rfl⟩
  have hI := ifs (p := x.st ≠ 0) (q := 0 < Rg.left x) (x := x) (y := { x with st := 1 }) rfl c hc
  rw [show (if x.st ≠ 0 then (x, (14 : Int)) else if 0 < Rg.left x then (x, 16) else ({ x with st := 1 }, 0)) = Rg.changed x ⟨5, nm, n⟩ from rfl] at hI
  obtain ⟨i1, i2⟩ := hI
  generalize Rg.changed x ⟨5, nm, n⟩ = R at *
  have HI := Lib.hid i2
  rw [← i1]
  have H := Lib.hid h
  have HL := Lib.hid (left_c g o x w h ht)
  have HJ := Lib.hid (fun (W : World) (hb : Below w.heap.size w W) => proceed_c 1 (Rg.left x) (.inl rfl) x _ g o W (h.later hb) (fun j => by rw [World.frozen?_of_block (hb.block g h.lt)]; exact hz j) rfl c hc)
  generalize Rg.left x = L at *
  clear i1 i2 hc
  have hcell := h.c3
  go_enter Tryz.func78, Tryz.ntmps78
  go_wp2_with fail
  ((with_reducible refine HL.out.mono ?_); rintro e w1 ⟨rfl, hb1⟩)
  go_wp2_with fail
  ((with_reducible refine (HJ.out w1 hb1).mono ?_); rintro e w2 hd; obtain rfl := hd.1)
  go_wp2
  go_ret
  exact (hd.before H.out hb1).eq rfl HI.out
set_option maxRecDepth 100000 in
theorem rows6_c (x : Rg.Lt) (nm : Txt) (g o : Nat) (n : Int) (w : World) (h : LotAt w g o x) (hz : ∀ j, w.frozen? ⟨g, j, none⟩ = false) (_ : Tame x) (_ : 0 ≤ n ∧ n ≤ 1048576) :
    Calls Tryz.prog 81 #[.pointer (some ⟨g, o, none⟩), .int .i64 n] w (Deed w g o (Rg.changed x ⟨6, nm, n⟩).2 (Rg.changed x ⟨6, nm, n⟩).1) := by
  obtain ⟨c, hc⟩ : ∃ c : Int, c = if x.st ≠ 1 then 14 else if 0 < x.bd then 16 else 0 := ⟨_, rfl⟩
  have hI := ifs (p := x.st ≠ 1) (q := 0 < x.bd) (x := x) (y := { x with st := 2 }) rfl c hc
  rw [show (if x.st ≠ 1 then (x, (14 : Int)) else if 0 < x.bd then (x, 16) else ({ x with st := 2 }, 0)) = Rg.changed x ⟨6, nm, n⟩ from rfl] at hI
  obtain ⟨i1, i2⟩ := hI
  generalize Rg.changed x ⟨6, nm, n⟩ = R at *
  have HI := Lib.hid i2
  rw [← i1]
  have HJ := Lib.hid (proceed_c 2 x.bd (.inr rfl) x _ g o w h hz rfl c hc)
  clear i1 i2 hc
  have hcell := h.c3
  go_enter Tryz.func81, Tryz.ntmps81
  go_wp2_with fail
  ((with_reducible refine HJ.out.mono ?_); rintro e w1 hd; obtain rfl := hd.1)
  go_wp2
  go_ret
  exact hd.eq rfl HI.out
end Go.Proofs.Wk
