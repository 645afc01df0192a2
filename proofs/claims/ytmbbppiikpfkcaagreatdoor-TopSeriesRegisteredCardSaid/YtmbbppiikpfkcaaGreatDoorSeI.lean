/- A SERIES IN A REGISTER: what the law reads, plain. -/
import Derived.Test.YtmbbppiikpfkcaaGreatDoorVC
import Derived.Test.YtmbbppiikpfkcaaGreatDoorMD
import Derived.Test.YtmbbppiikpfkcaaGreatDoorLD
import Derived.Test.YtmbbppiikpfkcaaGreatDoorKG
import Derived.Test.YtmbbppiikpfkcaaGreatDoorKH
import Derived.Test.YtmbbppiikpfkcaaGreatDoorKF
namespace Rg
theorem serB_snoc (lo hi : Int) : ∀ (l : List Int) (x : Int), serB lo hi (l ++ [x]) = serB lo hi l + (if x < lo ∨ hi < x then 1 else 0)
  | [], x => by simp [serB]
  | v :: l, x => by
    rw [List.cons_append, serB, serB, serB_snoc lo hi l x]
    omega
end Rg
namespace Go.Proofs.Wk
open Go.RowKit Mt

theorem use_ser {n g b c s : Int} (h : Rg.chkE [Rg.serL n g b c s] = 0) : useL [Rg.serL n g b c s] [97] = (rtoa (Rat.divInt (g + c) n), 0) := by
  unfold useL
  rw [if_neg (by rw [h]; simp), if_neg (by rw [Rg.nameE_a]; simp), if_pos (Rg.has_a _ rfl), Rg.pos_a _ rfl]
  rfl
theorem rtoa_one {n : Int} (h : 0 < n) : rtoa (Rat.divInt n n) = [49] := by
  rw [show Rat.divInt n n = (1 : Rat) by rw [Rat.divInt_self' (by omega)]]
  decide +kernel
theorem ser_step {lo hi : Int} {ls : List Int} {i : Nat} (h : i < ls.length) : Rg.serM lo hi (ls.take i) ++ [⟨Rg.serK lo hi ls[i], [97], 1⟩] = Rg.serM lo hi (ls.take (i + 1)) ∧ Rg.serB lo hi (ls.take (i + 1)) = Rg.serB lo hi (ls.take i) + (if ls[i] < lo ∨ hi < ls[i] then 1 else 0) := by
  rw [← List.take_append_getElem h]
  refine ⟨?_, Rg.serB_snoc _ _ _ _⟩
  unfold Rg.serM
  rw [List.map_append]
  rfl
theorem new_en (W : World) (x : Rg.En) (T : TypeId) : ∀ j, j < Row.k Rg.En → (W.alloc (.cells #[.int .i64 x.k, .string ⟨x.lot.toArray⟩, .int .i64 x.n] T)).cell? ⟨W.heap.size, j, none⟩ = (Row.enc x)[j]? := fun j hj => by
  rw [cell_of_row _ _ _ _ _ _ (heap_alloc_new W _)]
  match j, hj with
  | 0, _ => rfl
  | 1, _ => rfl
  | 2, _ => rfl
theorem first_en (W : World) (x : Rg.En) (T : TypeId) : OwX T (W.alloc (.cells #[.int .i64 x.k, .string ⟨x.lot.toArray⟩, .int .i64 x.n] T)) W.heap.size (.slice (some ⟨W.heap.size, 0, none⟩) 1 1) [x] :=
  OwX.mk (ls := [x]) (Nat.le_refl _) (heap_alloc_new W _) (Nat.le_refl _) (by decide) rfl ⟨[], by rw [rcells_one]; rfl⟩
/-- What the register of a series is asked for. -/
structure SerF (lo hi : Int) (ls : List Int) (g b : Int) (es : List Rg.En) (L : Txt) : Prop where
  all : Rg.allL es = ([Rg.serL ls.length g b 0 1], 0, 0)
  use : useL [Rg.serL ls.length g b 0 1] [97] = (shT lo hi ls, 0)
  jrn : Rg.journL es = (L, 0)
  len : L.length ≤ 1200
  lod : Rg.loadL L = ([Rg.serL ls.length g b 0 1], (es.length : Int), 0)
  lot : ∀ x ∈ es, x.lot.length ≤ 140737488355328
  few : es.length ≤ 20
  no : 0 < b → Rg.doL [Rg.serL ls.length g b 0 1] ⟨6, [97], 0⟩ = ([], 16) ∧ Rg.doL [Rg.serL ls.length g b 0 1] ⟨3, [97], b⟩ = ([Rg.serL ls.length g 0 b 1], 0) ∧ Rg.doL [Rg.serL ls.length g 0 b 1] ⟨6, [97], 0⟩ = ([Rg.serL ls.length g 0 b 2], 0) ∧ useL [Rg.serL ls.length g 0 b 2] [97] = ([49], 0)
  yes : b = 0 → Rg.doL [Rg.serL ls.length g b 0 1] ⟨6, [97], 0⟩ = ([Rg.serL ls.length g 0 0 2], 0) ∧ useL [Rg.serL ls.length g 0 0 2] [97] = ([49], 0)
theorem ser_f (lo hi : Int) (ls : List Int) (h1 : 1 ≤ ls.length) (h16 : ls.length ≤ 16) : SerF lo hi ls (ls.length - Rg.serB lo hi ls) (Rg.serB lo hi ls) (Rg.serE lo hi ls) (Rg.linesF 1 (Rg.serE lo hi ls)) := by
  have hb := Rg.serB_bd lo hi ls
  have ha := Rg.all_ser lo hi ls h1 h16
  have h20 : (Rg.serE lo hi ls).length ≤ 20 := by rw [Rg.ser_len]; omega
  have ha2 : (Rg.allL (Rg.serE lo hi ls)).2.2 = 0 := by rw [ha]
  have hn : (1 : Int) ≤ ls.length ∧ (ls.length : Int) ≤ 16 := by omega
  have hc : Rg.chkE [Rg.serL ls.length (ls.length - Rg.serB lo hi ls) (Rg.serB lo hi ls) 0 1] = 0 := Rg.chk_ser (Rg.lot_ser hn (by omega) hb.1 (Int.le_refl 0) (by omega) (by omega) (by omega))
  refine ⟨ha, ?_, ?_, ?_, ?_, ?_, h20, fun hp => ⟨Rg.ship_no hn (by omega) hp (by omega), Rg.concede_ok hn (by omega) hp (by omega), Rg.ship_ok hn (by omega) (by omega) (by omega), ?_⟩, fun h0 => ⟨?_, ?_⟩⟩
  · rw [use_ser hc, Int.add_zero]
    rfl
  · unfold Rg.journL
    rw [if_neg (by rw [ha2]; simp)]
  · have := Rg.lines_le _ 1 (Rg.allL_right ha2)
    omega
  · rw [(Rg.whole_load ha2 h20).1, ha]
  · intro x hx
    have : x.lot = [97] := by
      unfold Rg.serE Rg.serM at hx
      simp only [List.cons_append, List.mem_cons, List.mem_append, List.mem_map, List.not_mem_nil, or_false] at hx
      rcases hx with rfl | ⟨v, _, rfl⟩ | rfl <;> rfl
    rw [this]
    decide
  · rw [use_ser (Rg.chk_ser (Rg.lot_ser hn (by omega) (Int.le_refl 0) hb.1 (by omega) (by omega) (by omega))), Int.sub_add_cancel, rtoa_one (by omega)]
  · rw [h0, Int.sub_zero]
    exact Rg.ship_ok hn (by omega) (Int.le_refl 0) (by omega)
  · rw [h0, Int.sub_zero, use_ser (Rg.chk_ser (Rg.lot_ser hn (by omega) (Int.le_refl 0) (Int.le_refl 0) (by omega) (by omega) (by omega))), Int.add_zero, rtoa_one (by omega)]
theorem far_bd {ls : List Int} (h : plV ls = true) : 2 ≤ ls.length ∧ ls.length ≤ 16 ∧ ∀ x ∈ ls, -999 ≤ x ∧ x ≤ 999 := by
  unfold plV at h
  simp only [Bool.and_eq_true, decide_eq_true_eq, Bool.not_eq_true'] at h
  obtain ⟨⟨h1, h2⟩, h3⟩ := h
  refine ⟨h1, h2, fun x hx => ?_⟩
  have := List.any_eq_false.1 h3 x hx
  unfold farB at this
  simp at this
  exact this
end Go.Proofs.Wk
