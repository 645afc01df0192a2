/- THE LAWS' HELPER 'short': whether all texts are canonical and short. -/
import Derived.Test.YtjljappilpkelaaDoorWhV
import Derived.Test.YtjljappilpkelaaDoorRefS
namespace Go.Proofs.Wk
open Go.RowKit Mt

def shortB (l : Txt) : Bool := decide (l.length ≤ 50) && (chk l == 0)
theorem shortB_iff {l : Txt} : shortB l = true ↔ l.length ≤ 50 ∧ chk l = 0 := by unfold shortB; simp
def allShort (ls : List Txt) : Bool := ls.all shortB
theorem allShort_drop {ls : List Txt} {i : Nat} (h : i < ls.length) : allShort (ls.drop i) = (shortB ls[i] && allShort (ls.drop (i + 1))) := by
  unfold allShort; rw [List.drop_eq_getElem_cons h]; rfl
theorem allShort_end (ls : List Txt) : allShort (ls.drop ls.length) = true := by simp [allShort]
theorem shortB_no1 {l : Txt} (h : 50 < l.length) : shortB l = false := by unfold shortB; rw [decide_eq_false (by omega)]; rfl
theorem shortB_no2 {l : Txt} (h : chk l ≠ 0) : shortB l = false := by unfold shortB; simp [h]
set_option maxRecDepth 100000 in
set_option maxHeartbeats 1000000 in
theorem short_c (b off c : Nat) (ls : List Txt) (w : World) (hls : ls.length ≤ 140737488355328) (hlen : ∀ l ∈ ls, l.length ≤ 140737488355328) (hR : RS w b off ls) :
    Calls Tryd.prog 7 #[.slice (some ⟨b, off, none⟩) ls.length c] w (Pur w (.bool (allShort ls))) := by
  have HR := Lib.hid hR; have HL := Lib.hid hlen; have HE := Lib.hid (allShort_end ls)
  clear hR hlen
  obtain ⟨n, hn⟩ : ∃ n, ls.length = n := ⟨_, rfl⟩
  rw [hn] at hls HE ⊢
  have HN := Lib.hid hn
  clear hn
  go_enter Tryd.func7, Tryd.ntmps7
  go_wp2
  go_loop [7] (fun si => ∃ i : Nat, si = .int .i64 i ∧ i ≤ n ∧ Hid (allShort (ls.drop i) = allShort ls)) (fun si => n - (intOf si).toNat)
  case atStart => exact ⟨0, rfl, Nat.zero_le _, rfl⟩
  case round =>
    obtain ⟨i, rfl, hi, hA⟩ := hrel
    by_cases hlt : i < n
    · have hil : i < ls.length := by rw [HN.out]; exact hlt
      have hc := HR.out i hil
      have hd := allShort_drop hil
      have hll := HL.out ls[i] (List.getElem_mem hil)
      obtain ⟨l, hl⟩ : ∃ l, ls[i] = l := ⟨_, rfl⟩
      rw [hl] at hc hd hll
      have HD := Lib.hid hd
      clear hd hl
      by_cases h1 : 50 < l.length
      · have h1' : (50 : Int) < (l.length : Int) := by omega
        have HS := Lib.hid (shortB_no1 h1)
        clear h1
        go_wp2
        go_ret
        exact ⟨ret_bool (by rw [← hA.out, HD.out, HS.out]; rfl), rfl⟩
      · have h1' : ¬ (50 : Int) < (l.length : Int) := by omega
        have HC := Lib.hid (fun W => Check_c l W hll)
        by_cases h2 : chk l = 0
        · have HS := Lib.hid (shortB_iff.2 ⟨by omega, h2⟩)
          rw [h2] at HC
          clear h1 h2
          go_wp2_with fail
          refine (HC.out _).mono ?_; rintro e w' ⟨rfl, rfl⟩
          go_wp2
          go_round
          case rel => exact ⟨i + 1, by go_num, by omega, by show _ = _; rw [← hA.out, HD.out, HS.out]; rfl⟩
          case measure => simp [intOf]; omega
        · have HS := Lib.hid (shortB_no2 h2)
          have h3 := bne_ne h2
          generalize chk l = x at *
          clear h1 h2
          go_wp2_with fail
          refine (HC.out _).mono ?_; rintro e w' ⟨rfl, rfl⟩
          go_wp2
          go_ret
          exact ⟨ret_bool (by rw [← hA.out, HD.out, HS.out]; rfl), rfl⟩
    · obtain rfl : i = n := by omega
      go_wp2
      go_ret
      exact ⟨ret_bool (by rw [← hA.out, HE.out]), rfl⟩
/-- Texts that are short are those of integers. -/
theorem short_int {l : Txt} (h : shortB l = true) : ∃ n : Int, l = Lib.itoa n ∧ lng n ≤ 50 := by
  obtain ⟨h1, h2⟩ := shortB_iff.1 h
  obtain ⟨e, -⟩ := ok_text h2
  exact ⟨val l, e.symm, by have := lng_itoa_lo (val l); rw [e] at this; omega⟩
theorem all3 (a b c : Txt) : allShort [a, b, c] = true ↔ shortB a = true ∧ shortB b = true ∧ shortB c = true := by simp [allShort]
theorem all2 (a b : Txt) : allShort [a, b] = true ↔ shortB a = true ∧ shortB b = true := by simp [allShort]
theorem RS.three (w : World) (a b c : List UInt8) (t : TypeId) : RS (w.alloc (.cells #[.string ⟨a.toArray⟩, .string ⟨b.toArray⟩, .string ⟨c.toArray⟩] t)) w.heap.size 0 [a, b, c] := by
  intro j hj
  rw [cell_of_row _ _ _ _ _ _ (heap_alloc_new w _)]
  match j, hj with
  | 0, _ => rfl
  | 1, _ => rfl
  | 2, _ => rfl
theorem short3 (a b c : Txt) (w : World) (ha : a.length ≤ 140737488355328) (hb : b.length ≤ 140737488355328) (hc : c.length ≤ 140737488355328) (t : TypeId) :
    Calls Tryd.prog 7 #[.slice (some ⟨w.heap.size, 0, none⟩) 3 3] (w.alloc (.cells #[.string ⟨a.toArray⟩, .string ⟨b.toArray⟩, .string ⟨c.toArray⟩] t)) (fun e w' => e = .returned (.bool (allShort [a, b, c])) ∧ Below w.heap.size w w') :=
  (short_c w.heap.size 0 3 [a, b, c] _ (by simp) (by simp [ha, hb, hc]) (RS.three w a b c t)).mono (by
    rintro e w' ⟨rfl, rfl⟩
    exact ⟨rfl, (Below.refl _ _).alloc (Nat.le_refl _) _⟩)
theorem short2 (a b : Txt) (w : World) (ha : a.length ≤ 140737488355328) (hb : b.length ≤ 140737488355328) (t : TypeId) :
    Calls Tryd.prog 7 #[.slice (some ⟨w.heap.size, 0, none⟩) 2 2] (w.alloc (.cells #[.string ⟨a.toArray⟩, .string ⟨b.toArray⟩] t)) (fun e w' => e = .returned (.bool (allShort [a, b])) ∧ Below w.heap.size w w') :=
  (short_c w.heap.size 0 2 [a, b] _ (by simp) (by simp [ha, hb]) (RS.two w a b t)).mono (by
    rintro e w' ⟨rfl, rfl⟩
    exact ⟨rfl, (Below.refl _ _).alloc (Nat.le_refl _) _⟩)
theorem RS.one (w : World) (a : List UInt8) (t : TypeId) : RS (w.alloc (.cells #[.string ⟨a.toArray⟩] t)) w.heap.size 0 [a] := by
  intro j hj
  rw [cell_of_row _ _ _ _ _ _ (heap_alloc_new w _)]
  match j, hj with
  | 0, _ => rfl
theorem short1 (a : Txt) (w : World) (ha : a.length ≤ 140737488355328) (t : TypeId) :
    Calls Tryd.prog 7 #[.slice (some ⟨w.heap.size, 0, none⟩) 1 1] (w.alloc (.cells #[.string ⟨a.toArray⟩] t)) (fun e w' => e = .returned (.bool (allShort [a])) ∧ Below w.heap.size w w') :=
  (short_c w.heap.size 0 1 [a] _ (by simp) (by simp [ha]) (RS.one w a t)).mono (by
    rintro e w' ⟨rfl, rfl⟩
    exact ⟨rfl, (Below.refl _ _).alloc (Nat.le_refl _) _⟩)
end Go.Proofs.Wk
