/- REGISTERS OF LOTS: their rows; names. -/
import Derived.Test.YtdpjkfkmlaphhaaGreatDoorKA
import Derived.Test.YtdpjkfkmlaphhaaGreatDoorKB
import Derived.Lib.ConvBytes
import Derived.Deep.QuietTactic
import Derived.BigQuiet
import Derived.RegionTactic
import Derived.ChangeAlike
namespace Go.Proofs.Wk
open Go.RowKit Mt

abbrev lotC (x : Rg.Lt) : List Value := [.string ⟨x.nm.toArray⟩, .int .i64 x.sz, .int .i64 x.gd, .int .i64 x.bd, .int .i64 x.cn, .int .i64 x.sc, .int .i64 x.st]
abbrev entC (x : Rg.En) : List Value := [.int .i64 x.k, .string ⟨x.lot.toArray⟩, .int .i64 x.n]
abbrev lotV (x : Rg.Lt) : Value := .agg #[.string ⟨x.nm.toArray⟩, .int .i64 x.sz, .int .i64 x.gd, .int .i64 x.bd, .int .i64 x.cn, .int .i64 x.sc, .int .i64 x.st]
abbrev entV (x : Rg.En) : Value := .agg #[.int .i64 x.k, .string ⟨x.lot.toArray⟩, .int .i64 x.n]
instance : Row Rg.Lt where
  enc := lotC
  k := 7
  len _ := rfl
  pos := by decide
  one a u hu := by
    simp only [lotC, List.mem_cons, List.not_mem_nil, or_false] at hu
    rcases hu with rfl | rfl | rfl | rfl | rfl | rfl | rfl <;> rfl
instance : Row Rg.En where
  enc := entC
  k := 3
  len _ := rfl
  pos := by decide
  one a u hu := by
    simp only [entC, List.mem_cons, List.not_mem_nil, or_false] at hu
    rcases hu with rfl | rfl | rfl <;> rfl
theorem RX.lot {w : World} {b off : Nat} {ls : List Rg.Lt} (h : RX w b off ls) {i : Nat} (hi : i < ls.length) :
    w.cell? ⟨b, off + i * 7, none⟩ = some (.string ⟨ls[i].nm.toArray⟩) ∧ w.cell? ⟨b, off + i * 7 + 1, none⟩ = some (.int .i64 ls[i].sz) ∧ w.cell? ⟨b, off + i * 7 + 2, none⟩ = some (.int .i64 ls[i].gd) ∧
    w.cell? ⟨b, off + i * 7 + 3, none⟩ = some (.int .i64 ls[i].bd) ∧ w.cell? ⟨b, off + i * 7 + 4, none⟩ = some (.int .i64 ls[i].cn) ∧ w.cell? ⟨b, off + i * 7 + 5, none⟩ = some (.int .i64 ls[i].sc) ∧
    w.cell? ⟨b, off + i * 7 + 6, none⟩ = some (.int .i64 ls[i].st) :=
  ⟨h i hi 0 (by decide), h i hi 1 (by decide), h i hi 2 (by decide), h i hi 3 (by decide), h i hi 4 (by decide), h i hi 5 (by decide), h i hi 6 (by decide)⟩
theorem RX.ent {w : World} {b off : Nat} {ls : List Rg.En} (h : RX w b off ls) {i : Nat} (hi : i < ls.length) :
    w.cell? ⟨b, off + i * 3, none⟩ = some (.int .i64 ls[i].k) ∧ w.cell? ⟨b, off + i * 3 + 1, none⟩ = some (.string ⟨ls[i].lot.toArray⟩) ∧ w.cell? ⟨b, off + i * 3 + 2, none⟩ = some (.int .i64 ls[i].n) :=
  ⟨h i hi 0 (by decide), h i hi 1 (by decide), h i hi 2 (by decide)⟩

theorem u8_le (a b : UInt8) : decide (a ≤ b) = decide (a.toNat ≤ b.toNat) := rfl
theorem letB_iff (c : UInt8) : Rg.letB c = true ↔ (65 ≤ c.toNat ∧ c.toNat ≤ 90) ∨ (97 ≤ c.toNat ∧ c.toNat ≤ 122) := by
  unfold Rg.letB
  simp only [Bool.or_eq_true, Bool.and_eq_true, decide_eq_true_eq, UInt8.le_iff_toNat_le]
  rfl
theorem digB_iff (c : UInt8) : Rg.digB c = true ↔ 48 ≤ c.toNat ∧ c.toNat ≤ 57 := by
  unfold Rg.digB
  simp only [Bool.and_eq_true, decide_eq_true_eq, UInt8.le_iff_toNat_le]
  rfl
end Go.Proofs.Wk
/- REGISTERS OF LOTS: names, in the program and in the reference. -/
namespace Go.Proofs.Wk
open Go.RowKit Mt

set_option maxHeartbeats 400000 in
theorem letter_c (c : UInt8) (w : World) : Calls Tryz.prog 209 #[.int .u8 (c.toNat : Int)] w (Pur w (.bool (Rg.letB c))) := by
  have HL := letB_iff c
  generalize Rg.letB c = b at *
  have hlt := c.toNat_lt
  generalize c.toNat = n at *
  rcases (by omega : n < 65 ∨ (65 ≤ n ∧ n ≤ 90) ∨ (90 < n ∧ n < 97) ∨ (97 ≤ n ∧ n ≤ 122) ∨ 122 < n) with h | ⟨h, h'⟩ | ⟨h, h'⟩ | ⟨h, h'⟩ | h
  · obtain rfl : b = false := by cases b with
      | false => rfl
      | true => exact absurd (HL.1 rfl) (by omega)
    clear HL
    go_enter Tryz.func209, Tryz.ntmps209; go_wp2; go_ret; refine ⟨ret_bool ?_, rfl⟩; first | rfl | (simp; done) | (simp; omega)
  · obtain rfl : b = true := HL.2 (by omega)
    clear HL
    go_enter Tryz.func209, Tryz.ntmps209; go_wp2; go_ret; refine ⟨ret_bool ?_, rfl⟩; first | rfl | (simp; done) | (simp; omega)
  · obtain rfl : b = false := by cases b with
      | false => rfl
      | true => exact absurd (HL.1 rfl) (by omega)
    clear HL
    go_enter Tryz.func209, Tryz.ntmps209; go_wp2; go_ret; refine ⟨ret_bool ?_, rfl⟩; first | rfl | (simp; done) | (simp; omega)
  · obtain rfl : b = true := HL.2 (by omega)
    clear HL
    go_enter Tryz.func209, Tryz.ntmps209; go_wp2; go_ret; refine ⟨ret_bool ?_, rfl⟩; first | rfl | (simp; done) | (simp; omega)
  · obtain rfl : b = false := by cases b with
      | false => rfl
      | true => exact absurd (HL.1 rfl) (by omega)
    clear HL
    go_enter Tryz.func209, Tryz.ntmps209; go_wp2; go_ret; refine ⟨ret_bool ?_, rfl⟩; first | rfl | (simp; done) | (simp; omega)
set_option maxHeartbeats 400000 in
theorem rletter_c (c : UInt8) (w : World) : Calls Tryz.prog 241 #[.int .u8 (c.toNat : Int)] w (Pur w (.bool (Rg.letB c))) := by
  have HL := letB_iff c
  generalize Rg.letB c = b at *
  have hlt := c.toNat_lt
  generalize c.toNat = n at *
  rcases (by omega : n < 65 ∨ (65 ≤ n ∧ n ≤ 90) ∨ (90 < n ∧ n < 97) ∨ (97 ≤ n ∧ n ≤ 122) ∨ 122 < n) with h | ⟨h, h'⟩ | ⟨h, h'⟩ | ⟨h, h'⟩ | h
  · obtain rfl : b = false := by cases b with
      | false => rfl
      | true => exact absurd (HL.1 rfl) (by omega)
    clear HL
    go_enter Tryz.func241, Tryz.ntmps241; go_wp2; go_ret; refine ⟨ret_bool ?_, rfl⟩; first | rfl | (simp; done) | (simp; omega)
  · obtain rfl : b = true := HL.2 (by omega)
    clear HL
    go_enter Tryz.func241, Tryz.ntmps241; go_wp2; go_ret; refine ⟨ret_bool ?_, rfl⟩; first | rfl | (simp; done) | (simp; omega)
  · obtain rfl : b = false := by cases b with
      | false => rfl
      | true => exact absurd (HL.1 rfl) (by omega)
    clear HL
    go_enter Tryz.func241, Tryz.ntmps241; go_wp2; go_ret; refine ⟨ret_bool ?_, rfl⟩; first | rfl | (simp; done) | (simp; omega)
  · obtain rfl : b = true := HL.2 (by omega)
    clear HL
    go_enter Tryz.func241, Tryz.ntmps241; go_wp2; go_ret; refine ⟨ret_bool ?_, rfl⟩; first | rfl | (simp; done) | (simp; omega)
  · obtain rfl : b = false := by cases b with
      | false => rfl
      | true => exact absurd (HL.1 rfl) (by omega)
    clear HL
    go_enter Tryz.func241, Tryz.ntmps241; go_wp2; go_ret; refine ⟨ret_bool ?_, rfl⟩; first | rfl | (simp; done) | (simp; omega)
set_option maxHeartbeats 400000 in
theorem digit_c (c : UInt8) (w : World) : Calls Tryz.prog 210 #[.int .u8 (c.toNat : Int)] w (Pur w (.bool (Rg.digB c))) := by
  have HL := digB_iff c
  generalize Rg.digB c = b at *
  have hlt := c.toNat_lt
  generalize c.toNat = n at *
  rcases (by omega : n < 48 ∨ (48 ≤ n ∧ n ≤ 57) ∨ 57 < n) with h | ⟨h, h'⟩ | h
  · obtain rfl : b = false := by cases b with
      | false => rfl
      | true => exact absurd (HL.1 rfl) (by omega)
    clear HL
    go_enter Tryz.func210, Tryz.ntmps210; go_wp2; go_ret; refine ⟨ret_bool ?_, rfl⟩; first | rfl | (simp; done) | (simp; omega)
  · obtain rfl : b = true := HL.2 (by omega)
    clear HL
    go_enter Tryz.func210, Tryz.ntmps210; go_wp2; go_ret; refine ⟨ret_bool ?_, rfl⟩; first | rfl | (simp; done) | (simp; omega)
  · obtain rfl : b = false := by cases b with
      | false => rfl
      | true => exact absurd (HL.1 rfl) (by omega)
    clear HL
    go_enter Tryz.func210, Tryz.ntmps210; go_wp2; go_ret; refine ⟨ret_bool ?_, rfl⟩; first | rfl | (simp; done) | (simp; omega)
theorem name_all {s : Txt} {i : Nat} (hi : i < s.length) (h : s.all Rg.ldB = true) : Rg.ldB s[i] = true := List.all_eq_true.1 h _ (List.getElem_mem hi)
theorem nameE_bad {s : Txt} (hl : s.length ≤ 24) {i : Nat} (hi : i < s.length) (h : Rg.ldB s[i] = false) : Rg.nameE s = 3 := by
  unfold Rg.nameE
  rw [if_neg (by omega), if_neg]
  rintro ⟨-, h2⟩
  rw [name_all hi h2] at h; cases h
theorem nameE_head {c : UInt8} {s : Txt} (hl : (c :: s).length ≤ 24) (h : Rg.letB c = false) : Rg.nameE (c :: s) = 3 := by
  unfold Rg.nameE
  rw [if_neg (by omega), if_neg]
  rintro ⟨h1, -⟩
  simp [h] at h1
theorem nameE_ok {c : UInt8} {s : Txt} (hl : (c :: s).length ≤ 24) (h : Rg.letB c = true) (h2 : (c :: s).all Rg.ldB = true) : Rg.nameE (c :: s) = 0 := by
  unfold Rg.nameE
  rw [if_neg (by omega), if_pos ⟨by simp [h], h2⟩]
theorem all_take {s : Txt} {i : Nat} (hi : i < s.length) (h : (s.take i).all Rg.ldB = true) (hd : Rg.ldB s[i] = true) : (s.take (i + 1)).all Rg.ldB = true := by
  rw [List.take_succ_eq_append_getElem hi, List.all_append, h]; simp [hd]
theorem below_bytes (w : World) (e : TypeId) (s : ByteArray) : Below w.heap.size w (Lib.bytesWorld w e s) := by
  refine ⟨rfl, rfl, rfl, by rw [Lib.bytesWorld_size]; omega, fun k hk => Lib.bytesWorld_at_old w e s k hk⟩
set_option maxRecDepth 100000 in
set_option maxHeartbeats 1000000 in
theorem dname_c (s : Txt) (w : World) (hs : s.length ≤ 140737488355328) : Calls Tryz.prog 155 #[.string ⟨s.toArray⟩] w (Ret w (.int .i64 (Rg.nameE s))) := by
  by_cases h24 : 24 < s.length
  · rw [show Rg.nameE s = 17 by unfold Rg.nameE; rw [if_pos h24]]
    go_enter Tryz.func155, Tryz.ntmps155
    go_wp2
    go_ret
    exact ⟨rfl, Below.refl _ _⟩
  · cases s with
    | nil =>
      go_enter Tryz.func155, Tryz.ntmps155
      go_wp2
      go_ret
      exact ⟨rfl, Below.refl _ _⟩
    | cons c t =>
      have HC := Lib.hid (fun W => letter_c c W)
      have hz : ¬ (24 : Int) < (t.length : Int) + 1 := by simp only [List.length_cons] at h24; omega
      cases hl : Rg.letB c with
      | false =>
        rw [nameE_head (by omega) hl]
        rw [hl] at HC
        clear hl
        go_enter Tryz.func155, Tryz.ntmps155
        go_wp2_with fail
        ((with_reducible refine (HC.out _).mono ?_); rintro e w' ⟨rfl, rfl⟩)
        go_wp2
        go_ret
        exact ⟨rfl, Below.refl _ _⟩
      | true =>
        have hbad := fun i hi => nameE_bad (s := c :: t) (by omega) (i := i) hi
        have hok := nameE_ok (c := c) (s := t) (by omega) hl
        generalize Rg.nameE (c :: t) = v at *
        rw [hl] at HC
        clear hl
        have hconv := Lib.run_convert_string_bytes (P := Tryz.prog) w 9 162 5 ⟨(c :: t).toArray⟩ (u := .string) Tryz.underlying9 Tryz.underlying162 Tryz.underlying5
        go_enter Tryz.func155, Tryz.ntmps155
        go_wp2_with fail
        ((with_reducible refine (HC.out _).mono ?_); rintro e w' ⟨rfl, rfl⟩)
        obtain ⟨s, hs0⟩ : ∃ s, c :: t = s := ⟨_, rfl⟩
        rw [hs0] at hbad hok hconv hs h24 ⊢
        have HBAD := Lib.hid hbad
        have HOK := Lib.hid hok
        clear hbad hok hs0 hz h24
        go_wp2_with fail
        clear hconv
        go_loop [19] (fun si => ∃ i : Nat, si = .int .i64 i ∧ i ≤ s.length ∧ Hid ((s.take i).all Rg.ldB = true)) (fun si => s.length - (intOf si).toNat)
        case atStart => exact ⟨0, rfl, Nat.zero_le _, rfl⟩
        case round =>
          obtain ⟨i, rfl, hi, ha⟩ := hrel
          by_cases hlt : i < s.length
          · have k1 : (Lib.bytesWorld w 5 ⟨s.toArray⟩).cell? ⟨w.heap.size, i, none⟩ = some (.int .u8 (s[i].toNat : Int)) := by
              rw [Lib.bytesWorld_cell w _ _ i (by simpa [ByteArray.size] using hlt)]
              simp [hlt]
            have HL := Lib.hid (fun W => letter_c s[i] W)
            have HD := Lib.hid (fun W => digit_c s[i] W)
            cases e1 : Rg.letB s[i] with
            | true =>
              have HT := Lib.hid (all_take hlt ha.out (by unfold Rg.ldB; rw [e1]; rfl))
              rw [e1] at HL
              clear e1 HD ha
              go_wp2_with fail
              ((with_reducible refine (HL.out _).mono ?_); rintro e w' ⟨rfl, rfl⟩)
              go_wp2
              go_round
              case rel => exact ⟨i + 1, by go_num, by omega, HT.out⟩
              case measure => simp [intOf]; omega
            | false =>
              rw [e1] at HL
              cases e2 : Rg.digB s[i] with
              | true =>
                have HT := Lib.hid (all_take hlt ha.out (by unfold Rg.ldB; rw [e1, e2]; rfl))
                rw [e2] at HD
                clear e1 e2 ha
                go_wp2_with fail
                ((with_reducible refine (HL.out _).mono ?_); rintro e w' ⟨rfl, rfl⟩)
                go_wp2_with fail
                ((with_reducible refine (HD.out _).mono ?_); rintro e w' ⟨rfl, rfl⟩)
                go_wp2
                go_round
                case rel => exact ⟨i + 1, by go_num, by omega, HT.out⟩
                case measure => simp [intOf]; omega
              | false =>
                obtain rfl : v = 3 := HBAD.out i hlt (by unfold Rg.ldB; rw [e1, e2]; rfl)
                rw [e2] at HD
                clear e1 e2 ha
                go_wp2_with fail
                ((with_reducible refine (HL.out _).mono ?_); rintro e w' ⟨rfl, rfl⟩)
                go_wp2_with fail
                ((with_reducible refine (HD.out _).mono ?_); rintro e w' ⟨rfl, rfl⟩)
                go_wp2
                go_ret
                exact ⟨rfl, below_bytes w _ _⟩
          · obtain rfl : i = s.length := by omega
            have h0 := ha.out
            rw [List.take_length] at h0
            obtain rfl : v = 0 := HOK.out h0
            clear ha h0
            go_wp2
            go_ret
            exact ⟨rfl, below_bytes w _ _⟩
set_option maxRecDepth 100000 in
set_option maxHeartbeats 1000000 in
theorem rname_c (s : Txt) (w : World) (hs : s.length ≤ 140737488355328) : Calls Tryz.prog 186 #[.string ⟨s.toArray⟩] w (Pur w (.int .i64 (Rg.nameE s))) := by
  by_cases h24 : 24 < s.length
  · rw [show Rg.nameE s = 17 by unfold Rg.nameE; rw [if_pos h24]]
    go_enter Tryz.func186, Tryz.ntmps186
    go_wp2
    go_ret
    exact ⟨rfl, rfl⟩
  · cases s with
    | nil =>
      go_enter Tryz.func186, Tryz.ntmps186
      go_wp2
      go_ret
      exact ⟨rfl, rfl⟩
    | cons c t =>
      have HC := Lib.hid (fun W => rletter_c c W)
      have hz : ¬ (24 : Int) < (t.length : Int) + 1 := by simp only [List.length_cons] at h24; omega
      have hz0 : ((t.length : Int) + 1 == 0) = false := beq_eq_false_iff_ne.2 (by omega)
      cases hl : Rg.letB c with
      | false =>
        rw [nameE_head (by omega) hl]
        rw [hl] at HC
        clear hl
        go_enter Tryz.func186, Tryz.ntmps186
        go_wp2_with fail
        ((with_reducible refine (HC.out _).mono ?_); rintro e w' ⟨rfl, rfl⟩)
        go_wp2
        go_ret
        exact ⟨rfl, rfl⟩
      | true =>
        have hbad := fun i hi => nameE_bad (s := c :: t) (by omega) (i := i) hi
        have hok := nameE_ok (c := c) (s := t) (by omega) hl
        generalize Rg.nameE (c :: t) = v at *
        rw [hl] at HC
        clear hl
        go_enter Tryz.func186, Tryz.ntmps186
        go_wp2_with fail
        ((with_reducible refine (HC.out _).mono ?_); rintro e w' ⟨rfl, rfl⟩)
        obtain ⟨s, hs0⟩ : ∃ s, c :: t = s := ⟨_, rfl⟩
        rw [hs0] at hbad hok hs h24 ⊢
        have HBAD := Lib.hid hbad
        have HOK := Lib.hid hok
        clear hbad hok hs0 hz hz0 h24
        go_wp2_with fail
        go_loop [3] (fun si => ∃ i : Nat, si = .int .i64 i ∧ i ≤ s.length ∧ Hid ((s.take i).all Rg.ldB = true)) (fun si => s.length - (intOf si).toNat)
        case atStart => exact ⟨0, rfl, Nat.zero_le _, rfl⟩
        case round =>
          obtain ⟨i, rfl, hi, ha⟩ := hrel
          by_cases hlt : i < s.length
          · have HL := Lib.hid (fun W => rletter_c s[i] W)
            cases e1 : Rg.letB s[i] with
            | true =>
              have HT := Lib.hid (all_take hlt ha.out (by unfold Rg.ldB; rw [e1]; rfl))
              rw [e1] at HL
              clear e1 ha
              go_wp2_with fail
              ((with_reducible refine (HL.out _).mono ?_); rintro e w' ⟨rfl, rfl⟩)
              go_wp2
              go_round
              case rel => exact ⟨i + 1, by go_num, by omega, HT.out⟩
              case measure => simp [intOf]; omega
            | false =>
              rw [e1] at HL
              have hd := digB_iff s[i]
              by_cases h48 : 48 ≤ s[i].toNat
              · by_cases h57 : s[i].toNat ≤ 57
                · have HT := Lib.hid (all_take hlt ha.out (by unfold Rg.ldB; rw [e1, hd.2 ⟨h48, h57⟩]; rfl))
                  clear e1 ha hd
                  go_wp2_with fail
                  ((with_reducible refine (HL.out _).mono ?_); rintro e w' ⟨rfl, rfl⟩)
                  go_wp2
                  go_round
                  case rel => exact ⟨i + 1, by go_num, by omega, HT.out⟩
                  case measure => simp [intOf]; omega
                · have e2 : Rg.digB s[i] = false := by cases h : Rg.digB s[i] with
                    | false => rfl
                    | true => exact absurd (hd.1 h).2 h57
                  obtain rfl : v = 3 := HBAD.out i hlt (by unfold Rg.ldB; rw [e1, e2]; rfl)
                  have h58 : 57 < s[i].toNat := by omega
                  clear e1 e2 ha hd h57
                  go_wp2_with fail
                  ((with_reducible refine (HL.out _).mono ?_); rintro e w' ⟨rfl, rfl⟩)
                  go_wp2
                  go_ret
                  exact ⟨rfl, rfl⟩
              · have e2 : Rg.digB s[i] = false := by cases h : Rg.digB s[i] with
                  | false => rfl
                  | true => exact absurd (hd.1 h).1 h48
                obtain rfl : v = 3 := HBAD.out i hlt (by unfold Rg.ldB; rw [e1, e2]; rfl)
                have h47 : s[i].toNat < 48 := by omega
                clear e1 e2 ha hd h48
                go_wp2_with fail
                ((with_reducible refine (HL.out _).mono ?_); rintro e w' ⟨rfl, rfl⟩)
                go_wp2
                go_ret
                exact ⟨rfl, rfl⟩
          · obtain rfl : i = s.length := by omega
            have h0 := ha.out
            rw [List.take_length] at h0
            obtain rfl : v = 0 := HOK.out h0
            clear ha h0
            go_wp2
            go_ret
            exact ⟨rfl, rfl⟩
end Go.Proofs.Wk
/- REGISTERS OF LOTS: a lot by itself. -/
namespace Go.Proofs.Wk
open Go.RowKit Mt

/-- A lot that lies at an address. -/
structure LotAt (w : World) (b o : Nat) (x : Rg.Lt) : Prop where
  c0 : w.cell? ⟨b, o, none⟩ = some (.string ⟨x.nm.toArray⟩)
  c1 : w.cell? ⟨b, o + 1, none⟩ = some (.int .i64 x.sz)
  c2 : w.cell? ⟨b, o + 2, none⟩ = some (.int .i64 x.gd)
  c3 : w.cell? ⟨b, o + 3, none⟩ = some (.int .i64 x.bd)
  c4 : w.cell? ⟨b, o + 4, none⟩ = some (.int .i64 x.cn)
  c5 : w.cell? ⟨b, o + 5, none⟩ = some (.int .i64 x.sc)
  c6 : w.cell? ⟨b, o + 6, none⟩ = some (.int .i64 x.st)
  lt : b < w.heap.size
theorem LotAt.below {w w' : World} {b o B : Nat} {x : Rg.Lt} (h : LotAt w b o x) (hb : Below B w w') (hl : b < B) : LotAt w' b o x :=
  ⟨by rw [hb.cell (p := ⟨b, o, none⟩) hl]; exact h.c0, by rw [hb.cell (p := ⟨b, o + 1, none⟩) hl]; exact h.c1, by rw [hb.cell (p := ⟨b, o + 2, none⟩) hl]; exact h.c2,
   by rw [hb.cell (p := ⟨b, o + 3, none⟩) hl]; exact h.c3, by rw [hb.cell (p := ⟨b, o + 4, none⟩) hl]; exact h.c4, by rw [hb.cell (p := ⟨b, o + 5, none⟩) hl]; exact h.c5, by rw [hb.cell (p := ⟨b, o + 6, none⟩) hl]; exact h.c6, Nat.lt_of_lt_of_le h.lt hb.size⟩
theorem LotAt.later {w w' : World} {b o : Nat} {x : Rg.Lt} (h : LotAt w b o x) (hb : Below w.heap.size w w') : LotAt w' b o x := h.below hb h.lt
theorem below_dN {B : Nat} {w0 w : World} (h : Below B w0 w) (k : Nat) : Below B w0 (w.drewN k) := ⟨h.os, h.tape, h.output, h.size, h.block⟩
/-- Parts of a lot within its size. -/
def Tame (x : Rg.Lt) : Prop := (0 ≤ x.sz ∧ x.sz ≤ 1048576) ∧ (0 ≤ x.gd ∧ x.gd ≤ x.sz) ∧ (0 ≤ x.bd ∧ x.bd ≤ x.sz) ∧ (0 ≤ x.cn ∧ x.cn ≤ x.sz) ∧ (0 ≤ x.sc ∧ x.sc ≤ x.sz)
theorem below_dr {B : Nat} {w0 w : World} (h : Below B w0 w) : Below B w0 w.drew := ⟨h.os, h.tape, h.output, h.size, h.block⟩
theorem four_bad {gd bd cn sc sz : Int} {i : Nat} (hi : i < [gd, bd, cn, sc].length) (h : [gd, bd, cn, sc][i] < 0 ∨ sz < [gd, bd, cn, sc][i]) : (gd < 0 ∨ sz < gd) ∨ (bd < 0 ∨ sz < bd) ∨ (cn < 0 ∨ sz < cn) ∨ (sc < 0 ∨ sz < sc) := by
  match i, hi, h with
  | 0, _, h => exact .inl h
  | 1, _, h => exact .inr (.inl h)
  | 2, _, h => exact .inr (.inr (.inl h))
  | 3, _, h => exact .inr (.inr (.inr h))
theorem four_ok {gd bd cn sc sz : Int} (h : ∀ j (hj : j < [gd, bd, cn, sc].length), j < 4 → 0 ≤ [gd, bd, cn, sc][j] ∧ [gd, bd, cn, sc][j] ≤ sz) : (0 ≤ gd ∧ gd ≤ sz) ∧ (0 ≤ bd ∧ bd ≤ sz) ∧ (0 ≤ cn ∧ cn ≤ sz) ∧ (0 ≤ sc ∧ sc ≤ sz) :=
  ⟨h 0 (show 0 < 4 by decide) (by decide), h 1 (show 1 < 4 by decide) (by decide), h 2 (show 2 < 4 by decide) (by decide), h 3 (show 3 < 4 by decide) (by decide)⟩
theorem four_cell {w : World} {gd bd cn sc : Int} {T : TypeId} {i : Nat} (hi : i < [gd, bd, cn, sc].length) : (w.alloc (.cells #[.int .i64 gd, .int .i64 bd, .int .i64 cn, .int .i64 sc] T)).cell? ⟨w.heap.size, i, none⟩ = some (.int .i64 [gd, bd, cn, sc][i]) := by
  rw [cell_of_row _ _ _ _ _ _ (heap_alloc_new w _)]
  match i, hi with
  | 0, _ => rfl
  | 1, _ => rfl
  | 2, _ => rfl
  | 3, _ => rfl
end Go.Proofs.Wk
/- REGISTERS OF LOTS: a lot by itself, in the reference. -/
namespace Go.Proofs.Wk
open Go.RowKit Mt

theorem LotAt.box (w : World) (x : Rg.Lt) (T : TypeId) : LotAt (w.alloc (.cells #[.string ⟨x.nm.toArray⟩, .int .i64 x.sz, .int .i64 x.gd, .int .i64 x.bd, .int .i64 x.cn, .int .i64 x.sc, .int .i64 x.st] T)) w.heap.size 0 x := by
  have h := heap_alloc_new w (.cells #[.string ⟨x.nm.toArray⟩, .int .i64 x.sz, .int .i64 x.gd, .int .i64 x.bd, .int .i64 x.cn, .int .i64 x.sc, .int .i64 x.st] T)
  refine ⟨?_, ?_, ?_, ?_, ?_, ?_, ?_, alloc_lt _ _⟩
  all_goals (rw [cell_of_row _ _ _ _ _ _ h]; rfl)
end Go.Proofs.Wk
