/- REGISTERS OF LOTS: their rows; names. -/
import Derived.Test.YtmbbppiikpfkcaaGreatDoorKA
import Derived.Test.YtmbbppiikpfkcaaGreatDoorKB
import Derived.Lib.ConvBytes
import Derived.Deep.QuietTactic
import Derived.BigQuiet
import Derived.RegionTactic
import Derived.ChangeAlike
namespace Go.Proofs.Wk
open Go.RowKit Mt

abbrev lotC (x : Rg.Lt) : List Value := [.string ⟨x.nm.toArray⟩, .int .i64 x.sz, .int .i64 x.gd, .int .i64 x.bd, .int .i64 x.cn, .int .i64 x.sc, .int .i64 x.st]
abbrev entC (x : Rg.En) : List Value := [.int .i64 x.k, .string ⟨x.lot.toArray⟩, .int .i64 x.n]
abbrev lotV (x : Rg.Lt) : Value := .agg #[.string ⟨x.nm.toArray⟩, .int .i64 x.sz, .int .i64 x.gd, .int .i64 x.bd, .int .i64 x.cn, .int .i64 x.sc, .int .i64 x.st]
abbrev entV (x : Rg.En) : Value := .agg #[.int .i64 x.k, .string ⟨x.lot.toArray⟩, .int .i64 x.n]
instance : Row Rg.Lt where
  enc := lotC
  k := 7
  len _ := rfl
  pos := by decide
  one a u hu := by
    simp only [lotC, List.mem_cons, List.not_mem_nil, or_false] at hu
    rcases hu with rfl | rfl | rfl | rfl | rfl | rfl | rfl <;> rfl
instance : Row Rg.En where
  enc := entC
  k := 3
  len _ := rfl
  pos := by decide
  one a u hu := by
    simp only [entC, List.mem_cons, List.not_mem_nil, or_false] at hu
    rcases hu with rfl | rfl | rfl <;> rfl
theorem RX.lot {w : World} {b off : Nat} {ls : List Rg.Lt} (h : RX w b off ls) {i : Nat} (hi : i < ls.length) :
    w.cell? ⟨b, off + i * 7, none⟩ = some (.string ⟨ls[i].nm.toArray⟩) ∧ w.cell? ⟨b, off + i * 7 + 1, none⟩ = some (.int .i64 ls[i].sz) ∧ w.cell? ⟨b, off + i * 7 + 2, none⟩ = some (.int .i64 ls[i].gd) ∧
    w.cell? ⟨b, off + i * 7 + 3, none⟩ = some (.int .i64 ls[i].bd) ∧ w.cell? ⟨b, off + i * 7 + 4, none⟩ = some (.int .i64 ls[i].cn) ∧ w.cell? ⟨b, off + i * 7 + 5, none⟩ = some (.int .i64 ls[i].sc) ∧
    w.cell? ⟨b, off + i * 7 + 6, none⟩ = some (.int .i64 ls[i].st) :=
  ⟨h i hi 0 (by decide), h i hi 1 (by decide), h i hi 2 (by decide), h i hi 3 (by decide), h i hi 4 (by decide), h i hi 5 (by decide), h i hi 6 (by decide)⟩
theorem RX.ent {w : World} {b off : Nat} {ls : List Rg.En} (h : RX w b off ls) {i : Nat} (hi : i < ls.length) :
    w.cell? ⟨b, off + i * 3, none⟩ = some (.int .i64 ls[i].k) ∧ w.cell? ⟨b, off + i * 3 + 1, none⟩ = some (.string ⟨ls[i].lot.toArray⟩) ∧ w.cell? ⟨b, off + i * 3 + 2, none⟩ = some (.int .i64 ls[i].n) :=
  ⟨h i hi 0 (by decide), h i hi 1 (by decide), h i hi 2 (by decide)⟩

theorem u8_le (a b : UInt8) : decide (a ≤ b) = decide (a.toNat ≤ b.toNat) := rfl
theorem letB_iff (c : UInt8) : Rg.letB c = true ↔ (65 ≤ c.toNat ∧ c.toNat ≤ 90) ∨ (97 ≤ c.toNat ∧ c.toNat ≤ 122) := by
  unfold Rg.letB
  simp only [Bool.or_eq_true, Bool.and_eq_true, decide_eq_true_eq, UInt8.le_iff_toNat_le]
  rfl
theorem digB_iff (c : UInt8) : Rg.digB c = true ↔ 48 ≤ c.toNat ∧ c.toNat ≤ 57 := by
  unfold Rg.digB
  simp only [Bool.and_eq_true, decide_eq_true_eq, UInt8.le_iff_toNat_le]
  rfl
end Go.Proofs.Wk
/- REGISTERS OF LOTS: names, in the program and in the reference. -/
namespace Go.Proofs.Wk
open Go.RowKit Mt

set_option maxHeartbeats 400000 in
theorem letter_c (c : UInt8) (w : World) : Calls Tryz.prog 50 #[.int .u8 (c.toNat : Int)] w (Pur w (.bool (Rg.letB c))) := by
  have HL := letB_iff c
  generalize Rg.letB c = b at *
  have hlt := c.toNat_lt
  generalize c.toNat = n at *
  rcases (by omega : n < 65 ∨ (65 ≤ n ∧ n ≤ 90) ∨ (90 < n ∧ n < 97) ∨ (97 ≤ n ∧ n ≤ 122) ∨ 122 < n) with h | ⟨h, h'⟩ | ⟨h, h'⟩ | ⟨h, h'⟩ | h
  · obtain rfl : b = false := by cases b with
      | false => rfl
      | true => exact absurd (HL.1 rfl) (by omega)
    clear HL
    go_enter Tryz.func50, Tryz.ntmps50; go_wp2; go_ret; refine ⟨ret_bool ?_, rfl⟩; first | rfl | (simp; done) | (simp; omega)
  · obtain rfl : b = true := HL.2 (by omega)
    clear HL
    go_enter Tryz.func50, Tryz.ntmps50; go_wp2; go_ret; refine ⟨ret_bool ?_, rfl⟩; first | rfl | (simp; done) | (simp; omega)
  · obtain rfl : b = false := by cases b with
      | false => rfl
      | true => exact absurd (HL.1 rfl) (by omega)
    clear HL
    go_enter Tryz.func50, Tryz.ntmps50; go_wp2; go_ret; refine ⟨ret_bool ?_, rfl⟩; first | rfl | (simp; done) | (simp; omega)
  · obtain rfl : b = true := HL.2 (by omega)
    clear HL
    go_enter Tryz.func50, Tryz.ntmps50; go_wp2; go_ret; refine ⟨ret_bool ?_, rfl⟩; first | rfl | (simp; done) | (simp; omega)
  · obtain rfl : b = false := by cases b with
      | false => rfl
      | true => exact absurd (HL.1 rfl) (by omega)
    clear HL
    go_enter Tryz.func50, Tryz.ntmps50; go_wp2; go_ret; refine ⟨ret_bool ?_, rfl⟩; first | rfl | (simp; done) | (simp; omega)
set_option maxHeartbeats 400000 in
theorem digit_c (c : UInt8) (w : World) : Calls Tryz.prog 51 #[.int .u8 (c.toNat : Int)] w (Pur w (.bool (Rg.digB c))) := by
  have HL := digB_iff c
  generalize Rg.digB c = b at *
  have hlt := c.toNat_lt
  generalize c.toNat = n at *
  rcases (by omega : n < 48 ∨ (48 ≤ n ∧ n ≤ 57) ∨ 57 < n) with h | ⟨h, h'⟩ | h
  · obtain rfl : b = false := by cases b with
      | false => rfl
      | true => exact absurd (HL.1 rfl) (by omega)
    clear HL
    go_enter Tryz.func51, Tryz.ntmps51; go_wp2; go_ret; refine ⟨ret_bool ?_, rfl⟩; first | rfl | (simp; done) | (simp; omega)
  · obtain rfl : b = true := HL.2 (by omega)
    clear HL
    go_enter Tryz.func51, Tryz.ntmps51; go_wp2; go_ret; refine ⟨ret_bool ?_, rfl⟩; first | rfl | (simp; done) | (simp; omega)
  · obtain rfl : b = false := by cases b with
      | false => rfl
      | true => exact absurd (HL.1 rfl) (by omega)
    clear HL
    go_enter Tryz.func51, Tryz.ntmps51; go_wp2; go_ret; refine ⟨ret_bool ?_, rfl⟩; first | rfl | (simp; done) | (simp; omega)
theorem name_all {s : Txt} {i : Nat} (hi : i < s.length) (h : s.all Rg.ldB = true) : Rg.ldB s[i] = true := List.all_eq_true.1 h _ (List.getElem_mem hi)
theorem nameE_bad {s : Txt} (hl : s.length ≤ 24) {i : Nat} (hi : i < s.length) (h : Rg.ldB s[i] = false) : Rg.nameE s = 3 := by
  unfold Rg.nameE
  rw [if_neg (by omega), if_neg]
  rintro ⟨-, h2⟩
  rw [name_all hi h2] at h; cases h
theorem nameE_head {c : UInt8} {s : Txt} (hl : (c :: s).length ≤ 24) (h : Rg.letB c = false) : Rg.nameE (c :: s) = 3 := by
  unfold Rg.nameE
  rw [if_neg (by omega), if_neg]
  rintro ⟨h1, -⟩
  simp [h] at h1
theorem nameE_ok {c : UInt8} {s : Txt} (hl : (c :: s).length ≤ 24) (h : Rg.letB c = true) (h2 : (c :: s).all Rg.ldB = true) : Rg.nameE (c :: s) = 0 := by
  unfold Rg.nameE
  rw [if_neg (by omega), if_pos ⟨by simp [h], h2⟩]
theorem all_take {s : Txt} {i : Nat} (hi : i < s.length) (h : (s.take i).all Rg.ldB = true) (hd : Rg.ldB s[i] = true) : (s.take (i + 1)).all Rg.ldB = true := by
  rw [List.take_succ_eq_append_getElem hi, List.all_append, h]; simp [hd]
theorem below_bytes (w : World) (e : TypeId) (s : ByteArray) : Below w.heap.size w (Lib.bytesWorld w e s) := by
  refine ⟨rfl, rfl, rfl, by rw [Lib.bytesWorld_size]; omega, fun k hk => Lib.bytesWorld_at_old w e s k hk⟩
set_option maxRecDepth 100000 in
set_option maxHeartbeats 1000000 in
theorem dname_c (s : Txt) (w : World) (hs : s.length ≤ 140737488355328) : Calls Tryz.prog 24 #[.string ⟨s.toArray⟩] w (Ret w (.int .i64 (Rg.nameE s))) := by
  by_cases h24 : 24 < s.length
  · rw [show Rg.nameE s = 17 by unfold Rg.nameE; rw [if_pos h24]]
    go_enter Tryz.func24, Tryz.ntmps24
    go_wp2
    go_ret
    exact ⟨rfl, Below.refl _ _⟩
  · cases s with
    | nil =>
      go_enter Tryz.func24, Tryz.ntmps24
      go_wp2
      go_ret
      exact ⟨rfl, Below.refl _ _⟩
    | cons c t =>
      have HC := Lib.hid (fun W => letter_c c W)
      have hz : ¬ (24 : Int) < (t.length : Int) + 1 := by simp only [List.length_cons] at h24; omega
      cases hl : Rg.letB c with
      | false =>
        rw [nameE_head (by omega) hl]
        rw [hl] at HC
        clear hl
        go_enter Tryz.func24, Tryz.ntmps24
        go_wp2_with fail
        ((with_reducible refine (HC.out _).mono ?_); rintro e w' ⟨rfl, rfl⟩)
        go_wp2
        go_ret
        exact ⟨rfl, Below.refl _ _⟩
      | true =>
        have hbad := fun i hi => nameE_bad (s := c :: t) (by omega) (i := i) hi
        have hok := nameE_ok (c := c) (s := t) (by omega) hl
        generalize Rg.nameE (c :: t) = v at *
        rw [hl] at HC
        clear hl
        have hconv := Lib.run_convert_string_bytes (P := Tryz.prog) w 9 67 5 ⟨(c :: t).toArray⟩ (u := .string) Tryz.underlying9 Tryz.underlying67 Tryz.underlying5
        go_enter Tryz.func24, Tryz.ntmps24
        go_wp2_with fail
        ((with_reducible refine (HC.out _).mono ?_); rintro e w' ⟨rfl, rfl⟩)
        obtain ⟨s, hs0⟩ : ∃ s, c :: t = s := ⟨_, rfl⟩
        rw [hs0] at hbad hok hconv hs h24 ⊢
        have HBAD := Lib.hid hbad
        have HOK := Lib.hid hok
        clear hbad hok hs0 hz h24
        go_wp2_with fail
        clear hconv
        go_loop [19] (fun si => ∃ i : Nat, si = .int .i64 i ∧ i ≤ s.length ∧ Hid ((s.take i).all Rg.ldB = true)) (fun si => s.length - (intOf si).toNat)
        case atStart => exact ⟨0, rfl, Nat.zero_le _, rfl⟩
        case round =>
          obtain ⟨i, rfl, hi, ha⟩ := hrel
          by_cases hlt : i < s.length
          · have k1 : (Lib.bytesWorld w 5 ⟨s.toArray⟩).cell? ⟨w.heap.size, i, none⟩ = some (.int .u8 (s[i].toNat : Int)) := by
              rw [Lib.bytesWorld_cell w _ _ i (by simpa [ByteArray.size] using hlt)]
              simp [hlt]
            have HL := Lib.hid (fun W => letter_c s[i] W)
            have HD := Lib.hid (fun W => digit_c s[i] W)
            cases e1 : Rg.letB s[i] with
            | true =>
              have HT := Lib.hid (all_take hlt ha.out (by unfold Rg.ldB; rw [e1]; rfl))
              rw [e1] at HL
              clear e1 HD ha
              go_wp2_with fail
              ((with_reducible refine (HL.out _).mono ?_); rintro e w' ⟨rfl, rfl⟩)
              go_wp2
              go_round
              case rel => exact ⟨i + 1, by go_num, by omega, HT.out⟩
              case measure => simp [intOf]; omega
            | false =>
              rw [e1] at HL
              cases e2 : Rg.digB s[i] with
              | true =>
                have HT := Lib.hid (all_take hlt ha.out (by unfold Rg.ldB; rw [e1, e2]; rfl))
                rw [e2] at HD
                clear e1 e2 ha
                go_wp2_with fail
                ((with_reducible refine (HL.out _).mono ?_); rintro e w' ⟨rfl, rfl⟩)
                go_wp2_with fail
                ((with_reducible refine (HD.out _).mono ?_); rintro e w' ⟨rfl, rfl⟩)
                go_wp2
                go_round
                case rel => exact ⟨i + 1, by go_num, by omega, HT.out⟩
                case measure => simp [intOf]; omega
              | false =>
                obtain rfl : v = 3 := HBAD.out i hlt (by unfold Rg.ldB; rw [e1, e2]; rfl)
                rw [e2] at HD
                clear e1 e2 ha
                go_wp2_with fail
                ((with_reducible refine (HL.out _).mono ?_); rintro e w' ⟨rfl, rfl⟩)
                go_wp2_with fail
                ((with_reducible refine (HD.out _).mono ?_); rintro e w' ⟨rfl, rfl⟩)
                go_wp2
                go_ret
                exact ⟨rfl, below_bytes w _ _⟩
          · obtain rfl : i = s.length := by omega
            have h0 := ha.out
            rw [List.take_length] at h0
            obtain rfl : v = 0 := HOK.out h0
            clear ha h0
            go_wp2
            go_ret
            exact ⟨rfl, below_bytes w _ _⟩
end Go.Proofs.Wk
/- REGISTERS OF LOTS: a lot by itself. -/
namespace Go.Proofs.Wk
open Go.RowKit Mt

/-- A lot that lies at an address. -/
structure LotAt (w : World) (b o : Nat) (x : Rg.Lt) : Prop where
  c0 : w.cell? ⟨b, o, none⟩ = some (.string ⟨x.nm.toArray⟩)
  c1 : w.cell? ⟨b, o + 1, none⟩ = some (.int .i64 x.sz)
  c2 : w.cell? ⟨b, o + 2, none⟩ = some (.int .i64 x.gd)
  c3 : w.cell? ⟨b, o + 3, none⟩ = some (.int .i64 x.bd)
  c4 : w.cell? ⟨b, o + 4, none⟩ = some (.int .i64 x.cn)
  c5 : w.cell? ⟨b, o + 5, none⟩ = some (.int .i64 x.sc)
  c6 : w.cell? ⟨b, o + 6, none⟩ = some (.int .i64 x.st)
  lt : b < w.heap.size
theorem LotAt.below {w w' : World} {b o B : Nat} {x : Rg.Lt} (h : LotAt w b o x) (hb : Below B w w') (hl : b < B) : LotAt w' b o x :=
  ⟨by rw [hb.cell (p := ⟨b, o, none⟩) hl]; exact h.c0, by rw [hb.cell (p := ⟨b, o + 1, none⟩) hl]; exact h.c1, by rw [hb.cell (p := ⟨b, o + 2, none⟩) hl]; exact h.c2,
   by rw [hb.cell (p := ⟨b, o + 3, none⟩) hl]; exact h.c3, by rw [hb.cell (p := ⟨b, o + 4, none⟩) hl]; exact h.c4, by rw [hb.cell (p := ⟨b, o + 5, none⟩) hl]; exact h.c5, by rw [hb.cell (p := ⟨b, o + 6, none⟩) hl]; exact h.c6, Nat.lt_of_lt_of_le h.lt hb.size⟩
theorem LotAt.later {w w' : World} {b o : Nat} {x : Rg.Lt} (h : LotAt w b o x) (hb : Below w.heap.size w w') : LotAt w' b o x := h.below hb h.lt
theorem below_dN {B : Nat} {w0 w : World} (h : Below B w0 w) (k : Nat) : Below B w0 (w.drewN k) := ⟨h.os, h.tape, h.output, h.size, h.block⟩
/-- Parts of a lot within its size. -/
def Tame (x : Rg.Lt) : Prop := (0 ≤ x.sz ∧ x.sz ≤ 1048576) ∧ (0 ≤ x.gd ∧ x.gd ≤ x.sz) ∧ (0 ≤ x.bd ∧ x.bd ≤ x.sz) ∧ (0 ≤ x.cn ∧ x.cn ≤ x.sz) ∧ (0 ≤ x.sc ∧ x.sc ≤ x.sz)
set_option maxRecDepth 100000 in
set_option maxHeartbeats 1000000 in
theorem left_c (b o : Nat) (x : Rg.Lt) (w : World) (h : LotAt w b o x) (ht : Tame x) : Calls Tryz.prog 80 #[.pointer (some ⟨b, o, none⟩)] w (Ret w (.int .i64 (Rg.left x))) := by
  obtain ⟨nm, sz, gd, bd, cn, sc, st⟩ := x
  obtain ⟨c0, c1, c2, c3, c4, c5, c6, hl⟩ := h
  obtain ⟨⟨a0, a1⟩, ⟨b0, b1⟩, ⟨d0, d1⟩, ⟨e0, e1⟩, ⟨f0, f1⟩⟩ := ht
  simp only at c0 c1 c2 c3 c4 c5 c6 a0 a1 b0 b1 d0 d1 e0 e1 f0 f1
  have w1 : IntKind.i64.wrap (sz - gd) = sz - gd := IntWalk.i64_in _ (by omega)
  have w2 : IntKind.i64.wrap (sz - gd - bd) = sz - gd - bd := IntWalk.i64_in _ (by omega)
  have w3 : IntKind.i64.wrap (sz - gd - bd - cn) = sz - gd - bd - cn := IntWalk.i64_in _ (by omega)
  have w4 : IntKind.i64.wrap (sz - gd - bd - cn - sc) = sz - gd - bd - cn - sc := IntWalk.i64_in _ (by omega)
  show Calls _ _ _ _ (Ret w (.int .i64 (sz - gd - bd - cn - sc)))
  obtain ⟨u1, q1⟩ : ∃ u, sz - gd = u := ⟨_, rfl⟩
  rw [q1] at w1 w2 w3 w4 ⊢
  obtain ⟨u2, q2⟩ : ∃ u, u1 - bd = u := ⟨_, rfl⟩
  rw [q2] at w2 w3 w4 ⊢
  obtain ⟨u3, q3⟩ : ∃ u, u2 - cn = u := ⟨_, rfl⟩
  rw [q3] at w3 w4 ⊢
  obtain ⟨u4, q4⟩ : ∃ u, u3 - sc = u := ⟨_, rfl⟩
  rw [q4] at w4 ⊢
  have j1 : IntKind.i64.wrap (sz - gd) = u1 := by rw [q1]; exact w1
  have j2 : IntKind.i64.wrap (u1 - bd) = u2 := by rw [q2]; exact w2
  have j3 : IntKind.i64.wrap (u2 - cn) = u3 := by rw [q3]; exact w3
  have j4 : IntKind.i64.wrap (u3 - sc) = u4 := by rw [q4]; exact w4
  clear w1 w2 w3 w4 q1 q2 q3 q4 a0 a1 b0 b1 d0 d1 e0 e1 f0 f1
  go_enter Tryz.func80, Tryz.ntmps80
  go_wp2_with fail
  go_quiet (fail)
  go_wp2
  go_ret
  exact ⟨rfl, below_dN (Below.refl _ _) _⟩
theorem below_dr {B : Nat} {w0 w : World} (h : Below B w0 w) : Below B w0 w.drew := ⟨h.os, h.tape, h.output, h.size, h.block⟩
theorem four_bad {gd bd cn sc sz : Int} {i : Nat} (hi : i < [gd, bd, cn, sc].length) (h : [gd, bd, cn, sc][i] < 0 ∨ sz < [gd, bd, cn, sc][i]) : (gd < 0 ∨ sz < gd) ∨ (bd < 0 ∨ sz < bd) ∨ (cn < 0 ∨ sz < cn) ∨ (sc < 0 ∨ sz < sc) := by
  match i, hi, h with
  | 0, _, h => exact .inl h
  | 1, _, h => exact .inr (.inl h)
  | 2, _, h => exact .inr (.inr (.inl h))
  | 3, _, h => exact .inr (.inr (.inr h))
theorem four_ok {gd bd cn sc sz : Int} (h : ∀ j (hj : j < [gd, bd, cn, sc].length), j < 4 → 0 ≤ [gd, bd, cn, sc][j] ∧ [gd, bd, cn, sc][j] ≤ sz) : (0 ≤ gd ∧ gd ≤ sz) ∧ (0 ≤ bd ∧ bd ≤ sz) ∧ (0 ≤ cn ∧ cn ≤ sz) ∧ (0 ≤ sc ∧ sc ≤ sz) :=
  ⟨h 0 (show 0 < 4 by decide) (by decide), h 1 (show 1 < 4 by decide) (by decide), h 2 (show 2 < 4 by decide) (by decide), h 3 (show 3 < 4 by decide) (by decide)⟩
theorem four_cell {w : World} {gd bd cn sc : Int} {T : TypeId} {i : Nat} (hi : i < [gd, bd, cn, sc].length) : (w.alloc (.cells #[.int .i64 gd, .int .i64 bd, .int .i64 cn, .int .i64 sc] T)).cell? ⟨w.heap.size, i, none⟩ = some (.int .i64 [gd, bd, cn, sc][i]) := by
  rw [cell_of_row _ _ _ _ _ _ (heap_alloc_new w _)]
  match i, hi with
  | 0, _ => rfl
  | 1, _ => rfl
  | 2, _ => rfl
  | 3, _ => rfl
set_option maxRecDepth 100000 in
set_option maxHeartbeats 4000000 in
theorem fits_c (b o : Nat) (x : Rg.Lt) (w : World) (h : LotAt w b o x) : Calls Tryz.prog 49 #[.pointer (some ⟨b, o, none⟩)] w (Ret w (.int .i64 (Rg.lotE x))) := by
  have HL0 := Lib.hid (fun (W : World) (h : LotAt W b o x) (ht : Tame x) => left_c b o x W h ht)
  obtain ⟨nm, sz, gd, bd, cn, sc, st⟩ := x
  have H := Lib.hid h
  obtain ⟨c0, c1, c2, c3, c4, c5, c6, hl⟩ := h
  have hE : Rg.lotE ⟨nm, sz, gd, bd, cn, sc, st⟩ = (if sz < 1 ∨ 1048576 < sz then 2 else if (gd < 0 ∨ sz < gd) ∨ (bd < 0 ∨ sz < bd) ∨ (cn < 0 ∨ sz < cn) ∨ (sc < 0 ∨ sz < sc) then 2 else if st < 0 ∨ 2 < st then 1 else if Rg.left ⟨nm, sz, gd, bd, cn, sc, st⟩ < 0 ∨ (st ≠ 0 ∧ 0 < Rg.left ⟨nm, sz, gd, bd, cn, sc, st⟩) ∨ (st = 2 ∧ 0 < bd) then 16 else 0) := rfl
  generalize Rg.left ⟨nm, sz, gd, bd, cn, sc, st⟩ = L at *
  generalize Rg.lotE ⟨nm, sz, gd, bd, cn, sc, st⟩ = E at *
  simp only at c0 c1 c2 c3 c4 c5 c6
  by_cases hA : sz < 1
  · skip
    obtain rfl : E = 2 := by rw [hE]; repeat (first | rw [if_pos (by omega)] | rw [if_neg (by omega)])
    clear hE
    go_enter Tryz.func49, Tryz.ntmps49
    go_wp2
    go_ret
    exact ⟨rfl, Below.refl _ _⟩
  by_cases hB : 1048576 < sz
  · skip
    obtain rfl : E = 2 := by rw [hE]; repeat (first | rw [if_pos (by omega)] | rw [if_neg (by omega)])
    clear hE
    go_enter Tryz.func49, Tryz.ntmps49
    go_wp2
    go_ret
    exact ⟨rfl, Below.refl _ _⟩
  have HE := Lib.hid hE
  clear hE
  go_enter Tryz.func49, Tryz.ntmps49
  go_wp2_with fail
  go_region
  have hBW : Below w.heap.size w (w.alloc (.cells #[.int .i64 gd, .int .i64 bd, .int .i64 cn, .int .i64 sc] 3)).drew := ((Below.refl _ _).alloc (Nat.le_refl _) _).drew
  have HW := H.out.later hBW
  have hk : ∀ i (hi : i < [gd, bd, cn, sc].length), (w.alloc (.cells #[.int .i64 gd, .int .i64 bd, .int .i64 cn, .int .i64 sc] 3)).drew.cell? ⟨w.heap.size, i, none⟩ = some (.int .i64 [gd, bd, cn, sc][i]) := fun i hi => (show (w.alloc (.cells #[.int .i64 gd, .int .i64 bd, .int .i64 cn, .int .i64 sc] 3)).drew.cell? ⟨w.heap.size, i, none⟩ = (w.alloc (.cells #[.int .i64 gd, .int .i64 bd, .int .i64 cn, .int .i64 sc] 3)).cell? ⟨w.heap.size, i, none⟩ from rfl).trans (four_cell hi)
  generalize (w.alloc (.cells #[.int .i64 gd, .int .i64 bd, .int .i64 cn, .int .i64 sc] 3)).drew = W at *
  obtain ⟨d0, d1, d2, d3, d4, d5, d6, dl⟩ := id HW
  simp only at d0 d1 d2 d3 d4 d5 d6
  have HW := Lib.hid HW
  have HK := Lib.hid hk
  clear c0 c1 c2 c3 c4 c5 c6 hk
  go_wp2_with fail
  go_loop [35] (fun si => ∃ i : Nat, si = .int .i64 i ∧ i ≤ 4 ∧ Hid (∀ j (hj : j < [gd, bd, cn, sc].length), j < i → 0 ≤ [gd, bd, cn, sc][j] ∧ [gd, bd, cn, sc][j] ≤ sz)) (fun si => 4 - (intOf si).toNat)
  case atStart => exact ⟨0, rfl, Nat.zero_le _, fun j hj h => by omega⟩
  case round =>
    obtain ⟨i, rfl, hi, ha⟩ := hrel
    by_cases hlt : i < 4
    · have hil : i < [gd, bd, cn, sc].length := hlt
      have k1 := HK.out i hil
      have hbad := fun h => four_bad (sz := sz) hil h
      have hstep : 0 ≤ [gd, bd, cn, sc][i] ∧ [gd, bd, cn, sc][i] ≤ sz → ∀ j (hj : j < [gd, bd, cn, sc].length), j < i + 1 → 0 ≤ [gd, bd, cn, sc][j] ∧ [gd, bd, cn, sc][j] ≤ sz := fun h j hj hji => by
        by_cases e : j = i
        · subst e; exact h
        · exact ha.out j hj (by omega)
      generalize [gd, bd, cn, sc][i] = v at *
      by_cases v0 : v < 0
      · obtain rfl : E = 2 := by rw [HE.out, if_neg (by omega), if_pos (hbad (.inl v0))]
        clear hbad hstep HE
        go_wp2
        go_ret
        exact ⟨rfl, hBW⟩
      by_cases v1 : sz < v
      · obtain rfl : E = 2 := by rw [HE.out, if_neg (by omega), if_pos (hbad (.inr v1))]
        clear hbad hstep HE
        go_wp2
        go_ret
        exact ⟨rfl, hBW⟩
      have HS := Lib.hid (hstep ⟨by omega, by omega⟩)
      clear hbad hstep
      go_wp2
      go_round
      case rel => exact ⟨i + 1, by go_num, by omega, HS.out⟩
      case measure => simp [intOf]; omega
    · obtain rfl : i = 4 := by omega
      obtain ⟨a1, a2, a3, a4⟩ := four_ok ha.out
      have hE := HE.out
      have HL := Lib.hid (fun (W : World) h => HL0.out W h ⟨⟨by show 0 ≤ sz; omega, by show sz ≤ _; omega⟩, a1, a2, a3, a4⟩)
      clear ha HE HK HL0
      by_cases s0 : st < 0
      · skip
        obtain rfl : E = 1 := by rw [hE]; repeat (first | rw [if_pos (by omega)] | rw [if_neg (by omega)])
        clear hE
        go_wp2
        go_ret
        exact ⟨rfl, hBW⟩
      by_cases s1 : 2 < st
      · skip
        obtain rfl : E = 1 := by rw [hE]; repeat (first | rw [if_pos (by omega)] | rw [if_neg (by omega)])
        clear hE
        go_wp2
        go_ret
        exact ⟨rfl, hBW⟩
      by_cases l0 : L < 0
      · skip
        obtain rfl : E = 16 := by rw [hE]; repeat (first | rw [if_pos (by omega)] | rw [if_neg (by omega)])
        clear hE
        go_wp2_with fail
        ((with_reducible refine (HL.out _ HW.out).mono ?_); rintro e w1 ⟨rfl, hb1⟩)
        have H1 := HW.out.later hb1
        obtain ⟨e0, e1, e2, e3, e4, e5, e6, el⟩ := id H1
        simp only at e0 e1 e2 e3 e4 e5 e6
        have H1 := Lib.hid H1
        have hB1 := hBW.trans (hb1.mono hBW.size)
        clear d0 d1 d2 d3 d4 d5 d6
        go_wp2
        go_ret
        exact ⟨rfl, hB1⟩
      rcases (by omega : st = 0 ∨ st = 1 ∨ st = 2) with rfl | rfl | rfl
      · skip
        obtain rfl : E = 0 := by rw [hE]; repeat (first | rw [if_pos (by omega)] | rw [if_neg (by omega)])
        clear hE
        go_wp2_with fail
        ((with_reducible refine (HL.out _ HW.out).mono ?_); rintro e w1 ⟨rfl, hb1⟩)
        have H1 := HW.out.later hb1
        obtain ⟨e0, e1, e2, e3, e4, e5, e6, el⟩ := id H1
        simp only at e0 e1 e2 e3 e4 e5 e6
        have H1 := Lib.hid H1
        have hB1 := hBW.trans (hb1.mono hBW.size)
        clear d0 d1 d2 d3 d4 d5 d6
        go_wp2
        go_ret
        exact ⟨rfl, hB1⟩
      · by_cases l1 : 0 < L
        · skip
          obtain rfl : E = 16 := by rw [hE]; repeat (first | rw [if_pos (by omega)] | rw [if_neg (by omega)])
          clear hE
          go_wp2_with fail
          ((with_reducible refine (HL.out _ HW.out).mono ?_); rintro e w1 ⟨rfl, hb1⟩)
          have H1 := HW.out.later hb1
          obtain ⟨e0, e1, e2, e3, e4, e5, e6, el⟩ := id H1
          simp only at e0 e1 e2 e3 e4 e5 e6
          have H1 := Lib.hid H1
          have hB1 := hBW.trans (hb1.mono hBW.size)
          clear d0 d1 d2 d3 d4 d5 d6
          go_wp2_with fail
          ((with_reducible refine (HL.out _ H1.out).mono ?_); rintro e w2 ⟨rfl, hb2⟩)
          have H2 := H1.out.later hb2
          obtain ⟨f0, f1, f2, f3, f4, f5, f6, fl⟩ := id H2
          simp only at f0 f1 f2 f3 f4 f5 f6
          have H2 := Lib.hid H2
          have hB2 := hB1.trans (hb2.mono hB1.size)
          clear e0 e1 e2 e3 e4 e5 e6
          go_wp2
          go_ret
          exact ⟨rfl, hB2⟩
        · skip
          obtain rfl : E = 0 := by rw [hE]; repeat (first | rw [if_pos (by omega)] | rw [if_neg (by omega)])
          clear hE
          go_wp2_with fail
          ((with_reducible refine (HL.out _ HW.out).mono ?_); rintro e w1 ⟨rfl, hb1⟩)
          have H1 := HW.out.later hb1
          obtain ⟨e0, e1, e2, e3, e4, e5, e6, el⟩ := id H1
          simp only at e0 e1 e2 e3 e4 e5 e6
          have H1 := Lib.hid H1
          have hB1 := hBW.trans (hb1.mono hBW.size)
          clear d0 d1 d2 d3 d4 d5 d6
          go_wp2_with fail
          ((with_reducible refine (HL.out _ H1.out).mono ?_); rintro e w2 ⟨rfl, hb2⟩)
          have H2 := H1.out.later hb2
          obtain ⟨f0, f1, f2, f3, f4, f5, f6, fl⟩ := id H2
          simp only at f0 f1 f2 f3 f4 f5 f6
          have H2 := Lib.hid H2
          have hB2 := hB1.trans (hb2.mono hB1.size)
          clear e0 e1 e2 e3 e4 e5 e6
          go_wp2
          go_ret
          exact ⟨rfl, hB2⟩
      · by_cases l1 : 0 < L
        · skip
          obtain rfl : E = 16 := by rw [hE]; repeat (first | rw [if_pos (by omega)] | rw [if_neg (by omega)])
          clear hE
          go_wp2_with fail
          ((with_reducible refine (HL.out _ HW.out).mono ?_); rintro e w1 ⟨rfl, hb1⟩)
          have H1 := HW.out.later hb1
          obtain ⟨e0, e1, e2, e3, e4, e5, e6, el⟩ := id H1
          simp only at e0 e1 e2 e3 e4 e5 e6
          have H1 := Lib.hid H1
          have hB1 := hBW.trans (hb1.mono hBW.size)
          clear d0 d1 d2 d3 d4 d5 d6
          go_wp2_with fail
          ((with_reducible refine (HL.out _ H1.out).mono ?_); rintro e w2 ⟨rfl, hb2⟩)
          have H2 := H1.out.later hb2
          obtain ⟨f0, f1, f2, f3, f4, f5, f6, fl⟩ := id H2
          simp only at f0 f1 f2 f3 f4 f5 f6
          have H2 := Lib.hid H2
          have hB2 := hB1.trans (hb2.mono hB1.size)
          clear e0 e1 e2 e3 e4 e5 e6
          go_wp2
          go_ret
          exact ⟨rfl, hB2⟩
        by_cases b1 : 0 < bd
        · skip
          obtain rfl : E = 16 := by rw [hE]; repeat (first | rw [if_pos (by omega)] | rw [if_neg (by omega)])
          clear hE
          go_wp2_with fail
          ((with_reducible refine (HL.out _ HW.out).mono ?_); rintro e w1 ⟨rfl, hb1⟩)
          have H1 := HW.out.later hb1
          obtain ⟨e0, e1, e2, e3, e4, e5, e6, el⟩ := id H1
          simp only at e0 e1 e2 e3 e4 e5 e6
          have H1 := Lib.hid H1
          have hB1 := hBW.trans (hb1.mono hBW.size)
          clear d0 d1 d2 d3 d4 d5 d6
          go_wp2_with fail
          ((with_reducible refine (HL.out _ H1.out).mono ?_); rintro e w2 ⟨rfl, hb2⟩)
          have H2 := H1.out.later hb2
          obtain ⟨f0, f1, f2, f3, f4, f5, f6, fl⟩ := id H2
          simp only at f0 f1 f2 f3 f4 f5 f6
          have H2 := Lib.hid H2
          have hB2 := hB1.trans (hb2.mono hB1.size)
          clear e0 e1 e2 e3 e4 e5 e6
          go_wp2
          go_ret
          exact ⟨rfl, hB2⟩
        · skip
          obtain rfl : E = 0 := by rw [hE]; repeat (first | rw [if_pos (by omega)] | rw [if_neg (by omega)])
          clear hE
          go_wp2_with fail
          ((with_reducible refine (HL.out _ HW.out).mono ?_); rintro e w1 ⟨rfl, hb1⟩)
          have H1 := HW.out.later hb1
          obtain ⟨e0, e1, e2, e3, e4, e5, e6, el⟩ := id H1
          simp only at e0 e1 e2 e3 e4 e5 e6
          have H1 := Lib.hid H1
          have hB1 := hBW.trans (hb1.mono hBW.size)
          clear d0 d1 d2 d3 d4 d5 d6
          go_wp2_with fail
          ((with_reducible refine (HL.out _ H1.out).mono ?_); rintro e w2 ⟨rfl, hb2⟩)
          have H2 := H1.out.later hb2
          obtain ⟨f0, f1, f2, f3, f4, f5, f6, fl⟩ := id H2
          simp only at f0 f1 f2 f3 f4 f5 f6
          have H2 := Lib.hid H2
          have hB2 := hB1.trans (hb2.mono hB1.size)
          clear e0 e1 e2 e3 e4 e5 e6
          go_wp2
          go_ret
          exact ⟨rfl, hB2⟩
end Go.Proofs.Wk
/- REGISTERS OF LOTS: a lot by itself, in the reference. -/
namespace Go.Proofs.Wk
open Go.RowKit Mt

theorem LotAt.box (w : World) (x : Rg.Lt) (T : TypeId) : LotAt (w.alloc (.cells #[.string ⟨x.nm.toArray⟩, .int .i64 x.sz, .int .i64 x.gd, .int .i64 x.bd, .int .i64 x.cn, .int .i64 x.sc, .int .i64 x.st] T)) w.heap.size 0 x := by
  have h := heap_alloc_new w (.cells #[.string ⟨x.nm.toArray⟩, .int .i64 x.sz, .int .i64 x.gd, .int .i64 x.bd, .int .i64 x.cn, .int .i64 x.sc, .int .i64 x.st] T)
  refine ⟨?_, ?_, ?_, ?_, ?_, ?_, ?_, alloc_lt _ _⟩
  all_goals (rw [cell_of_row _ _ _ _ _ _ h]; rfl)
end Go.Proofs.Wk
