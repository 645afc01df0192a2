/- THE REFERENCE's SMALL FUNCTIONS, each walked once: what it returns, as a function on lists of bytes. -/
import Derived.Test.YtjljappilpkelaaGreatDoorBase
import Derived.Test.YtjljappilpkelaaGreatDoorMathB
import Derived.Test.YtjljappilpkelaaGreatDoorRefS
namespace Go.Proofs.Wk
open Go.RowKit Mt

set_option maxHeartbeats 400000 in
theorem Below_c (l : List UInt8) (w : World) (h : l ≠ []) : Calls Tryz.prog 59 #[.string ⟨l.toArray⟩] w (Pur w (.bool (neg l))) := by
  cases l with
  | nil => exact absurd rfl h
  | cons c t =>
    go_enter Tryz.func59, Tryz.ntmps59; go_wp2; go_ret
    exact ⟨ret_bool (u8_eq c 45 rfl), rfl⟩

set_option maxHeartbeats 400000 in
theorem bare_c (l : List UInt8) (w : World) : Calls Tryz.prog 96 #[.string ⟨l.toArray⟩] w (Pur w (.string ⟨(bare l).toArray⟩)) := by
  go_enter Tryz.func96, Tryz.ntmps96; go_wp2
  go_loop [0] (fun s => ∃ l' : List UInt8, s = .string ⟨l'.toArray⟩ ∧ Hid (bare l' = bare l) ∧ l'.length ≤ l.length) (fun s => lenOf s)
  case atStart => exact ⟨l, rfl, rfl, Nat.le_refl _⟩
  case round =>
    obtain ⟨l', rfl, hb, hlen⟩ := hrel
    match l', hb, hlen with
    | [], hb, hlen => go_wp2; go_ret; exact ⟨ret_str hb.out, rfl⟩
    | [c], hb, hlen => go_wp2; go_ret; exact ⟨ret_str hb.out, rfl⟩
    | c :: d :: t, hb, hlen =>
      simp only [List.length_cons] at hlen
      by_cases h : c = 48
      · subst h
        go_wp2
        go_round
        case rel => exact ⟨d :: t, rfl, hb, by simp; omega⟩
        case measure => simp [lenOf, ByteArray.size]
      · have h' : ((c.toNat : Int) == 48) = false := u8_eq_no (d := 48) rfl h
        have hb' : Hid (c :: d :: t = bare l) := by rw [← hb.out, bare, if_neg h]; rfl
        clear hb
        go_wp2
        go_ret; exact ⟨ret_str hb'.out, rfl⟩

set_option maxHeartbeats 400000 in
theorem signed_c (n : Nat) (m : Bool) (w : World) (hl : (Lib.decDigits n).length ≤ 30000) :
    Calls Tryz.prog 72 #[.string ⟨(Lib.decDigits n).toArray⟩, .bool m] w (Pur w (.string ⟨(Lib.itoa (if m then -(n : Int) else (n : Int))).toArray⟩)) := by
  cases m with
  | false =>
    rw [show Lib.itoa (if false = true then -(n : Int) else (n : Int)) = Lib.decDigits n from itoa_nat n]
    generalize Lib.decDigits n = l
    go_enter Tryz.func72, Tryz.ntmps72; go_wp2; go_ret; exact ⟨rfl, rfl⟩
  | true =>
    by_cases h0 : n = 0
    · subst h0
      rw [dec_zero, show Lib.itoa (if true = true then -((0 : Nat) : Int) else ((0 : Nat) : Int)) = [48] from itoa_zero]
      go_enter Tryz.func72, Tryz.ntmps72; go_wp2; go_ret; exact ⟨rfl, rfl⟩
    · have hne : ¬ Lib.decDigits n = [48] := fun e => h0 (dec_eq_zero e)
      rw [show Lib.itoa (if true = true then -(n : Int) else (n : Int)) = 45 :: Lib.decDigits n from itoa_negnat h0]
      generalize Lib.decDigits n = l at *
      have h1 : ¬ 9223372036854775807 < 1 + l.length := by omega
      have h2 : (l == [48]) = false := by simpa using hne
      go_enter Tryz.func72, Tryz.ntmps72; go_wp2; go_ret; exact ⟨rfl, rfl⟩

/-! ### digits with zeros in front -/
set_option maxRecDepth 100000 in
set_option maxHeartbeats 400000 in
theorem wide_c (l : List UInt8) (n : Nat) (w : World) (hl0 : 1 ≤ l.length) (hl : l.length ≤ n) (hn : n ≤ 30000) :
    Calls Tryz.prog 110 #[.string ⟨l.toArray⟩, .int .i64 n] w (Ret w (.string ⟨(List.replicate (n - l.length) 48 ++ l).toArray⟩)) := by
  have hmk := run_make_bytes n (by omega)
  go_enter Tryz.func110, Tryz.ntmps110
  go_wp2
  clear hmk
  go_loopw [6] (fun i wr => ∃ (k : Nat) (bs : List UInt8), i = .int .i64 k ∧ k ≤ n ∧ Hid (bs.length = n) ∧ Hid (bs.take k = List.replicate k 48) ∧ RB wr w.heap.size bs ∧ Below w.heap.size w wr) (fun i _ => n - (intOf i).toNat)
  case atStart => exact ⟨0, List.replicate n 0, rfl, Nat.zero_le _, by simp [Hid], by simp [Hid], RB.made w n, (Below.refl _ _).alloc (Nat.le_refl _) _⟩
  case round =>
    obtain ⟨k, bs, rfl, hk, hlen, htk, hR, hB⟩ := hrel
    by_cases hlt : k < n
    · have hc := hR.cell (j := k) (by rw [hlen.out]; exact hlt)
      have hf := hR.free k
      go_wp2
      go_roundw
      case rel =>
        refine ⟨k + 1, bs.set k 48, by go_num, by omega, ?_, ?_, hR.set k 48 rfl, hB.setCell (Nat.le_refl _) _⟩
        · show _ = _; rw [List.length_set]; exact hlen.out
        · show _ = _
          have : k < bs.length := by rw [hlen.out]; exact hlt
          rw [List.take_succ_eq_append_getElem (by simpa using this), List.take_set_of_le (Nat.le_refl _), htk.out]
          simp [List.replicate_succ']
      case measure => simp [intOf]; omega
    · obtain rfl : k = n := by omega
      obtain ⟨w2, hcp, hR2, hB2⟩ := run_copy_text hR (k - l.length) l (k - (k - l.length)) (k - (k - l.length)) (by omega) (by rw [hlen.out]; omega) 3
      have hsr := run_string_row hR2 (n := k) (by have := hlen.out; simp; omega) k
      go_wp2
      go_ret
      refine ⟨ret_str ?_, hB.trans (hB2 _ (Nat.le_refl _))⟩
      have e1 : bs.take (k - l.length) = List.replicate (k - l.length) 48 := by
        have h1 := htk.out
        have : bs.take (k - l.length) = (bs.take k).take (k - l.length) := by rw [List.take_take, Nat.min_eq_left (by omega)]
        rw [this, h1, List.take_replicate, Nat.min_eq_left (by omega)]
      have e2 : bs.drop k = [] := List.drop_eq_nil_of_le (by have := hlen.out; omega)
      rw [e1, e2, List.append_nil]

set_option maxRecDepth 100000 in
set_option maxHeartbeats 400000 in
theorem less_c (m n : Nat) (w : World) : Calls Tryz.prog 93 #[.string ⟨(Lib.decDigits m).toArray⟩, .string ⟨(Lib.decDigits n).toArray⟩] w (Pur w (.bool (decide (m < n)))) := by
  have hl := @dec_len_lt m n
  have hr := @dec_len_lt n m
  have he := @dec_less m n
  generalize Lib.decDigits m = a at *
  generalize Lib.decDigits n = b at *
  have HL := Lib.hid hl; have HR := Lib.hid hr; have HE := Lib.hid he; clear hl hr he
  by_cases h : b.length ≤ a.length
  · by_cases h2 : a.length ≤ b.length
    · go_enter Tryz.func93, Tryz.ntmps93; go_wp2
      all_goals first | omega | skip
      all_goals
        go_ret
        refine ⟨ret_bool ?_, rfl⟩
        rw [HE.out (by omega)]
        simp; omega
    · go_enter Tryz.func93, Tryz.ntmps93; go_wp2
      all_goals first | omega | skip
      all_goals
        go_ret
        refine ⟨ret_bool ?_, rfl⟩
        have := HR.out (by omega)
        simp; omega
  · go_enter Tryz.func93, Tryz.ntmps93; go_wp2
    all_goals first | omega | skip
    all_goals
      go_ret
      refine ⟨ret_bool ?_, rfl⟩
      have := HL.out (by omega)
      simp; omega

set_option maxRecDepth 100000 in
set_option maxHeartbeats 400000 in
theorem column_add (x y : UInt8) (c : Nat) (w : World) (hx : isD x = true) (hy : isD y = true) (hc : c < 2) :
    Calls Tryz.prog 111 #[.int .u8 (x.toNat : Int), .int .u8 (y.toNat : Int), .int .i64 (c : Int), .bool true] w
      (Pur w (.tuple #[.int .u8 ((ch ((dv x + dv y + c) % 10)).toNat : Int), .int .i64 (((dv x + dv y + c) / 10 : Nat) : Int)])) := by
  rw [ch_toNat (by omega)]
  rw [isD_iff] at hx hy
  unfold dv
  obtain ⟨hx0, hx1⟩ := hx
  obtain ⟨hy0, hy1⟩ := hy
  generalize x.toNat = a at *
  generalize y.toNat = b at *
  by_cases h : 9 < a - 48 + (b - 48) + c
  · have h1 : (9 : Int) < (a : Int) - 48 + ((b : Int) - 48) + (c : Int) := by omega
    go_enter Tryz.func111, Tryz.ntmps111; go_wp2
    go_ret2
    exact ⟨ret_two (by omega) (by omega), rfl⟩
  · have h1 : ¬ (9 : Int) < (a : Int) - 48 + ((b : Int) - 48) + (c : Int) := by omega
    have h2 : ¬ (a : Int) - 48 + ((b : Int) - 48) + (c : Int) < 0 := by omega
    go_enter Tryz.func111, Tryz.ntmps111; go_wp2
    go_ret2
    exact ⟨ret_two (by omega) (by omega), rfl⟩

set_option maxRecDepth 100000 in
set_option maxHeartbeats 400000 in
theorem column_sub (x y : UInt8) (c : Nat) (z k : Nat) (w : World) (hx : isD x = true) (hy : isD y = true) (hc : c < 2) (hz : z < 10) (hk : k < 2) (h : z + dv y + c = dv x + 10 * k) :
    Calls Tryz.prog 111 #[.int .u8 (x.toNat : Int), .int .u8 (y.toNat : Int), .int .i64 (c : Int), .bool false] w
      (Pur w (.tuple #[.int .u8 ((ch z).toNat : Int), .int .i64 (k : Int)])) := by
  rw [ch_toNat hz]
  rw [isD_iff] at hx hy
  unfold dv at h
  obtain ⟨hx0, hx1⟩ := hx
  obtain ⟨hy0, hy1⟩ := hy
  generalize x.toNat = a at *
  generalize y.toNat = b at *
  have HH := Lib.hid h
  clear h
  by_cases h0 : k = 0
  · have h1 : ¬ (9 : Int) < (a : Int) - 48 - ((b : Int) - 48) - (c : Int) := by have := HH.out; omega
    have h2 : ¬ (a : Int) - 48 - ((b : Int) - 48) - (c : Int) < 0 := by have := HH.out; omega
    have K := Lib.hid h0
    clear h0
    go_enter Tryz.func111, Tryz.ntmps111; go_wp2
    go_ret2
    have := HH.out; have := K.out
    exact ⟨ret_two (by omega) (by omega), rfl⟩
  · have h1 : ¬ (9 : Int) < (a : Int) - 48 - ((b : Int) - 48) - (c : Int) := by have := HH.out; omega
    have h2 : (a : Int) - 48 - ((b : Int) - 48) - (c : Int) < 0 := by have := HH.out; omega
    go_enter Tryz.func111, Tryz.ntmps111; go_wp2
    go_ret2
    have := HH.out
    exact ⟨ret_two (by omega) (by omega), rfl⟩
end Go.Proofs.Wk
