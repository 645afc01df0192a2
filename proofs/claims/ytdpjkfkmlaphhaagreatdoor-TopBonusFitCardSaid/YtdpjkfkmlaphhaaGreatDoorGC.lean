/- THE REFERENCE's CHECK of a text. -/
import Derived.Test.YtdpjkfkmlaphhaaGreatDoorBase
import Derived.Test.YtdpjkfkmlaphhaaGreatDoorGA
namespace Go.Proofs.Wk
open Go.RowKit Mt

set_option maxHeartbeats 400000 in
theorem size_c (l : List UInt8) (w : World) : Calls Tryz.prog 140 #[.string ⟨l.toArray⟩] w (Pur w (.string ⟨(body l).toArray⟩)) := by
  cases l with
  | nil => go_enter Tryz.func140, Tryz.ntmps140; go_wp2; go_ret; exact ⟨rfl, rfl⟩
  | cons c t =>
    by_cases h : c = 45
    · subst h
      go_enter Tryz.func140, Tryz.ntmps140; go_wp2; go_ret; exact ⟨rfl, rfl⟩
    · have hb : body (c :: t) = c :: t := by simp [body, neg, h]
      have h' : ((c.toNat : Int) == 45) = false := u8_eq_no (d := 45) rfl h
      rw [hb]; clear hb
      go_enter Tryz.func140, Tryz.ntmps140; go_wp2; go_ret; exact ⟨rfl, rfl⟩

set_option maxRecDepth 100000 in
set_option maxHeartbeats 1000000 in
theorem Check_c (l : List UInt8) (w : World) (hl : l.length ≤ 140737488355328) : Calls Tryz.prog 194 #[.string ⟨l.toArray⟩] w (Pur w (.int .i64 (chk l))) := by
  have hsz := size_c l
  have hbl : (body l).length ≤ l.length := by unfold body; split <;> simp
  have hcan : canon l = (can (body l) && (!neg l || body l != [48])) := rfl
  have hchk : chk l = if canon l then (if 1024 < (body l).length then 11 else 0) else 3 := rfl
  have hl48 : body l = [48] → neg l = false → l = [48] := by
    intro h1 h2
    have := eq_body l
    rw [h2, h1] at this
    simpa using this
  have hneg : neg l = true → l.length = (body l).length + 1 := by
    intro h
    have := eq_body l
    rw [h] at this
    have e := congrArg List.length this
    simpa using e
  obtain ⟨s, hs⟩ : ∃ s, body l = s := ⟨_, rfl⟩
  rw [hs] at hsz hbl hcan hchk hl48 hneg
  have HS := Lib.hid hsz; have HC := Lib.hid hcan; have HK := Lib.hid hchk; have HL := Lib.hid hl48; have HN := Lib.hid hneg
  clear hsz hcan hchk hl48 hneg hs
  cases s with
  | nil =>
    go_enter Tryz.func194, Tryz.ntmps194
    go_wp2_with fail
    refine (HS.out _).mono ?_; rintro e w1 ⟨rfl, rfl⟩
    go_wp2
    go_ret
    refine ⟨ret_int ?_, rfl⟩
    rw [HK.out, HC.out]; simp [can]
  | cons c t =>
    by_cases hc : c = 48
    · subst hc
      cases t with
      | nil =>
        by_cases h1 : 1 < l.length
        · go_enter Tryz.func194, Tryz.ntmps194
          go_wp2_with fail
          refine (HS.out _).mono ?_; rintro e w1 ⟨rfl, rfl⟩
          go_wp2
          go_ret
          refine ⟨ret_int ?_, rfl⟩
          have : neg l = true := by
            cases h : neg l with
            | true => rfl
            | false => have := HL.out (by first | rfl | trivial) h; rw [this] at h1; simp at h1
          rw [HK.out, HC.out, this]; simp
        · go_enter Tryz.func194, Tryz.ntmps194
          go_wp2_with fail
          refine (HS.out _).mono ?_; rintro e w1 ⟨rfl, rfl⟩
          go_wp2
          refine wp_loop_rounds 2 ?_
          rw [rounds_succ]
          go_wp2
          rw [rounds_succ]
          go_wp2
          go_ret
          refine ⟨ret_int ?_, rfl⟩
          have : neg l = false := by
            cases h : neg l with
            | false => rfl
            | true => have := HN.out h; simp at this; omega
          rw [HK.out, HC.out, this]; decide
      | cons d t =>
        go_enter Tryz.func194, Tryz.ntmps194
        go_wp2_with fail
        refine (HS.out _).mono ?_; rintro e w1 ⟨rfl, rfl⟩
        go_wp2
        go_ret
        refine ⟨ret_int ?_, rfl⟩
        rw [HK.out, HC.out]; simp [can]
    · have h' : ((c.toNat : Int) == 48) = false := u8_eq_no (d := 48) rfl hc
      obtain ⟨s, hs⟩ : ∃ s, c :: t = s := ⟨_, rfl⟩
      have hcs : can s = allD s ∧ s ≠ [48] := by
        subst hs
        refine ⟨?_, fun e => hc (by simpa using (List.cons.inj e).1)⟩
        unfold can
        simp [hc]
      have HX := Lib.hid hcs
      have HSS := Lib.hid hs
      clear hcs hs
      go_enter Tryz.func194, Tryz.ntmps194
      go_wp2_with fail
      refine (HS.out _).mono ?_; rintro e w1 ⟨rfl, rfl⟩
      go_wp2
      have hs := HSS.out
      rw [hs] at HK HC hbl ⊢
      clear hs HSS h' hc
      go_loop [4] (fun si => ∃ i : Nat, si = .int .i64 i ∧ i ≤ s.length ∧ Hid (allD (s.take i) = true)) (fun si => s.length - (intOf si).toNat)
      case atStart => exact ⟨0, rfl, Nat.zero_le _, rfl⟩
      case round =>
        obtain ⟨i, rfl, hi, ha⟩ := hrel
        by_cases hlt : i < s.length
        · by_cases hd : isD s[i] = true
          · have hd2 := (isD_iff _).1 hd
            have hta : allD (s.take (i + 1)) = true := by
              rw [List.take_succ_eq_append_getElem hlt]
              exact (allD_append _ _).2 ⟨ha.out, (allD_cons _ _).2 ⟨hd, rfl⟩⟩
            have HT := Lib.hid hta
            obtain ⟨h48, h57⟩ := hd2
            clear hd hta
            go_wp2
            go_round
            case rel => exact ⟨i + 1, by go_num, by omega, HT.out⟩
            case measure => simp [intOf]; omega
          · have hno : allD s = false := by
              cases h : allD s with
              | false => rfl
              | true => exact absurd (allD_at h hlt) hd
            have HNO := Lib.hid hno
            clear hno
            rw [isD_iff] at hd
            by_cases h48 : 48 ≤ s[i].toNat
            · have h57 : 57 < s[i].toNat := by omega
              clear hd
              go_wp2
              go_ret
              refine ⟨ret_int ?_, rfl⟩
              rw [HK.out, HC.out, HX.out.1, HNO.out]; simp
            · have h57 : s[i].toNat < 48 := by omega
              clear hd h48
              go_wp2
              go_ret
              refine ⟨ret_int ?_, rfl⟩
              rw [HK.out, HC.out, HX.out.1, HNO.out]; simp
        · obtain rfl : i = s.length := by omega
          have hall := ha.out
          rw [List.take_length] at hall
          have HA := Lib.hid hall
          clear hall
          by_cases hlong : 1024 < s.length
          · go_wp2
            go_ret
            refine ⟨ret_int ?_, rfl⟩
            have := HX.out.2
            rw [HK.out, HC.out, HX.out.1, HA.out]; simp [this, hlong]
          · go_wp2
            go_ret
            refine ⟨ret_int ?_, rfl⟩
            have := HX.out.2
            rw [HK.out, HC.out, HX.out.1, HA.out]; simp [this]; omega
end Go.Proofs.Wk
/- THE REFERENCE's SMALL FUNCTIONS, each walked once: what it returns, as a function on lists of bytes. -/
namespace Go.Proofs.Wk
open Go.RowKit Mt

set_option maxHeartbeats 400000 in
theorem Below_c (l : List UInt8) (w : World) (h : l ≠ []) : Calls Tryz.prog 121 #[.string ⟨l.toArray⟩] w (Pur w (.bool (neg l))) := by
  cases l with
  | nil => exact absurd rfl h
  | cons c t =>
    go_enter Tryz.func121, Tryz.ntmps121; go_wp2; go_ret
    exact ⟨ret_bool (u8_eq c 45 rfl), rfl⟩

set_option maxHeartbeats 400000 in
theorem bare_c (l : List UInt8) (w : World) : Calls Tryz.prog 218 #[.string ⟨l.toArray⟩] w (Pur w (.string ⟨(bare l).toArray⟩)) := by
  go_enter Tryz.func218, Tryz.ntmps218; go_wp2
  go_loop [0] (fun s => ∃ l' : List UInt8, s = .string ⟨l'.toArray⟩ ∧ Hid (bare l' = bare l) ∧ l'.length ≤ l.length) (fun s => lenOf s)
  case atStart => exact ⟨l, rfl, rfl, Nat.le_refl _⟩
  case round =>
    obtain ⟨l', rfl, hb, hlen⟩ := hrel
    match l', hb, hlen with
    | [], hb, hlen => go_wp2; go_ret; exact ⟨ret_str hb.out, rfl⟩
    | [c], hb, hlen => go_wp2; go_ret; exact ⟨ret_str hb.out, rfl⟩
    | c :: d :: t, hb, hlen =>
      simp only [List.length_cons] at hlen
      by_cases h : c = 48
      · subst h
        go_wp2
        go_round
        case rel => exact ⟨d :: t, rfl, hb, by simp; omega⟩
        case measure => simp [lenOf, ByteArray.size]
      · have h' : ((c.toNat : Int) == 48) = false := u8_eq_no (d := 48) rfl h
        have hb' : Hid (c :: d :: t = bare l) := by rw [← hb.out, bare, if_neg h]; rfl
        clear hb
        go_wp2
        go_ret; exact ⟨ret_str hb'.out, rfl⟩

set_option maxHeartbeats 400000 in
theorem signed_c (n : Nat) (m : Bool) (w : World) (hl : (Lib.decDigits n).length ≤ 30000) :
    Calls Tryz.prog 139 #[.string ⟨(Lib.decDigits n).toArray⟩, .bool m] w (Pur w (.string ⟨(Lib.itoa (if m then -(n : Int) else (n : Int))).toArray⟩)) := by
  cases m with
  | false =>
    rw [show Lib.itoa (if false = true then -(n : Int) else (n : Int)) = Lib.decDigits n from itoa_nat n]
    generalize Lib.decDigits n = l
    go_enter Tryz.func139, Tryz.ntmps139; go_wp2; go_ret; exact ⟨rfl, rfl⟩
  | true =>
    by_cases h0 : n = 0
    · subst h0
      rw [dec_zero, show Lib.itoa (if true = true then -((0 : Nat) : Int) else ((0 : Nat) : Int)) = [48] from itoa_zero]
      go_enter Tryz.func139, Tryz.ntmps139; go_wp2; go_ret; exact ⟨rfl, rfl⟩
    · have hne : ¬ Lib.decDigits n = [48] := fun e => h0 (dec_eq_zero e)
      rw [show Lib.itoa (if true = true then -(n : Int) else (n : Int)) = 45 :: Lib.decDigits n from itoa_negnat h0]
      generalize Lib.decDigits n = l at *
      have h1 : ¬ 9223372036854775807 < 1 + l.length := by omega
      have h2 : (l == [48]) = false := by simpa using hne
      go_enter Tryz.func139, Tryz.ntmps139; go_wp2; go_ret; exact ⟨rfl, rfl⟩

/-! ### digits with zeros in front -/
set_option maxRecDepth 100000 in
set_option maxHeartbeats 400000 in
theorem wide_c (l : List UInt8) (n : Nat) (w : World) (hl0 : 1 ≤ l.length) (hl : l.length ≤ n) (hn : n ≤ 30000) :
    Calls Tryz.prog 253 #[.string ⟨l.toArray⟩, .int .i64 n] w (Ret w (.string ⟨(List.replicate (n - l.length) 48 ++ l).toArray⟩)) := by
  have hmk := run_make_bytes n (by omega)
  go_enter Tryz.func253, Tryz.ntmps253
  go_wp2
  clear hmk
  go_loopw [6] (fun i wr => ∃ (k : Nat) (bs : List UInt8), i = .int .i64 k ∧ k ≤ n ∧ Hid (bs.length = n) ∧ Hid (bs.take k = List.replicate k 48) ∧ RB wr w.heap.size bs ∧ Below w.heap.size w wr) (fun i _ => n - (intOf i).toNat)
  case atStart => exact ⟨0, List.replicate n 0, rfl, Nat.zero_le _, by simp [Hid], by simp [Hid], RB.made w n, (Below.refl _ _).alloc (Nat.le_refl _) _⟩
  case round =>
    obtain ⟨k, bs, rfl, hk, hlen, htk, hR, hB⟩ := hrel
    by_cases hlt : k < n
    · have hc := hR.cell (j := k) (by rw [hlen.out]; exact hlt)
      have hf := hR.free k
      go_wp2
      go_roundw
      case rel =>
        refine ⟨k + 1, bs.set k 48, by go_num, by omega, ?_, ?_, hR.set k 48 rfl, hB.setCell (Nat.le_refl _) _⟩
        · show _ = _; rw [List.length_set]; exact hlen.out
        · show _ = _
          have : k < bs.length := by rw [hlen.out]; exact hlt
          rw [List.take_succ_eq_append_getElem (by simpa using this), List.take_set_of_le (Nat.le_refl _), htk.out]
          simp [List.replicate_succ']
      case measure => simp [intOf]; omega
    · obtain rfl : k = n := by omega
      obtain ⟨w2, hcp, hR2, hB2⟩ := run_copy_text hR (k - l.length) l (k - (k - l.length)) (k - (k - l.length)) (by omega) (by rw [hlen.out]; omega) 3
      have hsr := run_string_row hR2 (n := k) (by have := hlen.out; simp; omega) k
      go_wp2
      go_ret
      refine ⟨ret_str ?_, hB.trans (hB2 _ (Nat.le_refl _))⟩
      have e1 : bs.take (k - l.length) = List.replicate (k - l.length) 48 := by
        have h1 := htk.out
        have : bs.take (k - l.length) = (bs.take k).take (k - l.length) := by rw [List.take_take, Nat.min_eq_left (by omega)]
        rw [this, h1, List.take_replicate, Nat.min_eq_left (by omega)]
      have e2 : bs.drop k = [] := List.drop_eq_nil_of_le (by have := hlen.out; omega)
      rw [e1, e2, List.append_nil]

set_option maxRecDepth 100000 in
set_option maxHeartbeats 400000 in
theorem less_c (m n : Nat) (w : World) : Calls Tryz.prog 219 #[.string ⟨(Lib.decDigits m).toArray⟩, .string ⟨(Lib.decDigits n).toArray⟩] w (Pur w (.bool (decide (m < n)))) := by
  have hl := @dec_len_lt m n
  have hr := @dec_len_lt n m
  have he := @dec_less m n
  generalize Lib.decDigits m = a at *
  generalize Lib.decDigits n = b at *
  have HL := Lib.hid hl; have HR := Lib.hid hr; have HE := Lib.hid he; clear hl hr he
  by_cases h : b.length ≤ a.length
  · by_cases h2 : a.length ≤ b.length
    · go_enter Tryz.func219, Tryz.ntmps219; go_wp2
      all_goals first | omega | skip
      all_goals
        go_ret
        refine ⟨ret_bool ?_, rfl⟩
        rw [HE.out (by omega)]
        simp; omega
    · go_enter Tryz.func219, Tryz.ntmps219; go_wp2
      all_goals first | omega | skip
      all_goals
        go_ret
        refine ⟨ret_bool ?_, rfl⟩
        have := HR.out (by omega)
        simp; omega
  · go_enter Tryz.func219, Tryz.ntmps219; go_wp2
    all_goals first | omega | skip
    all_goals
      go_ret
      refine ⟨ret_bool ?_, rfl⟩
      have := HL.out (by omega)
      simp; omega

set_option maxRecDepth 100000 in
set_option maxHeartbeats 400000 in
theorem column_add (x y : UInt8) (c : Nat) (w : World) (hx : isD x = true) (hy : isD y = true) (hc : c < 2) :
    Calls Tryz.prog 254 #[.int .u8 (x.toNat : Int), .int .u8 (y.toNat : Int), .int .i64 (c : Int), .bool true] w
      (Pur w (.tuple #[.int .u8 ((ch ((dv x + dv y + c) % 10)).toNat : Int), .int .i64 (((dv x + dv y + c) / 10 : Nat) : Int)])) := by
  rw [ch_toNat (by omega)]
  rw [isD_iff] at hx hy
  unfold dv
  obtain ⟨hx0, hx1⟩ := hx
  obtain ⟨hy0, hy1⟩ := hy
  generalize x.toNat = a at *
  generalize y.toNat = b at *
  by_cases h : 9 < a - 48 + (b - 48) + c
  · have h1 : (9 : Int) < (a : Int) - 48 + ((b : Int) - 48) + (c : Int) := by omega
    go_enter Tryz.func254, Tryz.ntmps254; go_wp2
    go_ret2
    exact ⟨ret_two (by omega) (by omega), rfl⟩
  · have h1 : ¬ (9 : Int) < (a : Int) - 48 + ((b : Int) - 48) + (c : Int) := by omega
    have h2 : ¬ (a : Int) - 48 + ((b : Int) - 48) + (c : Int) < 0 := by omega
    go_enter Tryz.func254, Tryz.ntmps254; go_wp2
    go_ret2
    exact ⟨ret_two (by omega) (by omega), rfl⟩

set_option maxRecDepth 100000 in
set_option maxHeartbeats 400000 in
theorem column_sub (x y : UInt8) (c : Nat) (z k : Nat) (w : World) (hx : isD x = true) (hy : isD y = true) (hc : c < 2) (hz : z < 10) (hk : k < 2) (h : z + dv y + c = dv x + 10 * k) :
    Calls Tryz.prog 254 #[.int .u8 (x.toNat : Int), .int .u8 (y.toNat : Int), .int .i64 (c : Int), .bool false] w
      (Pur w (.tuple #[.int .u8 ((ch z).toNat : Int), .int .i64 (k : Int)])) := by
  rw [ch_toNat hz]
  rw [isD_iff] at hx hy
  unfold dv at h
  obtain ⟨hx0, hx1⟩ := hx
  obtain ⟨hy0, hy1⟩ := hy
  generalize x.toNat = a at *
  generalize y.toNat = b at *
  have HH := Lib.hid h
  clear h
  by_cases h0 : k = 0
  · have h1 : ¬ (9 : Int) < (a : Int) - 48 - ((b : Int) - 48) - (c : Int) := by have := HH.out; omega
    have h2 : ¬ (a : Int) - 48 - ((b : Int) - 48) - (c : Int) < 0 := by have := HH.out; omega
    have K := Lib.hid h0
    clear h0
    go_enter Tryz.func254, Tryz.ntmps254; go_wp2
    go_ret2
    have := HH.out; have := K.out
    exact ⟨ret_two (by omega) (by omega), rfl⟩
  · have h1 : ¬ (9 : Int) < (a : Int) - 48 - ((b : Int) - 48) - (c : Int) := by have := HH.out; omega
    have h2 : (a : Int) - 48 - ((b : Int) - 48) - (c : Int) < 0 := by have := HH.out; omega
    go_enter Tryz.func254, Tryz.ntmps254; go_wp2
    go_ret2
    have := HH.out
    exact ⟨ret_two (by omega) (by omega), rfl⟩
end Go.Proofs.Wk
/- THE REFERENCE's PRODUCTS ON PAPER. -/
namespace Go.Proofs.Wk
open Go.RowKit Mt

/-- How great the columns are, after i rows and k places. -/
def ColBd (l : List Int) (i k : Nat) : Prop := ∀ (j : Nat) (v : Int), l[j]? = some v → 0 ≤ v ∧ v ≤ 81 * (i + 1) ∧ (i + k + 1 ≤ j → v ≤ 81 * i)
theorem colbd_start (N : Nat) : ColBd (List.replicate N 0) 0 0 := by
  intro j v h
  rw [List.getElem?_replicate] at h
  split at h
  · injection h with h; subst h; omega
  · cases h
theorem colbd_step {l : List Int} {i k : Nat} (h : ColBd l i k) {v : Int} (hv : l[i + k + 1]? = some v) {e : Int} (h0 : 0 ≤ e) (h1 : e ≤ 81) : ColBd (l.set (i + k + 1) (v + e)) i (k + 1) := by
  intro j u hu
  obtain ⟨a, b, c⟩ := h _ _ hv
  have hlt := (List.getElem?_eq_some_iff.1 hv).1
  by_cases hj : i + k + 1 = j
  · subst hj
    rw [List.getElem?_set_self hlt] at hu
    injection hu with hu
    have := c (Nat.le_refl _)
    omega
  · rw [List.getElem?_set_ne hj] at hu
    obtain ⟨a', b', c'⟩ := h _ _ hu
    exact ⟨a', b', fun h => c' (by omega)⟩
theorem colbd_row {l : List Int} {i k : Nat} (h : ColBd l i k) : ColBd l (i + 1) 0 := by
  intro j u hu
  obtain ⟨a', b', c'⟩ := h _ _ hu
  exact ⟨a', by omega, fun _ => by omega⟩

set_option maxRecDepth 100000 in
set_option maxHeartbeats 4000000 in
theorem product_c (m n : Nat) (w : World) (hla : (Lib.decDigits m).length ≤ 20000) (hlb : (Lib.decDigits n).length ≤ 20000) :
    Calls Tryz.prog 172 #[.string ⟨(Lib.decDigits m).toArray⟩, .string ⟨(Lib.decDigits n).toArray⟩] w (Ret w (.string ⟨(Lib.decDigits (m * n)).toArray⟩)) := by
  have pa := dec_len_pos m
  have pb := dec_len_pos n
  have da := allD_dec m
  have db := allD_dec n
  have na := nat_dec m
  have nb := nat_dec n
  generalize Lib.decDigits m = a at *
  generalize Lib.decDigits n = b at *
  subst na nb
  have DA := Lib.hid da; have DB := Lib.hid db; clear da db
  have hmk := run_make_ints (a.length + b.length) (by omega)
  have hmk2 := run_make_bytes (a.length + b.length) (by omega)
  rw [Int.natCast_add] at hmk hmk2
  go_enter Tryz.func172, Tryz.ntmps172
  go_wp2
  clear hmk
  have H2 := Lib.hid hmk2; clear hmk2
  go_loopw [6, 7] (fun si sk wr => ∃ (i : Nat) (l : List Int), si = .int .i64 i ∧ i ≤ a.length ∧ Hid (l.length = a.length + b.length) ∧ Hid (ColAt a b l i 0) ∧ Hid (ColBd l i 0) ∧ RI wr w.heap.size l ∧ Below w.heap.size w wr) (fun si _ _ => a.length - (intOf si).toNat)
  case atStart => exact ⟨0, List.replicate (a.length + b.length) 0, rfl, Nat.zero_le _, by simp [Hid], col_start a b _, colbd_start _, RI.made w _, (Below.refl _ _).alloc (Nat.le_refl _) _⟩
  case round =>
    obtain ⟨i, l, rfl, hi, hl, hcol, hbd, hR, hB⟩ := hrel
    by_cases hlt : i < a.length
    · obtain ⟨wo, rfl⟩ : ∃ wo : World, wo = wr := ⟨_, rfl⟩
      go_wp2
      go_loopw [7] (fun sk wr => ∃ (k : Nat) (l : List Int), sk = .int .i64 k ∧ k ≤ b.length ∧ Hid (l.length = a.length + b.length) ∧ Hid (ColAt a b l i k) ∧ Hid (ColBd l i k) ∧ RI wr w.heap.size l ∧ Below w.heap.size w wr) (fun sk _ => b.length - (intOf sk).toNat)
      case atStart => exact ⟨0, l, rfl, Nat.zero_le _, hl, hcol, hbd, hR, hB⟩
      case round =>
        clear hl hcol hbd hR hB
        obtain ⟨k, l, rfl, hk, hl, hcol, hbd, hR, hB⟩ := hrel
        by_cases hlt2 : k < b.length
        · have hj : i + k + 1 < l.length := by have := hl.out; omega
          obtain ⟨v, hv⟩ : ∃ v, l[i + k + 1] = v := ⟨_, rfl⟩
          obtain ⟨hv0, hv1, _⟩ := hbd.out (i + k + 1) v (by rw [List.getElem?_eq_getElem hj, hv])
          have hc := hR.cell hj
          have hf := hR.free (i + k + 1)
          rw [hv] at hc
          have HV := Lib.hid hv; clear hv
          have hda := (isD_iff _).1 (allD_at DA.out hlt)
          have hdb := (isD_iff _).1 (allD_at DB.out hlt2)
          obtain ⟨p, hp⟩ : ∃ p, a[i].toNat = p + 48 := ⟨a[i].toNat - 48, by omega⟩
          obtain ⟨q, hq⟩ : ∃ q, b[k].toNat = q + 48 := ⟨b[k].toNat - 48, by omega⟩
          have hp9 : p ≤ 9 := by omega
          have hq9 : q ≤ 9 := by omega
          clear hda hdb
          have hm1 : (p : Int) * (q : Int) ≤ 81 := by
            have : p * q ≤ 9 * 9 := Nat.mul_le_mul hp9 hq9
            have : ((p * q : Nat) : Int) ≤ 81 := by omega
            rwa [Int.natCast_mul] at this
          have hm0 : 0 ≤ (p : Int) * (q : Int) := Int.mul_nonneg (by omega) (by omega)
          have hix : ((i : Int) + (k : Int) + 1).toNat = i + k + 1 := by omega
          have hls : l.length ≤ 40000 := by have := hl.out; omega
          go_upto_block 3 with fail
          go_cut [7] (fun s7 wx => s7 = .int .i64 k ∧ RI wx w.heap.size (l.set (i + k + 1) (v + (p : Int) * (q : Int))) ∧ Below w.heap.size w wx)
          case first =>
            go_wp2_with fail
            go_region
            all_goals (go_wp2_with fail; go_meet)
            all_goals exact ⟨rfl, RI.set (w := wr.drew) hR _ _ rfl, hB.drew.setCell (Nat.le_refl _) _⟩
          case rest =>
            obtain ⟨rfl, hR2, hB2⟩ := hcut
            go_wp2
            go_round
            case rel =>
              have ep : (dv a[i] : Int) = p := by unfold dv; omega
              have eq : (dv b[k] : Int) = q := by unfold dv; omega
              refine ⟨k + 1, _, by go_num, by omega, by show _ = _; rw [List.length_set]; exact hl.out, ?_, ?_, hR2, hB2⟩
              · have := col_step hl.out hlt hlt2 hcol.out hj
                rw [HV.out, ep, eq] at this
                exact this
              · exact colbd_step hbd.out (by rw [List.getElem?_eq_getElem hj, HV.out]) hm0 hm1
            case measure => simp [intOf]; omega
        · obtain rfl : k = b.length := by omega
          have hcol2 := Lib.hid (col_row hlt hcol.out)
          have hbd2 := Lib.hid (colbd_row hbd.out)
          clear hcol hbd
          go_wp2
          go_roundw
          case rel => exact ⟨i + 1, l, by go_num, by omega, hl, hcol2, hbd2, hR, hB⟩
          case measure => simp [intOf]; omega
    · obtain rfl : i = a.length := by omega
      obtain ⟨wp, rfl⟩ : ∃ wp : World, wp = wr := ⟨_, rfl⟩
      have hcs := Lib.hid (col_end hcol.out)
      have hbd2 : ∀ (j : Nat) (v : Int), l[j]? = some v → 0 ≤ v ∧ v ≤ 81 * ((a.length : Int) + 1) := fun j v h => ⟨(hbd.out j v h).1, (hbd.out j v h).2.1⟩
      have HB := Lib.hid hbd2
      have hlp : 1 ≤ a.length + b.length := by omega
      clear hcol hbd hbd2
      have hmk2 := H2.out
      go_wp2
      clear hmk2
      obtain ⟨N, hN⟩ : ∃ N, a.length + b.length = N := ⟨_, rfl⟩
      rw [show ((a.length : Int) + (b.length : Int)) = ((a.length + b.length : Nat) : Int) by omega, hN]
      have HN := Lib.hid hN
      clear hN
      have hN0 : 1 ≤ N := by have := HN.out; omega
      have hN1 : N ≤ 40000 := by have := HN.out; omega
      have hgl : w.heap.size < wp.heap.size := hR.lt
      go_loopw [9, 10] (fun c si wq => ∃ (k : Nat) (cc : Int) (o : Txt), c = .int .i64 cc ∧ si = .int .i64 ((k : Int) - 1) ∧ k ≤ N ∧ 0 ≤ cc ∧ cc ≤ 81 * ((a.length : Int) + 1) ∧ Hid (o.length = N) ∧ Hid (CarAt l o k cc) ∧ RB wq wp.heap.size o ∧ RI wq w.heap.size l ∧ Below w.heap.size w wq) (fun _ si _ => (intOf si + 1).toNat)
      case atStart =>
        refine ⟨N, 0, List.replicate N 0, rfl, by go_num, Nat.le_refl _, by omega, by omega, by simp [Hid], car_start _ _ N (by have := hl.out; have := HN.out; omega) (by simp), ?_, hR.later ((Below.refl _ _).alloc (Nat.le_refl _) _), hB.alloc hB.size _⟩
        exact RB.made wp N
      case round =>
        clear hR hB
        obtain ⟨k, cc, o, rfl, rfl, hk, hc0, hc1, hol, hcar, hR, hRI, hB⟩ := hrel
        by_cases h0 : 1 ≤ k
        · obtain ⟨i, rfl⟩ : ∃ i, k = i + 1 := ⟨k - 1, by omega⟩
          rw [show (((i + 1 : Nat) : Int) - 1) = (i : Int) by omega]
          have hil : i < l.length := by have := hl.out; have := HN.out; omega
          have hio : i < o.length := by have := hol.out; omega
          have hls : l.length ≤ 40000 := by have := hl.out; have := HN.out; omega
          obtain ⟨v, hv⟩ : ∃ v, l[i] = v := ⟨_, rfl⟩
          obtain ⟨hv0, hv1⟩ := HB.out i v (by rw [List.getElem?_eq_getElem hil, hv])
          have hc := hRI.cell hil
          rw [hv] at hc
          have HV := Lib.hid hv; clear hv
          have hco := hR.cell hio
          have hfo := hR.free i
          have hin : i < a.length + b.length := by have := HN.out; omega
          go_wp2
          go_roundw
          case rel =>
            have hcar2 := car_step (N := N) (by have := hl.out; have := HN.out; omega) hol.out (by omega) hcar.out (cc + v) (by rw [HV.out])
            refine ⟨i, (cc + v) / 10, o.set i (ch ((cc + v) % 10).toNat), rfl, by go_num, by omega, by omega, by omega, by show _ = _; rw [List.length_set]; exact hol.out, hcar2, hR.set i _ ?_, ?_, hB.setCell (Nat.le_of_lt hgl) _⟩
            · rw [ch_toNat (by omega)]
              go_num
            · unfold RI; rw [Below.heap_setCell _ _ _ _ (by simp; omega)]; exact hRI
          case measure => simp [intOf]
        · obtain rfl : k = 0 := by omega
          have hsr := run_string_row hR (n := N) (by have := hol.out; omega) N
          have hne : o ≠ [] := by intro e; have := hol.out; rw [e] at this; simp at this; omega
          have hlt3 : nat a * nat b < 10 ^ N := by
            rw [← HN.out, Nat.pow_add]
            have e1 := nat_lt a DA.out
            have e2 := nat_lt b DB.out
            exact Nat.mul_lt_mul'' e1 e2
          obtain ⟨ho1, ho2⟩ := car_end (v := nat a * nat b) hol.out hcar.out (by rw [hcs.out, Int.natCast_mul]) hlt3 hc0
          have ho3 := Lib.hid (show bare o = Lib.decDigits (nat a * nat b) by rw [bare_spec o hne ho1, ho2])
          clear ho1 ho2 hlt3
          go_wp2_with fail
          refine (bare_c o _).mono ?_
          rintro e w' ⟨rfl, rfl⟩
          go_wp2
          go_ret
          exact ⟨ret_str ho3.out, hB⟩
end Go.Proofs.Wk
