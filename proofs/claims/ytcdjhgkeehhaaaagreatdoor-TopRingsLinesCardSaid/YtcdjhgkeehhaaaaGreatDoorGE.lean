/- THE PROGRAM's WHOLE NUMBERS AS TEXTS: what is read of the library's variables; checks, signs and the order. -/
import Derived.Test.YtcdjhgkeehhaaaaGreatDoorBase
import Derived.Test.YtcdjhgkeehhaaaaGreatDoorShelf
import Derived.Test.YtcdjhgkeehhaaaaGreatDoorGA
import Derived.Lib.SmallJoins
import Derived.Lib.AtoiErrMem
namespace Go.Proofs.Wk
open Go.RowKit Mt

/-- WHAT THE CALLS READ OF THE LIBRARY's VARIABLES: the table of powers of ten, and the error of numbers out of range. -/
structure Good (w : World) : Prop where
  tab : Lib.TabIs Tryz.prog w "internal/strconv.uint64pow10" .u64 Lib.pow10Tab
  err : ∃ tp p, w.var? Tryz.prog "strconv.ErrRange" = some #[.iface tp p]

theorem g_tab : Tryz.prog.globalNamed "internal/strconv.uint64pow10" = some 3 := by kernel_rfl
theorem g_err : Tryz.prog.globalNamed "strconv.ErrRange" = some 2 := by kernel_rfl
theorem var_lt {w : World} {n : String} {g : Nat} {cs : Array Value} (hg : Tryz.prog.globalNamed n = some g) (h : w.var? Tryz.prog n = some cs) : g < w.heap.size := by
  unfold World.var? at h
  simp only [hg, Option.bind_some] at h
  rcases Nat.lt_or_ge g w.heap.size with h' | h'
  · exact h'
  · rw [Array.getElem?_eq_none h'] at h; simp at h
theorem Good.later {w w' : World} (h : Good w) (hb : Below w.heap.size w w') : Good w' := by
  obtain ⟨h1, tp, p, h2⟩ := h
  exact ⟨var?_below hb g_tab (var_lt g_tab h1) h1, tp, p, var?_below hb g_err (var_lt g_err h2) h2⟩

theorem below_grow (w : World) (k : Nat) (os : Array Obj) : Below w.heap.size w (Sort.grow (w.drewN k) os) := by
  refine ⟨rfl, rfl, rfl, ?_, fun i hi => ?_⟩
  · show w.heap.size ≤ (w.heap ++ os).size; simp
  · show (w.heap ++ os)[i]? = _
    rw [Array.getElem?_append_left hi]

theorem Itoa_c (n : Int) (w : World) (hg : Good w) (h0 : -9223372036854775808 ≤ n) (h1 : n ≤ 9223372036854775807) :
    Calls Tryz.prog 93 #[.int .i64 n] w (Ret w (.string ⟨(Lib.itoa n).toArray⟩)) := by
  refine (Tryz.strconv_Itoa n h0 h1 w hg.tab).mono ?_
  rintro e w' ⟨rfl, k, os, rfl⟩
  exact ⟨rfl, below_grow w k os⟩
theorem size_mk (l : List UInt8) : (⟨l.toArray⟩ : ByteArray).size = l.length := by simp [ByteArray.size]
theorem Atoi_ok (l : List UInt8) (v : Int) (w : World) (hl : l.length ≤ 140737488355328) (h : Lib.atoiAll l = .ok v) :
    Calls Tryz.prog 98 #[.string ⟨l.toArray⟩] w (Ret w (.tuple #[.int .i64 v, .nilIface])) := by
  refine (Tryz.strconv_Atoi_ok ⟨l.toArray⟩ (by rw [size_mk]; omega) v h w).mono ?_
  rintro e w' ⟨rfl, hw⟩
  refine ⟨rfl, ?_⟩
  rcases hw with rfl | ⟨t, rfl⟩
  · exact Below.refl _ _
  · exact Lib.bytesWorld_below w _ t
/-- What an answer with an error is. -/
def RetErr (w : World) (e : Ending) (w' : World) : Prop := ∃ (n : Int) (t : TypeId) (p : Value), e = .returned (.tuple #[.int .i64 n, .iface t p]) ∧ Below w.heap.size w w'
theorem Atoi_err (l : List UInt8) (w : World) (hg : Good w) (hl : l.length ≤ 140737488355328) (h : Lib.atoiAll l = .range) :
    Calls Tryz.prog 98 #[.string ⟨l.toArray⟩] w (RetErr w) := by
  obtain ⟨_, tp, p, hv⟩ := hg
  refine (Tryz.strconv_Atoi_range_var ⟨l.toArray⟩ (by rw [size_mk]; omega) h tp p w hv).mono ?_
  rintro e w' ⟨N, rfl, _, _, hb⟩
  exact ⟨_, _, _, rfl, hb⟩
theorem TrimPrefix_c (l : List UInt8) (w : World) : Calls Tryz.prog 40 #[.string ⟨l.toArray⟩, .string ⟨#[45]⟩] w (Pur w (.string ⟨(body l).toArray⟩)) := by
  refine (Tryz.strings_TrimPrefix ⟨l.toArray⟩ ⟨#[45]⟩ w).mono ?_
  rintro e w' ⟨rfl, rfl⟩
  exact ⟨by rw [← trimPrefix_body], rfl⟩
theorem Trim_c (l : List UInt8) (w : World) (hl : l.length ≤ 140737488355328) : Calls Tryz.prog 94 #[.string ⟨l.toArray⟩, .string ⟨#[48, 49, 50, 51, 52, 53, 54, 55, 56, 57]⟩] w (Ret w (.string ⟨(Lib.trimS l digs).toArray⟩)) := by
  refine (Tryz.strings_Trim_set ⟨l.toArray⟩ ⟨#[48, 49, 50, 51, 52, 53, 54, 55, 56, 57]⟩ w (by rw [size_mk]; omega) (by decide) (ascii_of_all (by decide))).mono ?_
  rintro e w' ⟨rfl, hb⟩
  exact ⟨rfl, hb⟩
theorem Compare_lib (a b : List UInt8) (w : World) : Calls Tryz.prog 66 #[.string ⟨a.toArray⟩, .string ⟨b.toArray⟩] w (Pur w (.int .i64 (Lib.compareBytes a b))) := by
  refine (Tryz.strings_Compare ⟨a.toArray⟩ ⟨b.toArray⟩ w).mono ?_
  rintro e w' ⟨rfl, rfl⟩
  exact ⟨rfl, rfl⟩

set_option maxRecDepth 100000 in
set_option maxHeartbeats 1000000 in
theorem wCheck_c (l : List UInt8) (w : World) (hl : l.length ≤ 140737488355328) : Calls Tryz.prog 58 #[.string ⟨l.toArray⟩] w (Ret w (.int .i64 (chk l))) := by
  have hbl : (body l).length ≤ l.length := by unfold body; split <;> simp
  have hcan : canon l = (can (body l) && (!neg l || body l != [48])) := rfl
  have hchk : chk l = if canon l then (if 1024 < (body l).length then 11 else 0) else 3 := rfl
  have hl48 : body l = [48] → (l = [48] ↔ neg l = false) := by
    intro h1
    have := eq_body l
    rw [h1] at this
    constructor
    · rintro rfl; rfl
    · intro h2; rw [h2] at this; simpa using this
  have hl0 : l = [48] → body l = [48] := by rintro rfl; rfl
  have htp := TrimPrefix_c l
  obtain ⟨s, hs⟩ : ∃ s, body l = s := ⟨_, rfl⟩
  rw [hs] at htp hbl hcan hchk hl48 hl0
  have htr := trim_digits s
  have hT := fun W => Trim_c s W (by omega)
  have HS := Lib.hid htp; have HC := Lib.hid hcan; have HK := Lib.hid hchk; have HL := Lib.hid hl48; have HL0 := Lib.hid hl0; have HT := Lib.hid hT; have HTR := Lib.hid htr
  clear htp hcan hchk hl48 hl0 hs hT htr
  cases s with
  | nil =>
    go_enter Tryz.func58, Tryz.ntmps58
    go_wp2_with fail
    refine (HS.out _).mono ?_; rintro e w1 ⟨rfl, rfl⟩
    go_wp2
    go_ret
    refine ⟨ret_int ?_, Below.refl _ _⟩
    rw [HK.out, HC.out]; simp [can]
  | cons c t =>
    obtain ⟨tr, htr⟩ : ∃ tr, Lib.trimS (c :: t) digs = tr := ⟨_, rfl⟩
    rw [htr] at HT HTR
    clear htr
    by_cases hd : tr = []
    · have hall := HTR.out.1 hd
      have HA := Lib.hid hall
      clear hall
      by_cases hc : c = 48
      · subst hc
        by_cases h0 : l = [48]
        · have hb1 := HL0.out h0
          obtain rfl : t = [] := by simpa using hb1
          clear hb1
          subst h0
          subst hd
          go_enter Tryz.func58, Tryz.ntmps58
          go_wp2_with fail
          refine (HS.out _).mono ?_; rintro e w1 ⟨rfl, rfl⟩
          go_wp2_with fail
          refine (HT.out _).mono ?_; rintro e w1 ⟨rfl, hb1⟩
          go_wp2
          go_ret
          exact ⟨ret_int (by decide), hb1⟩
        · have h0' : (l == [48]) = false := by simpa using h0
          subst hd
          go_enter Tryz.func58, Tryz.ntmps58
          go_wp2_with fail
          refine (HS.out _).mono ?_; rintro e w1 ⟨rfl, rfl⟩
          go_wp2_with fail
          refine (HT.out _).mono ?_; rintro e w1 ⟨rfl, hb1⟩
          go_wp2
          go_ret
          refine ⟨ret_int ?_, hb1⟩
          rw [HK.out, HC.out]
          cases t with
          | nil =>
            have : neg l = true := by
              cases h : neg l with
              | true => rfl
              | false => exact absurd ((HL.out rfl).2 h) h0
            rw [this]; simp
          | cons d r => simp [can]
      · have h' : ((c.toNat : Int) == 48) = false := u8_eq_no (d := 48) rfl hc
        have hcs : can (c :: t) = true ∧ (c :: t) ≠ [48] := by
          refine ⟨?_, fun e => hc (by simpa using (List.cons.inj e).1)⟩
          rw [can_iff]
          exact ⟨by simp, HA.out, fun e => absurd (by simpa using e) hc⟩
        have HX := Lib.hid hcs
        clear hcs
        subst hd
        by_cases hlong : 1024 < (c :: t).length
        · have hlong2 : 1024 < t.length + 1 := by simpa using hlong
          go_enter Tryz.func58, Tryz.ntmps58
          go_wp2_with fail
          refine (HS.out _).mono ?_; rintro e w1 ⟨rfl, rfl⟩
          go_wp2_with fail
          refine (HT.out _).mono ?_; rintro e w1 ⟨rfl, hb1⟩
          go_wp2
          go_ret
          refine ⟨ret_int ?_, hb1⟩
          have := HX.out.2
          rw [HK.out, HC.out, HX.out.1, if_pos hlong]; simp [this]
        · have hlong2 : ¬ 1024 < t.length + 1 := by simpa using hlong
          go_enter Tryz.func58, Tryz.ntmps58
          go_wp2_with fail
          refine (HS.out _).mono ?_; rintro e w1 ⟨rfl, rfl⟩
          go_wp2_with fail
          refine (HT.out _).mono ?_; rintro e w1 ⟨rfl, hb1⟩
          go_wp2
          go_ret
          refine ⟨ret_int ?_, hb1⟩
          have := HX.out.2
          rw [HK.out, HC.out, HX.out.1, if_neg hlong]; simp [this]
    · have hno : can (c :: t) = false := by
        cases h : can (c :: t) with
        | false => rfl
        | true => exact absurd (HTR.out.2 ((can_iff _).1 h).2.1) hd
      have HN := Lib.hid hno
      clear hno
      have hd2 : (tr == []) = false := by simpa using hd
      go_enter Tryz.func58, Tryz.ntmps58
      go_wp2_with fail
      refine (HS.out _).mono ?_; rintro e w1 ⟨rfl, rfl⟩
      go_wp2_with fail
      refine (HT.out _).mono ?_; rintro e w1 ⟨rfl, hb1⟩
      go_wp2
      go_ret
      refine ⟨ret_int ?_, hb1⟩
      rw [HK.out, HC.out, HN.out]; simp
end Go.Proofs.Wk
/- THE PROGRAM's WHOLE NUMBERS: the first error of a list; signs, orders, opposites; short numbers. -/
namespace Go.Proofs.Wk
open Go.RowKit Mt

/-- A row of texts. -/
def RS (w : World) (b off : Nat) (ls : List (List UInt8)) : Prop := ∀ j (h : j < ls.length), w.cell? ⟨b, off + j, none⟩ = some (.string ⟨(ls[j]).toArray⟩)
theorem RS.later {w w' : World} {B b off : Nat} {ls : List (List UInt8)} (h : RS w b off ls) (hb : Below B w w') (hlt : b < B) : RS w' b off ls := by
  intro j hj
  rw [hb.cell (p := ⟨b, off + j, none⟩) hlt]
  exact h j hj
theorem RS.two (w : World) (a b : List UInt8) (t : TypeId) : RS (w.alloc (.cells #[.string ⟨a.toArray⟩, .string ⟨b.toArray⟩] t)) w.heap.size 0 [a, b] := by
  intro j hj
  match j, hj with
  | 0, _ => simp [World.cell?_alloc_mark]
  | 1, _ => simp [World.cell?_alloc_mark]
theorem firstErr_drop {ls : List (List UInt8)} {i : Nat} (h : i < ls.length) : firstErr (ls.drop i) = if chk ls[i] = 0 then firstErr (ls.drop (i + 1)) else chk ls[i] := by
  rw [List.drop_eq_getElem_cons h, firstErr]

set_option maxRecDepth 100000 in
set_option maxHeartbeats 2000000 in
theorem all_c (b off c : Nat) (ls : List (List UInt8)) (w : World) (hls : ls.length ≤ 140737488355328) (hlen : ∀ l ∈ ls, l.length ≤ 140737488355328) (hR : RS w b off ls) (hb : b < w.heap.size) :
    Calls Tryz.prog 37 #[.slice (some ⟨b, off, none⟩) ls.length c] w (Ret w (.int .i64 (firstErr ls))) := by
  have HR := Lib.hid hR; have HL := Lib.hid hlen
  clear hR hlen
  obtain ⟨n, hn⟩ : ∃ n, ls.length = n := ⟨_, rfl⟩
  rw [hn] at hls ⊢
  have HN := Lib.hid hn
  clear hn
  go_enter Tryz.func37, Tryz.ntmps37
  go_wp2
  go_loopw [4, 5, 8] (fun _ _ si wr => ∃ i : Nat, si = .int .i64 i ∧ i ≤ n ∧ Hid (firstErr (ls.drop i) = firstErr ls) ∧ Below w.heap.size w wr) (fun _ _ si _ => n - (intOf si).toNat)
  case atStart => exact ⟨0, rfl, Nat.zero_le _, rfl, Below.refl _ _⟩
  case round =>
    obtain ⟨i, rfl, hi, hf, hB⟩ := hrel
    by_cases hlt : i < n
    · have hil : i < ls.length := by rw [HN.out]; exact hlt
      have hc := (HR.out.later hB hb) i hil
      have hfd := firstErr_drop hil
      have hlen := HL.out ls[i] (List.getElem_mem hil)
      obtain ⟨a, ha⟩ : ∃ a, ls[i] = a := ⟨_, rfl⟩
      rw [ha] at hc hlen hfd
      have HF := Lib.hid hfd
      clear ha hfd
      have HC := Lib.hid (fun W => wCheck_c a W hlen)
      clear hlen
      go_wp2_with fail
      refine (HC.out _).mono ?_; rintro e w1 ⟨rfl, hb1⟩
      have hB2 := hB.trans (hb1.mono hB.size)
      by_cases h0 : chk a = 0
      · have hf2 : firstErr (ls.drop (i + 1)) = firstErr ls := by
          have := HF.out; rw [if_pos h0] at this; rw [← this]; exact hf.out
        have HF2 := Lib.hid hf2
        rw [h0]
        clear hf2 h0
        go_wp2
        go_roundw
        case rel => exact ⟨i + 1, by go_num, by omega, HF2.out, hB2⟩
        case measure => simp [intOf]; omega
      · have hf2 : chk a = firstErr ls := by
          have := HF.out; rw [if_neg h0] at this; rw [← this]; exact hf.out
        have HF2 := Lib.hid hf2
        generalize chk a = x at *
        have hx : (x != 0) = true := by rw [bne_iff_ne]; exact h0
        clear hf2
        go_wp2
        go_ret
        exact ⟨ret_int HF2.out, hB2⟩
    · obtain rfl : i = n := by omega
      have hf2 : firstErr ls = 0 := by
        rw [← hf.out, List.drop_eq_nil_of_le (by rw [HN.out]; exact Nat.le_refl _)]; rfl
      have HF2 := Lib.hid hf2
      clear hf2
      go_wp2
      go_ret
      exact ⟨ret_int HF2.out.symm, hB⟩

set_option maxRecDepth 100000 in
set_option maxHeartbeats 2000000 in
theorem wOf_c (n : Int) (w : World) (hg : Good w) (h0 : -9223372036854775808 ≤ n) (h1 : n ≤ 9223372036854775807) :
    Calls Tryz.prog 56 #[.int .i64 n] w (Ret w (.string ⟨(Lib.itoa n).toArray⟩)) := by
  have HI := Lib.hid (Itoa_c n w hg h0 h1)
  clear h0 h1 hg
  go_enter Tryz.func56, Tryz.ntmps56
  go_wp2_with fail
  refine (HI.out).mono ?_; rintro e Whb1 ⟨rfl, hb1⟩
  go_wp2
  go_ret
  exact ⟨rfl, hb1⟩

set_option maxRecDepth 100000 in
set_option maxHeartbeats 2000000 in
theorem result_c (n : Int) (w : World) (hg : Good w) (h0 : -9223372036854775808 ≤ n) (h1 : n ≤ 9223372036854775807) :
    Calls Tryz.prog 62 #[.int .i64 n] w (Ret w (.tuple #[.string ⟨(Lib.itoa n).toArray⟩, .int .i64 0])) := by
  have HI := Lib.hid (wOf_c n w hg h0 h1)
  clear h0 h1 hg
  go_enter Tryz.func62, Tryz.ntmps62
  go_wp2_with fail
  refine (HI.out).mono ?_; rintro e Whb1 ⟨rfl, hb1⟩
  go_wp2
  go_ret2
  exact ⟨rfl, hb1⟩

set_option maxRecDepth 100000 in
set_option maxHeartbeats 2000000 in
theorem sign_c (n : Int) (w : World) : Calls Tryz.prog 38 #[.string ⟨(Lib.itoa n).toArray⟩] w (Pur w (.int .i64 (sgn n))) := by
  by_cases h0 : n = 0
  · subst h0
    rw [itoa_zero, sgn_zero]
    go_enter Tryz.func38, Tryz.ntmps38
    go_wp2
    go_ret
    exact ⟨rfl, rfl⟩
  · have hne : ¬ Lib.itoa n = [48] := fun e => h0 (itoa_eq_zero.1 e)
    have hneg := neg_itoa n
    have hnil := itoa_ne_nil n
    by_cases hlt : n < 0
    · rw [sgn_neg hlt]
      simp only [hlt, decide_true] at hneg
      generalize Lib.itoa n = l at *
      clear h0 hlt
      cases l with
      | nil => exact absurd rfl hnil
      | cons c t =>
        have hc : c = 45 := by simpa [neg] using hneg
        subst hc
        clear hne hneg hnil
        go_enter Tryz.func38, Tryz.ntmps38
        go_wp2
        go_ret
        exact ⟨rfl, rfl⟩
    · rw [sgn_pos (show 0 < n by omega)]
      simp only [hlt, decide_false] at hneg
      generalize Lib.itoa n = l at *
      clear h0 hlt
      cases l with
      | nil => exact absurd rfl hnil
      | cons c t =>
        have hc : ¬ c = 45 := by simpa [neg] using hneg
        have h' : ((c.toNat : Int) == 45) = false := u8_eq_no (d := 45) rfl hc
        have h2 : ((c :: t) == [48]) = false := by simpa using hne
        clear hneg hnil
        go_enter Tryz.func38, Tryz.ntmps38
        go_wp2
        go_ret
        exact ⟨rfl, rfl⟩

set_option maxRecDepth 100000 in
set_option maxHeartbeats 2000000 in
theorem order_c (m n : Nat) (w : World) : Calls Tryz.prog 39 #[.string ⟨(Lib.decDigits m).toArray⟩, .string ⟨(Lib.decDigits n).toArray⟩] w (Pur w (.int .i64 (cmp m n))) := by
  have hl := @dec_len_lt m n
  have hr := @dec_len_lt n m
  have he := @compare_dec m n
  generalize Lib.decDigits m = a at *
  generalize Lib.decDigits n = b at *
  by_cases h1 : a.length = b.length
  · rw [← he h1]
    have h2 : ((a.length : Int) != (b.length : Int)) = false := by simp [h1]
    clear hl hr he h1
    go_enter Tryz.func39, Tryz.ntmps39
    go_wp2_with fail
    refine (Compare_lib a b _).mono ?_; rintro e w1 ⟨rfl, rfl⟩
    go_wp2
    go_ret
    exact ⟨rfl, rfl⟩
  · have h2 : ((a.length : Int) != (b.length : Int)) = true := by rw [bne_iff_ne]; omega
    by_cases h3 : a.length < b.length
    · rw [cmp_lt (by have := hl h3; omega)]
      clear hl hr he h1
      go_enter Tryz.func39, Tryz.ntmps39
      go_wp2
      go_ret
      exact ⟨rfl, rfl⟩
    · rw [cmp_gt (by have := hr (by omega); omega)]
      clear hl hr he h1
      go_enter Tryz.func39, Tryz.ntmps39
      go_wp2
      go_ret
      exact ⟨rfl, rfl⟩

set_option maxRecDepth 100000 in
set_option maxHeartbeats 2000000 in
theorem opposite_c (n : Int) (w : World) (hl : lng n ≤ 20000) : Calls Tryz.prog 119 #[.string ⟨(Lib.itoa n).toArray⟩] w (Pur w (.string ⟨(Lib.itoa (-n)).toArray⟩)) := by
  have hs := sign_c n
  by_cases h0 : n = 0
  · subst h0
    rw [show (-(0 : Int)) = 0 from rfl]
    rw [sgn_zero] at hs
    have HS := Lib.hid hs
    clear hs
    go_enter Tryz.func119, Tryz.ntmps119
    go_wp2_with fail
    refine (HS.out _).mono ?_; rintro e w1 ⟨rfl, rfl⟩
    go_wp2
    go_ret
    exact ⟨rfl, rfl⟩
  · by_cases hlt : n < 0
    · rw [sgn_neg hlt] at hs
      rw [itoa_neg' hlt] at hs ⊢
      rw [itoa_pos' (show 0 ≤ -n by omega), Int.natAbs_neg]
      generalize Lib.decDigits n.natAbs = l at *
      have HS := Lib.hid hs
      clear hs h0 hlt
      go_enter Tryz.func119, Tryz.ntmps119
      go_wp2_with fail
      refine (HS.out _).mono ?_; rintro e w1 ⟨rfl, rfl⟩
      go_wp2
      go_ret
      exact ⟨rfl, rfl⟩
    · rw [sgn_pos (show 0 < n by omega)] at hs
      unfold lng at hl
      rw [itoa_pos' (show 0 ≤ n by omega)] at hs ⊢
      rw [itoa_neg' (show -n < 0 by omega), Int.natAbs_neg]
      generalize Lib.decDigits n.natAbs = l at *
      have HS := Lib.hid hs
      clear hs h0 hlt
      go_enter Tryz.func119, Tryz.ntmps119
      go_wp2_with fail
      refine (HS.out _).mono ?_; rintro e w1 ⟨rfl, rfl⟩
      go_wp2
      go_ret
      exact ⟨rfl, rfl⟩

set_option maxRecDepth 100000 in
set_option maxHeartbeats 2000000 in
theorem small_yes (m n : Int) (w : World) (hm : (Lib.itoa m).length ≤ 9) (hn : (Lib.itoa n).length ≤ 9) :
    Calls Tryz.prog 61 #[.string ⟨(Lib.itoa m).toArray⟩, .string ⟨(Lib.itoa n).toArray⟩] w (Ret w (.tuple #[.int .i64 m, .int .i64 n, .bool true])) := by
  have lm := lng_itoa_lo m
  have ln := lng_itoa_lo n
  have b1 := (lng18 m).1 (by omega)
  have b2 := (lng18 n).1 (by omega)
  have HM := Lib.hid (fun W => Atoi_ok (Lib.itoa m) m W (by omega) (atoi_itoa m (by omega) (by omega)))
  have HN := Lib.hid (fun W => Atoi_ok (Lib.itoa n) n W (by omega) (atoi_itoa n (by omega) (by omega)))
  clear lm ln b1 b2
  generalize Lib.itoa m = a at *
  generalize Lib.itoa n = b at *
  go_enter Tryz.func61, Tryz.ntmps61
  go_wp2_with fail
  refine (HM.out _).mono ?_; rintro e Whb1 ⟨rfl, hb1⟩
  go_wp2_with fail
  refine (HN.out _).mono ?_; rintro e Whb2 ⟨rfl, hb2⟩
  go_wp2
  go_ret3
  exact ⟨rfl, Below.step hb1 hb2⟩

set_option maxRecDepth 100000 in
set_option maxHeartbeats 2000000 in
theorem small_no (a b : List UInt8) (w : World) (h : ¬ (a.length ≤ 9 ∧ b.length ≤ 9)) :
    Calls Tryz.prog 61 #[.string ⟨a.toArray⟩, .string ⟨b.toArray⟩] w (Pur w (.tuple #[.int .i64 0, .int .i64 0, .bool false])) := by
  by_cases ha : a.length ≤ 9
  · have hb : ¬ b.length ≤ 9 := fun x => h ⟨ha, x⟩
    clear h
    go_enter Tryz.func61, Tryz.ntmps61
    go_wp2
    go_ret3
    exact ⟨rfl, rfl⟩
  · clear h
    go_enter Tryz.func61, Tryz.ntmps61
    go_wp2
    go_ret3
    exact ⟨rfl, rfl⟩

end Go.Proofs.Wk
