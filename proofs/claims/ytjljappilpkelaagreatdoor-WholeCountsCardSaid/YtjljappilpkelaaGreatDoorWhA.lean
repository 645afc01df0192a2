/- THE PROGRAM's WHOLE NUMBERS AS TEXTS: what is read of the library's variables; checks, signs and the order. -/
import Derived.Test.YtjljappilpkelaaGreatDoorBase
import Derived.Test.YtjljappilpkelaaGreatDoorShelf
import Derived.Test.YtjljappilpkelaaGreatDoorMathC
import Derived.Lib.SmallJoins
import Derived.Lib.AtoiErrMem
namespace Go.Proofs.Wk
open Go.RowKit Mt

/-- WHAT THE CALLS READ OF THE LIBRARY's VARIABLES: the table of powers of ten, and the error of numbers out of range. -/
structure Good (w : World) : Prop where
  tab : Lib.TabIs Tryz.prog w "internal/strconv.uint64pow10" .u64 Lib.pow10Tab
  err : ∃ tp p, w.var? Tryz.prog "strconv.ErrRange" = some #[.iface tp p]

theorem g_tab : Tryz.prog.globalNamed "internal/strconv.uint64pow10" = some 5 := by kernel_rfl
theorem g_err : Tryz.prog.globalNamed "strconv.ErrRange" = some 1 := by kernel_rfl
theorem var_lt {w : World} {n : String} {g : Nat} {cs : Array Value} (hg : Tryz.prog.globalNamed n = some g) (h : w.var? Tryz.prog n = some cs) : g < w.heap.size := by
  unfold World.var? at h
  simp only [hg, Option.bind_some] at h
  rcases Nat.lt_or_ge g w.heap.size with h' | h'
  · exact h'
  · rw [Array.getElem?_eq_none h'] at h; simp at h
theorem Good.later {w w' : World} (h : Good w) (hb : Below w.heap.size w w') : Good w' := by
  obtain ⟨h1, tp, p, h2⟩ := h
  exact ⟨var?_below hb g_tab (var_lt g_tab h1) h1, tp, p, var?_below hb g_err (var_lt g_err h2) h2⟩

theorem below_grow (w : World) (k : Nat) (os : Array Obj) : Below w.heap.size w (Sort.grow (w.drewN k) os) := by
  refine ⟨rfl, rfl, rfl, ?_, fun i hi => ?_⟩
  · show w.heap.size ≤ (w.heap ++ os).size; simp
  · show (w.heap ++ os)[i]? = _
    rw [Array.getElem?_append_left hi]

theorem Itoa_c (n : Int) (w : World) (hg : Good w) (h0 : -9223372036854775808 ≤ n) (h1 : n ≤ 9223372036854775807) :
    Calls Tryz.prog 63 #[.int .i64 n] w (Ret w (.string ⟨(Lib.itoa n).toArray⟩)) := by
  refine (Tryz.strconv_Itoa n h0 h1 w hg.tab).mono ?_
  rintro e w' ⟨rfl, k, os, rfl⟩
  exact ⟨rfl, below_grow w k os⟩
theorem size_mk (l : List UInt8) : (⟨l.toArray⟩ : ByteArray).size = l.length := by simp [ByteArray.size]
theorem Atoi_ok (l : List UInt8) (v : Int) (w : World) (hl : l.length ≤ 140737488355328) (h : Lib.atoiAll l = .ok v) :
    Calls Tryz.prog 56 #[.string ⟨l.toArray⟩] w (Ret w (.tuple #[.int .i64 v, .nilIface])) := by
  refine (Tryz.strconv_Atoi_ok ⟨l.toArray⟩ (by rw [size_mk]; omega) v h w).mono ?_
  rintro e w' ⟨rfl, hw⟩
  refine ⟨rfl, ?_⟩
  rcases hw with rfl | ⟨t, rfl⟩
  · exact Below.refl _ _
  · exact Lib.bytesWorld_below w _ t
/-- What an answer with an error is. -/
def RetErr (w : World) (e : Ending) (w' : World) : Prop := ∃ (n : Int) (t : TypeId) (p : Value), e = .returned (.tuple #[.int .i64 n, .iface t p]) ∧ Below w.heap.size w w'
theorem Atoi_err (l : List UInt8) (w : World) (hg : Good w) (hl : l.length ≤ 140737488355328) (h : Lib.atoiAll l = .range) :
    Calls Tryz.prog 56 #[.string ⟨l.toArray⟩] w (RetErr w) := by
  obtain ⟨_, tp, p, hv⟩ := hg
  refine (Tryz.strconv_Atoi_range_var ⟨l.toArray⟩ (by rw [size_mk]; omega) h tp p w hv).mono ?_
  rintro e w' ⟨N, rfl, _, _, hb⟩
  exact ⟨_, _, _, rfl, hb⟩
theorem TrimPrefix_c (l : List UInt8) (w : World) : Calls Tryz.prog 61 #[.string ⟨l.toArray⟩, .string ⟨#[45]⟩] w (Pur w (.string ⟨(body l).toArray⟩)) := by
  refine (Tryz.strings_TrimPrefix ⟨l.toArray⟩ ⟨#[45]⟩ w).mono ?_
  rintro e w' ⟨rfl, rfl⟩
  exact ⟨by rw [← trimPrefix_body], rfl⟩
theorem Trim_c (l : List UInt8) (w : World) (hl : l.length ≤ 140737488355328) : Calls Tryz.prog 62 #[.string ⟨l.toArray⟩, .string ⟨#[48, 49, 50, 51, 52, 53, 54, 55, 56, 57]⟩] w (Ret w (.string ⟨(Lib.trimS l digs).toArray⟩)) := by
  refine (Tryz.strings_Trim_set ⟨l.toArray⟩ ⟨#[48, 49, 50, 51, 52, 53, 54, 55, 56, 57]⟩ w (by rw [size_mk]; omega) (by decide) (ascii_of_all (by decide))).mono ?_
  rintro e w' ⟨rfl, hb⟩
  exact ⟨rfl, hb⟩
theorem Compare_lib (a b : List UInt8) (w : World) : Calls Tryz.prog 94 #[.string ⟨a.toArray⟩, .string ⟨b.toArray⟩] w (Pur w (.int .i64 (Lib.compareBytes a b))) := by
  refine (Tryz.strings_Compare ⟨a.toArray⟩ ⟨b.toArray⟩ w).mono ?_
  rintro e w' ⟨rfl, rfl⟩
  exact ⟨rfl, rfl⟩

set_option maxRecDepth 100000 in
set_option maxHeartbeats 1000000 in
theorem wCheck_c (l : List UInt8) (w : World) (hl : l.length ≤ 140737488355328) : Calls Tryz.prog 28 #[.string ⟨l.toArray⟩] w (Ret w (.int .i64 (chk l))) := by
  have hbl : (body l).length ≤ l.length := by unfold body; split <;> simp
  have hcan : canon l = (can (body l) && (!neg l || body l != [48])) := rfl
  have hchk : chk l = if canon l then (if 1024 < (body l).length then 11 else 0) else 3 := rfl
  have hl48 : body l = [48] → (l = [48] ↔ neg l = false) := by
    intro h1
    have := eq_body l
    rw [h1] at this
    constructor
    · rintro rfl; rfl
    · intro h2; rw [h2] at this; simpa using this
  have hl0 : l = [48] → body l = [48] := by rintro rfl; rfl
  have htp := TrimPrefix_c l
  obtain ⟨s, hs⟩ : ∃ s, body l = s := ⟨_, rfl⟩
  rw [hs] at htp hbl hcan hchk hl48 hl0
  have htr := trim_digits s
  have hT := fun W => Trim_c s W (by omega)
  have HS := Lib.hid htp; have HC := Lib.hid hcan; have HK := Lib.hid hchk; have HL := Lib.hid hl48; have HL0 := Lib.hid hl0; have HT := Lib.hid hT; have HTR := Lib.hid htr
  clear htp hcan hchk hl48 hl0 hs hT htr
  cases s with
  | nil =>
    go_enter Tryz.func28, Tryz.ntmps28
    go_wp2_with fail
    refine (HS.out _).mono ?_; rintro e w1 ⟨rfl, rfl⟩
    go_wp2
    go_ret
    refine ⟨ret_int ?_, Below.refl _ _⟩
    rw [HK.out, HC.out]; simp [can]
  | cons c t =>
    obtain ⟨tr, htr⟩ : ∃ tr, Lib.trimS (c :: t) digs = tr := ⟨_, rfl⟩
    rw [htr] at HT HTR
    clear htr
    by_cases hd : tr = []
    · have hall := HTR.out.1 hd
      have HA := Lib.hid hall
      clear hall
      by_cases hc : c = 48
      · subst hc
        by_cases h0 : l = [48]
        · have hb1 := HL0.out h0
          obtain rfl : t = [] := by simpa using hb1
          clear hb1
          subst h0
          subst hd
          go_enter Tryz.func28, Tryz.ntmps28
          go_wp2_with fail
          refine (HS.out _).mono ?_; rintro e w1 ⟨rfl, rfl⟩
          go_wp2_with fail
          refine (HT.out _).mono ?_; rintro e w1 ⟨rfl, hb1⟩
          go_wp2
          go_ret
          exact ⟨ret_int (by decide), hb1⟩
        · have h0' : (l == [48]) = false := by simpa using h0
          subst hd
          go_enter Tryz.func28, Tryz.ntmps28
          go_wp2_with fail
          refine (HS.out _).mono ?_; rintro e w1 ⟨rfl, rfl⟩
          go_wp2_with fail
          refine (HT.out _).mono ?_; rintro e w1 ⟨rfl, hb1⟩
          go_wp2
          go_ret
          refine ⟨ret_int ?_, hb1⟩
          rw [HK.out, HC.out]
          cases t with
          | nil =>
            have : neg l = true := by
              cases h : neg l with
              | true => rfl
              | false => exact absurd ((HL.out rfl).2 h) h0
            rw [this]; simp
          | cons d r => simp [can]
      · have h' : ((c.toNat : Int) == 48) = false := u8_eq_no (d := 48) rfl hc
        have hcs : can (c :: t) = true ∧ (c :: t) ≠ [48] := by
          refine ⟨?_, fun e => hc (by simpa using (List.cons.inj e).1)⟩
          rw [can_iff]
          exact ⟨by simp, HA.out, fun e => absurd (by simpa using e) hc⟩
        have HX := Lib.hid hcs
        clear hcs
        subst hd
        by_cases hlong : 1024 < (c :: t).length
        · have hlong2 : 1024 < t.length + 1 := by simpa using hlong
          go_enter Tryz.func28, Tryz.ntmps28
          go_wp2_with fail
          refine (HS.out _).mono ?_; rintro e w1 ⟨rfl, rfl⟩
          go_wp2_with fail
          refine (HT.out _).mono ?_; rintro e w1 ⟨rfl, hb1⟩
          go_wp2
          go_ret
          refine ⟨ret_int ?_, hb1⟩
          have := HX.out.2
          rw [HK.out, HC.out, HX.out.1, if_pos hlong]; simp [this]
        · have hlong2 : ¬ 1024 < t.length + 1 := by simpa using hlong
          go_enter Tryz.func28, Tryz.ntmps28
          go_wp2_with fail
          refine (HS.out _).mono ?_; rintro e w1 ⟨rfl, rfl⟩
          go_wp2_with fail
          refine (HT.out _).mono ?_; rintro e w1 ⟨rfl, hb1⟩
          go_wp2
          go_ret
          refine ⟨ret_int ?_, hb1⟩
          have := HX.out.2
          rw [HK.out, HC.out, HX.out.1, if_neg hlong]; simp [this]
    · have hno : can (c :: t) = false := by
        cases h : can (c :: t) with
        | false => rfl
        | true => exact absurd (HTR.out.2 ((can_iff _).1 h).2.1) hd
      have HN := Lib.hid hno
      clear hno
      have hd2 : (tr == []) = false := by simpa using hd
      go_enter Tryz.func28, Tryz.ntmps28
      go_wp2_with fail
      refine (HS.out _).mono ?_; rintro e w1 ⟨rfl, rfl⟩
      go_wp2_with fail
      refine (HT.out _).mono ?_; rintro e w1 ⟨rfl, hb1⟩
      go_wp2
      go_ret
      refine ⟨ret_int ?_, hb1⟩
      rw [HK.out, HC.out, HN.out]; simp
end Go.Proofs.Wk
