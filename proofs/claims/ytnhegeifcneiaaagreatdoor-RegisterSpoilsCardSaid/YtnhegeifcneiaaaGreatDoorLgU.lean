/- THE LAW RegisterTears: the walk. -/
import Derived.Test.YtnhegeifcneiaaaGreatDoorMD
import Derived.Test.YtnhegeifcneiaaaGreatDoorLD
import Derived.Test.YtnhegeifcneiaaaGreatDoorKJ
namespace Go.Proofs.Wk
open Go.RowKit Mt

theorem Count_c (s : Txt) (w : World) : Calls Tryz.prog 27 #[.string ⟨s.toArray⟩, .string ⟨#[10]⟩] w (Pur w (.int .i64 (Rg.cnt s : Int))) := by
  refine (Tryz.strings_Count_one ⟨s.toArray⟩ 10 w).mono ?_
  rintro e w' ⟨rfl, rfl⟩
  exact ⟨rfl, rfl⟩
theorem LastIndex_c (s : Txt) (w : World) (hl : s.length ≤ 140737488355328) : Calls Tryz.prog 28 #[.string ⟨s.toArray⟩, .string ⟨#[10]⟩] w (Pur w (.int .i64 ((Rg.lastE s : Int) - 1))) := by
  refine (Tryz.strings_LastIndex_one ⟨s.toArray⟩ ⟨#[10]⟩ rfl (by rw [size_mk]; omega) w).mono ?_
  rintro e w' ⟨rfl, rfl⟩
  refine ⟨?_, rfl⟩
  have := Rg.last_lastE s
  have e2 : Lib.lastIndexByte (⟨s.toArray⟩ : ByteArray) 10 = (Rg.lastE s : Int) - 1 := by omega
  exact ret_int e2
theorem SlX.take {α : Type} [Row α] {w : World} {b off cap : Nat} {ls : List α} {k : Nat} (h : RX w b off ls) (hb : b < w.heap.size) (hk : k ≤ ls.length) : SlX w (.slice (some ⟨b, off, none⟩) k cap) (ls.take k) := by
  refine .inr ⟨b, off, cap, by rw [List.length_take, Nat.min_eq_left hk], fun i hi j hj => ?_, hb⟩
  rw [List.length_take] at hi
  rw [List.getElem_take]
  exact h i (by omega) j hj
theorem allL_le (es : List Rg.En) : (Rg.allL es).1.length ≤ 256 := by
  unfold Rg.allL
  split
  · exact Nat.zero_le _
  · exact ((Rg.chkE_iff _).1 (Rg.allF_ok (es := es) (l := []) (i := 0) (by decide))).1
set_option maxRecDepth 100000 in
set_option maxHeartbeats 4000000 in
theorem tears_out {v : Value} (es : List Rg.En) (n : Int) (w : World) (hg : GoodS w) (S : SlX w v es) (hle : es.length * 32 ≤ 140737488355328) (h : 20 < es.length ∨ (¬ 20 < es.length ∧ fewE es = false)) :
    Calls Tryz.prog 6 #[v, .int .u16 n] w (Ret w (.bool true)) := by
  have HG := Lib.hid (fun W (hb : Below w.heap.size w W) => hg.later hb)
  have HA := Lib.hid (fun W (hW : GoodS W) => awake_c W hW.g)
  have HE := Lib.hid (fun W S => entries_c (v := v) es W S hle)
  have HF := Lib.hid (fun u W (S : SlX W u es) => Few_g es W S (by omega))
  have HS := Lib.hid S
  have hv : ∃ a c, v = .slice a es.length c := by
    rcases S with ⟨a, c, rfl, rfl⟩ | ⟨b, off, c, rfl, -, -⟩
    · exact ⟨a, c, rfl⟩
    · exact ⟨_, c, rfl⟩
  obtain ⟨a, c, rfl⟩ := hv
  generalize fewE es = f at *
  clear S hg
  rcases h with h1 | ⟨h1, rfl⟩
  · have i1 : (20 : Int) < (es.length : Int) := by omega
    clear h1
    go_enter Tryz.func6, Tryz.ntmps6
    go_wp2_with fail
    ((with_reducible refine (HA.out _ (HG.out _ (Below.refl _ _))).mono ?_); rintro e w1 ⟨rfl, hb1⟩)
    go_wp2
    go_ret
    exact ⟨rfl, hb1⟩
  · have i1 : ¬ (20 : Int) < (es.length : Int) := by omega
    clear h1
    go_enter Tryz.func6, Tryz.ntmps6
    go_wp2_with fail
    ((with_reducible refine (HE.out _ HS.out).mono ?_); rintro e w1 ⟨v1, rfl, s1, b1⟩)
    have B1 := Lib.hid b1
    go_wp2_with fail
    ((with_reducible refine (HF.out _ _ s1).mono ?_); rintro e w2 ⟨rfl, rfl⟩)
    clear b1 s1
    go_wp2_with fail
    ((with_reducible refine (HA.out _ (HG.out _ B1.out)).mono ?_); rintro e w3 ⟨rfl, b3⟩)
    have B3 := Lib.hid (B1.out.trans (b3.mono B1.out.size))
    clear b3
    go_wp2
    go_ret
    exact ⟨rfl, B3.out⟩
set_option maxRecDepth 100000 in
set_option maxHeartbeats 4000000 in
theorem tears_err {v : Value} (es : List Rg.En) (n : Int) (w : World) (hg : GoodS w) (S : SlX w v es) (hle : es.length * 32 ≤ 140737488355328) (hne : ∀ x ∈ es, x.lot.length ≤ 140737488355328) (h20 : es.length ≤ 20) (hf : fewE es = true) (hj : (Rg.journL es).2 ≠ 0) :
    Calls Tryz.prog 6 #[v, .int .u16 n] w (Ret w (.bool true)) := by
  have HG := Lib.hid (fun W (hb : Below w.heap.size w W) => hg.later hb)
  have HA := Lib.hid (fun W (hW : GoodS W) => awake_c W hW.g)
  have HE := Lib.hid (fun W S => entries_c (v := v) es W S hle)
  have HF := Lib.hid (fun u W (S : SlX W u es) => by have := Few_g es W S (by omega); rwa [hf] at this)
  have HJ := Lib.hid (fun W (hW : GoodS W) S => Journal_c (v := v) es W hW.g S (by omega) hne (.inl h20))
  have HS := Lib.hid S
  have hv : ∃ a c, v = .slice a es.length c := by
    rcases S with ⟨a, c, rfl, rfl⟩ | ⟨b, off, c, rfl, -, -⟩
    · exact ⟨a, c, rfl⟩
    · exact ⟨_, c, rfl⟩
  obtain ⟨a, c, rfl⟩ := hv
  generalize Rg.journL es = T at *
  obtain ⟨t, tc⟩ := T
  have y1 : (tc != 0) = true := bne_iff_ne.2 hj
  have i1 : ¬ (20 : Int) < (es.length : Int) := by omega
  clear S hg hf hj h20
  go_enter Tryz.func6, Tryz.ntmps6
  go_wp2_with fail
  ((with_reducible refine (HE.out _ HS.out).mono ?_); rintro e w1 ⟨v1, rfl, s1, b1⟩)
  have B1 := Lib.hid b1
  have S1 := Lib.hid (HS.out.later b1)
  go_wp2_with fail
  ((with_reducible refine (HF.out _ _ s1).mono ?_); rintro e w2 ⟨rfl, rfl⟩)
  clear b1 s1
  go_wp2_with fail
  ((with_reducible refine (HJ.out _ (HG.out _ B1.out) S1.out).mono ?_); rintro e w3 ⟨rfl, b3⟩)
  have B3 := Lib.hid (B1.out.trans (b3.mono B1.out.size))
  clear b3
  go_wp2_with fail
  ((with_reducible refine (HA.out _ (HG.out _ B3.out)).mono ?_); rintro e w4 ⟨rfl, b4⟩)
  have B4 := Lib.hid (B3.out.trans (b4.mono B3.out.size))
  clear b4
  go_wp2
  go_ret
  exact ⟨rfl, B4.out⟩
/-- A slice's length is at most its capacity. -/
theorem cap_le {P : Program} {t e : TypeId} {W : World} {r : Reach} {base : Nat} {v : Value} (ht : P.underlying t = some (.slice e)) (h : Value.okWide P W r base t v) : ∃ a len cap, v = .slice a len cap ∧ len ≤ cap := by
  obtain ⟨a, len, cap, rfl⟩ := Go.WideShapes.okWide_slice ht h
  refine ⟨a, len, cap, rfl, ?_⟩
  unfold Value.okWide at h
  rw [ht] at h
  unfold Cell.okWide at h
  rw [ht] at h
  unfold Cell.ok at h
  rw [ht] at h
  cases a with
  | some a => exact h.1
  | none =>
    cases len with
    | zero => exact Nat.zero_le _
    | succ n => exact absurd h (by simp)
theorem SlX.part {α : Type} [Row α] {w : World} {a : Option Addr} {n c : Nat} {ls : List α} {k : Nat} (h : SlX w (.slice a n c) ls) (hk : k ≤ ls.length) : SlX w (.slice a k c) (ls.take k) := by
  rcases h with ⟨a', c', e, rfl⟩ | ⟨b, off, cap, e, hR, hl⟩
  · simp only [List.length_nil, Nat.le_zero] at hk
    subst hk
    exact .inl ⟨a, c, rfl, rfl⟩
  · cases e
    exact SlX.take hR hl hk
end Go.Proofs.Wk
