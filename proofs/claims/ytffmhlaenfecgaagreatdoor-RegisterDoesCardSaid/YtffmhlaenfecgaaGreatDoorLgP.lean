/- REGISTERS OF LOTS: what Do gives, for the laws. Plain. -/
import Derived.Test.YtffmhlaenfecgaaGreatDoorKA
namespace Go.Proofs.Wk
open Rg

theorem doL_len (ls : List Rg.Lt) (x : Rg.En) : (Rg.doL ls x).1.length ≤ 256 := by
  unfold Rg.doL
  by_cases h1 : Rg.chkE ls = 0
  · rw [if_neg (Decidable.not_not.2 h1)]
    by_cases h2 : Rg.rightE x = 0
    · rw [if_neg (Decidable.not_not.2 h2)]
      by_cases h3 : (Rg.doneL ls x).2 = 0
      · exact ((Rg.chkE_iff _).1 (Rg.done_ok h1 h2 h3).1).1
      · have : (Rg.doneL ls x).1 = [] := by
          unfold Rg.doneL at h3 ⊢
          split
          · split
            · rfl
            · split
              · rfl
              · rename_i a b c; rw [if_pos a, if_neg b, if_neg c] at h3; exact absurd rfl h3
          · rename_i a
            rw [if_neg a] at h3
            split
            · rename_i y e
              rw [e] at h3
              simp only at h3
              split
              · rename_i hh
                rw [if_pos hh] at h3
                split
                · rfl
                · rename_i q; rw [if_neg q] at h3; exact absurd rfl h3
              · rfl
            · rfl
        rw [this]; exact Nat.zero_le _
    · rw [if_pos h2]; exact Nat.zero_le _
  · rw [if_pos h1]; exact Nat.zero_le _
theorem doL_ok {l : List Rg.Lt} {x : Rg.En} (h : (Rg.doL l x).2 = 0) : Rg.chkE l = 0 ∧ Rg.rightE x = 0 ∧ Rg.doL l x = Rg.doneL l x ∧ (Rg.doneL l x).2 = 0 := by
  unfold Rg.doL at h ⊢
  by_cases h1 : Rg.chkE l = 0
  · by_cases h2 : Rg.rightE x = 0
    · rw [if_neg (Decidable.not_not.2 h1), if_neg (Decidable.not_not.2 h2)] at h ⊢
      exact ⟨h1, h2, rfl, h⟩
    · rw [if_neg (Decidable.not_not.2 h1), if_pos h2] at h
      exact absurd h h2
  · rw [if_pos h1] at h
    exact absurd h h1
theorem doL_of {l : List Rg.Lt} {x : Rg.En} (h1 : Rg.chkE l = 0) (h2 : Rg.rightE x = 0) : Rg.doL l x = Rg.doneL l x := by
  unfold Rg.doL
  rw [if_neg (Decidable.not_not.2 h1), if_neg (Decidable.not_not.2 h2)]
theorem doL_chk {l : List Rg.Lt} {x : Rg.En} (h : (Rg.doL l x).2 = 0) : Rg.chkE (Rg.doL l x).1 = 0 := by
  obtain ⟨a, b, c, d⟩ := doL_ok h
  rw [c]
  exact (Rg.done_ok a b d).1
theorem doL_nm {l : List Rg.Lt} {x : Rg.En} (h : (Rg.doL l x).2 = 0) : ∀ y ∈ (Rg.doL l x).1, y.nm.length ≤ 140737488355328 := fun y hy =>
  Nat.le_trans (Rg.name_len (((Rg.chkE_iff _).1 (doL_chk h)).2.1 y hy).1) (by decide)
theorem swapL {l : List Rg.Lt} {x y : Rg.En} (hne : x.lot ≠ y.lot) (h20 : l.length ≤ 20) (h : (Rg.doL l x).2 = 0) :
    (Rg.doL (Rg.doL l x).1 y).2 = (Rg.doL l y).2 ∧ ((Rg.doL l y).2 = 0 → (Rg.doL (Rg.doL l y).1 x).2 = 0 ∧ (Rg.doL (Rg.doL l x).1 y).1 = (Rg.doL (Rg.doL l y).1 x).1) := by
  obtain ⟨a, b, c, d⟩ := doL_ok h
  rw [c]
  have a' := (Rg.done_ok a b d).1
  by_cases hy : Rg.rightE y = 0
  · have e := Rg.swap_ok a b hy hne h20 d
    rw [doL_of a' hy, doL_of a hy]
    refine ⟨e.1, fun q => ?_⟩
    have := e.2 q
    rw [doL_of (Rg.done_ok a hy q).1 b]
    exact this
  · have e1 : Rg.doL (Rg.doneL l x).1 y = ([], Rg.rightE y) := by unfold Rg.doL; rw [if_neg (Decidable.not_not.2 a'), if_pos hy]
    have e2 : Rg.doL l y = ([], Rg.rightE y) := by unfold Rg.doL; rw [if_neg (Decidable.not_not.2 a), if_pos hy]
    rw [e1, e2]
    exact ⟨rfl, fun q => absurd q hy⟩
theorem doneL_bad {l : List Rg.Lt} {x : Rg.En} (h : (Rg.doneL l x).2 ≠ 0) : (Rg.doneL l x).1 = [] := by
  unfold Rg.doneL at h ⊢
  by_cases k : x.k = 0
  · rw [if_pos k] at h ⊢
    by_cases a : Rg.has l x.lot = true
    · rw [if_pos a]
    · rw [if_neg a] at h ⊢
      by_cases b : l.length = 256
      · rw [if_pos b]
      · rw [if_neg b] at h; exact absurd rfl h
  · rw [if_neg k] at h ⊢
    cases e : l[Rg.pos l x.lot]? with
    | none => rfl
    | some y =>
      rw [e] at h
      simp only at h ⊢
      by_cases a : Rg.has l x.lot = true
      · rw [if_pos a] at h ⊢
        by_cases b : (Rg.changed y x).2 ≠ 0
        · rw [if_pos b]
        · rw [if_neg b] at h; exact absurd rfl h
      · rw [if_neg a]
theorem doL_bad {l : List Rg.Lt} {x : Rg.En} (h : (Rg.doL l x).2 ≠ 0) : (Rg.doL l x).1 = [] := by
  unfold Rg.doL at h ⊢
  by_cases h1 : Rg.chkE l = 0
  · rw [if_neg (Decidable.not_not.2 h1)] at h ⊢
    by_cases h2 : Rg.rightE x = 0
    · rw [if_neg (Decidable.not_not.2 h2)] at h ⊢
      exact doneL_bad h
    · rw [if_pos h2]
  · rw [if_pos h1]
theorem keep_len {l : List Rg.Lt} {x : Rg.En} (h : (Rg.doL l x).2 = 0) : l.length ≤ (Rg.doL l x).1.length ∧ (Rg.doL l x).1.length ≤ l.length + 1 := by
  obtain ⟨a, b, c, d⟩ := doL_ok h
  rw [c, (Rg.done_ok a b d).2.2.1]
  split <;> omega
/-- What the law asks of one lot behind an entry. -/
def KeepB (b : Rg.Lt) (x : Rg.En) (a : Rg.Lt) : Prop := (a.nm ≠ x.lot → a = b) ∧ a.sz = b.sz ∧ b.st ≤ a.st ∧ b.gd ≤ a.gd ∧ b.cn ≤ a.cn ∧ b.sc ≤ a.sc ∧
    a.gd + a.bd + a.cn + a.sc = b.gd + b.bd + b.cn + b.sc + (if a.nm = x.lot ∧ (x.k = 1 ∨ x.k = 2) then x.n else 0)
theorem keepL {l : List Rg.Lt} {x : Rg.En} (h : (Rg.doL l x).2 = 0) {a : Rg.Lt} (ha : a ∈ (Rg.doL l x).1) :
    (Rg.look l a.nm = none → x.k = 0 ∧ a = Rg.newLot x) ∧ ∀ b, Rg.look l a.nm = some b → KeepB b x a := by
  obtain ⟨p, q, r, s⟩ := doL_ok h
  rw [r] at ha
  exact ⟨fun e => Rg.keep_none p q s ha e, fun b e => Rg.keep_some p q s ha e⟩
/-- The numbers of a lot that is right. -/
theorem lot_nums {l : List Rg.Lt} (h : Rg.chkE l = 0) {a : Rg.Lt} (ha : a ∈ l) : (1 ≤ a.sz ∧ a.sz ≤ 1048576) ∧ (0 ≤ a.gd ∧ a.gd ≤ 1048576) ∧ (0 ≤ a.bd ∧ a.bd ≤ 1048576) ∧ (0 ≤ a.cn ∧ a.cn ≤ 1048576) ∧ (0 ≤ a.sc ∧ a.sc ≤ 1048576) ∧ (0 ≤ a.st ∧ a.st ≤ 2) := by
  have := (Rg.lotE_iff a).1 (((Rg.chkE_iff l).1 h).2.1 a ha).2
  omega
theorem look_at {ls : List Rg.Lt} {nm : Txt} {i : Nat} (hi : i < ls.length) (h : ∀ j, (q : j < i) → (ls[j]'(by omega)).nm ≠ nm) (e : ls[i].nm = nm) : Rg.look ls nm = some ls[i] := by
  unfold Rg.look
  rw [List.find?_eq_some_iff_getElem]
  exact ⟨by simp [e], i, hi, rfl, fun j q => by simpa using h j q⟩
theorem look_no {ls : List Rg.Lt} {nm : Txt} (h : ∀ j, (q : j < ls.length) → ls[j].nm ≠ nm) : Rg.look ls nm = none := by
  unfold Rg.look
  rw [List.find?_eq_none]
  intro a ha
  obtain ⟨j, hj, rfl⟩ := List.getElem_of_mem ha
  simpa using h j hj
end Go.Proofs.Wk
