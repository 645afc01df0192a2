/- REGISTERS OF LOTS: journals that were torn or changed: plain laws. -/
import Derived.Test.YtmbbppiikpfkcaaGreatDoorLA
import Derived.Lib.LastIndexByte
namespace Rg
open Go Go.Op Go.Lib

theorem itoa_10 (n : Int) : (10 : UInt8) ∉ itoa n := by
  intro h
  unfold itoa at h
  split at h
  · rcases List.mem_cons.1 h with h | h
    · revert h; decide
    · have := dec_digits _ _ h; revert this; decide
  · have := dec_digits _ _ h; revert this; decide
theorem word_10 (k : Int) : (10 : UInt8) ∉ wordK k := by
  unfold wordK
  match k.toNat with
  | 0 => decide
  | 1 => decide
  | 2 => decide
  | 3 => decide
  | 4 => decide
  | 5 => decide
  | 6 => decide
  | n + 7 => simp [words]
theorem name_10 {s : Txt} (h : nameE s = 0) : (10 : UInt8) ∉ s := by
  unfold nameE at h
  split at h
  · cases h
  · split at h
    · rename_i q
      intro hm
      have := List.all_eq_true.1 q.2 _ hm
      revert this; decide
    · cases h
theorem writ_10 {x : En} (h : rightE x = 0) : (10 : UInt8) ∉ writ x := by
  have h1 := name_10 ((rightE_iff x).1 h).2.1
  have h2 := word_10 x.k
  have h3 := itoa_10 x.n
  unfold writ
  split
  · simp [h1, h2]
  · simp [h1, h2, h3]
/-- A line without its end. -/
def bareF (h : Int) (x : En) : Txt := itoa (sumL h (writ x)) ++ 32 :: writ x
theorem lineF_eq (h : Int) (x : En) : lineF h x = bareF h x ++ [10] := by unfold lineF bareF; simp
theorem bare_10 {x : En} (hx : rightE x = 0) (h : Int) : (10 : UInt8) ∉ bareF h x := by
  have h1 := writ_10 hx
  have h2 := itoa_10 (sumL h (writ x))
  unfold bareF
  simp [h1, h2]
theorem cut_line {x : En} (hx : rightE x = 0) (h : Int) (t : Txt) : cutB 10 (lineF h x ++ t) = (bareF h x, t, true) := by
  rw [lineF_eq, List.append_assoc, List.singleton_append]
  exact cutB_at t (bare_10 hx h)
theorem cut_bare (h : Int) (x : En) : cutB 32 (bareF h x) = (itoa (sumL h (writ x)), writ x, true) := cutB_at _ (itoa_32 _)
/-- A right line is read. -/
theorem read_line {r : Rd} {x : En} {t : Txt} (hr : r.rest = lineF r.h x ++ t) (hx : rightE x = 0) (hn : r.n ≠ 4096) (hd : (doneL r.lots x).2 = 0) :
    lnE r = 0 ∧ lnR r = ⟨(doneL r.lots x).1, r.n + 1, sumL r.h (writ x), t⟩ := by
  have e0 := cut_line hx r.h t
  rw [← hr] at e0
  have e1 := cut_bare r.h x
  have eT : lnT r = writ x := by unfold lnT; rw [e0, e1]
  have eR : rdL (writ x) = (x, 0) := read_back reads_numR hx
  constructor
  · unfold lnE
    rw [eT, e0, e1, eR, if_neg hn, if_neg (by simp), if_neg (by simp), if_neg (by simp)]
    exact hd
  · unfold lnR
    rw [eT, e0, eR]
/-- The checksum behind the lines of entries. -/
def sumE : Int → List En → Int
  | h, [] => h
  | h, x :: xs => sumE (sumL h (writ x)) xs
theorem linesF_app : ∀ (h : Int) (a b : List En), linesF h (a ++ b) = linesF h a ++ linesF (sumE h a) b
  | _, [], _ => rfl
  | h, x :: xs, b => by rw [List.cons_append, linesF, linesF, linesF_app, List.append_assoc, sumE]
theorem run_lines : ∀ (es : List En) (r : Rd) (i : Nat) (t : Txt), r.rest = linesF r.h es ++ t → (allF r.lots i es).2.2 = 0 → r.n + es.length ≤ 4096 →
    runS r = runS ⟨(allF r.lots i es).1, r.n + es.length, sumE r.h es, t⟩
  | [], r, i, t, hr, _, _ => by
    rw [linesF, List.nil_append] at hr
    subst hr; rfl
  | x :: xs, r, i, t, hr, ha, hn => by
    have hx := allF_right ha x (by simp)
    have hd : (doneL r.lots x).2 = 0 := by
      unfold allF at ha
      rw [if_neg (Decidable.not_not.2 hx)] at ha
      by_cases q : (doneL r.lots x).2 = 0
      · exact q
      · rw [if_pos q] at ha; exact ha
    have ha' : allF r.lots i (x :: xs) = allF (doneL r.lots x).1 (i + 1) xs := by
      conv => lhs; unfold allF
      rw [if_neg (Decidable.not_not.2 hx), if_neg (Decidable.not_not.2 hd)]
    rw [linesF, List.append_assoc] at hr
    simp only [List.length_cons] at hn
    obtain ⟨e1, e2⟩ := read_line hr hx (by omega) hd
    have hne : r.rest ≠ [] := by rw [hr, lineF_eq]; simp
    rw [ha'] at ha ⊢
    rw [runS_ok hne e1, e2, run_lines xs ⟨(doneL r.lots x).1, r.n + 1, sumL r.h (writ x), linesF (sumL r.h (writ x)) xs ++ t⟩ (i + 1) t rfl ha (by simp only; omega)]
    simp only [List.length_cons, sumE]
    congr 2; omega
theorem allF_take : ∀ (es : List En) (out : List Lt) (i k : Nat), (allF out i es).2.2 = 0 → (allF out i (es.take k)).2.2 = 0
  | [], _, _, _, h => by rw [List.take_nil]; exact h
  | _ :: _, _, _, 0, _ => rfl
  | x :: xs, out, i, k + 1, h => by
    rw [List.take_succ_cons]
    unfold allF at h ⊢
    split at h
    · rename_i q; exact absurd h q
    · rename_i q1
      rw [if_neg q1]
      split at h
      · rename_i q; exact absurd h q
      · rename_i q2
        rw [if_neg q2]
        exact allF_take xs _ _ k h
/-- How many line feeds a text has. -/
def cnt (s : Txt) : Nat := s.count 10
theorem cnt_lines : ∀ (es : List En) (h : Int), (∀ x ∈ es, rightE x = 0) → cnt (linesF h es) = es.length
  | [], _, _ => rfl
  | x :: xs, h, hr => by
    have h1 := bare_10 (hr x (by simp)) h
    have h2 := cnt_lines xs (sumL h (writ x)) fun y hy => hr y (List.mem_cons_of_mem _ hy)
    unfold cnt at *
    rw [linesF, lineF_eq, List.count_append, List.count_append, h2, List.count_eq_zero.2 h1]
    simp; omega
/-- What is left of lines that were torn: some whole lines and a part of one without a line feed. -/
theorem torn : ∀ (es : List En) (h : Int) (m : Nat), (∀ x ∈ es, rightE x = 0) → m ≤ (linesF h es).length →
    ∃ k p, k ≤ es.length ∧ (linesF h es).take m = linesF h (es.take k) ++ p ∧ (10 : UInt8) ∉ p ∧ (k < es.length ∨ p = [])
  | [], h, m, _, hm => ⟨0, [], Nat.le_refl _, by simp [linesF], by simp, .inr rfl⟩
  | x :: xs, h, m, hr, hm => by
    have h1 := bare_10 (hr x (by simp)) h
    by_cases hl : m < (lineF h x).length
    · refine ⟨0, (lineF h x).take m, Nat.zero_le _, ?_, ?_, .inl (by simp)⟩
      · rw [linesF, List.take_zero, linesF, List.nil_append, List.take_append_of_le_length (by omega)]
      · rw [lineF_eq] at hl ⊢
        rw [List.length_append, List.length_singleton] at hl
        rw [List.take_append_of_le_length (by omega)]
        exact fun q => h1 (List.mem_of_mem_take q)
    · rw [linesF, List.length_append] at hm
      obtain ⟨k, p, a, b, c, d⟩ := torn xs (sumL h (writ x)) (m - (lineF h x).length) (fun y hy => hr y (List.mem_cons_of_mem _ hy)) (by omega)
      refine ⟨k + 1, p, by simp only [List.length_cons]; omega, ?_, c, ?_⟩
      · rw [List.take_succ_cons, linesF, linesF, List.append_assoc, ← b, List.take_append, List.take_of_length_le (by omega)]
      · rcases d with d | d
        · exact .inl (by simp only [List.length_cons]; omega)
        · exact .inr d
/-- What stands up to the last line feed, and how many of them: one behind the last one's index. -/
def lastE (s : Txt) : Nat := s.length - (s.reverse.takeWhile (· != 10)).length
theorem lastE_part {a p : Txt} (ha : a = [] ∨ a.getLast? = some 10) (hp : (10 : UInt8) ∉ p) : lastE (a ++ p) = a.length := by
  have h1 : ∀ b ∈ p.reverse, (b != (10 : UInt8)) = true := fun b hb => by
    have : b ≠ 10 := fun e => hp (by rw [← e]; exact List.mem_reverse.1 hb)
    simpa using this
  unfold lastE
  rw [List.reverse_append, List.takeWhile_append_of_pos h1]
  have h2 : a.reverse.takeWhile (· != (10 : UInt8)) = [] := by
    rcases ha with rfl | ha
    · rfl
    · rw [← List.head?_reverse] at ha
      cases q : a.reverse with
      | nil => rw [q] at ha; cases ha
      | cons y ys => rw [q] at ha; cases ha; rfl
  rw [h2]; simp
theorem lines_last : ∀ (es : List En) (h : Int), linesF h es = [] ∨ (linesF h es).getLast? = some 10
  | [], _ => .inl rfl
  | x :: xs, h => by
    right
    rw [linesF, lineF_eq]
    rcases lines_last xs (sumL h (writ x)) with e | e
    · rw [e]; simp
    · rw [List.getLast?_append, e]; rfl
/-- THE READING OF A JOURNAL, WHOLE OR TORN. -/
theorem run_torn {es : List En} (ha : (allL es).2.2 = 0) (hn : es.length ≤ 4096) {k : Nat} (hk : k ≤ es.length) {p : Txt} (hp : (10 : UInt8) ∉ p) (hd : k < 4096 ∨ p = []) :
    ∃ l h, runS (rd0 (linesF 1 (es.take k) ++ p)) = (⟨l, k, h, p⟩, if p = [] then 0 else 18) ∧ l = (allL (es.take k)).1 := by
  have e1 : allL es = allF [] 0 es := by unfold allL; rw [if_neg (by omega)]
  have e2 : allL (es.take k) = allF [] 0 (es.take k) := by unfold allL; rw [if_neg (by rw [List.length_take]; omega)]
  rw [e1] at ha
  have h3 := allF_take es [] 0 k ha
  have hl : (es.take k).length = k := by rw [List.length_take]; omega
  have e3 : runS (rd0 (linesF 1 (es.take k) ++ p)) = runS ⟨(allF [] 0 (es.take k)).1, k, sumE 1 (es.take k), p⟩ := by
    have := run_lines (es.take k) (rd0 (linesF 1 (es.take k) ++ p)) 0 p rfl h3 (by rw [hl]; simp only [rd0]; omega)
    rw [this, hl]
    simp only [rd0, Nat.zero_add]
  rw [e2, e3]
  refine ⟨_, sumE 1 (es.take k), ?_, rfl⟩
  by_cases q : p = []
  · subst q
    rw [runS_end rfl, if_pos rfl]
  · rw [if_neg q]
    have hk4 : k ≠ 4096 := by
      rcases hd with hd | hd
      · omega
      · exact absurd hd q
    have hb : lnE ⟨(allF [] 0 (es.take k)).1, k, sumE 1 (es.take k), p⟩ = 18 := by
      unfold lnE
      rw [if_neg hk4, cutB_no hp, if_pos rfl]
    rw [runS_bad q (by rw [hb]; decide), hb]
end Rg
/- REGISTERS OF LOTS: what is loaded and repaired of journals that were torn or changed: plain laws. -/
namespace Rg
open Go Go.Op Go.Lib

theorem itoa_dig {n : Int} (h : 0 ≤ n) : ∀ c ∈ itoa n, 48 ≤ c.toNat ∧ c.toNat ≤ 57 := by
  unfold itoa; rw [if_neg (by omega)]; exact dec_digits _
theorem itoa_num {n : Int} (h : 0 ≤ n) : numF 0 (itoa n) = n := by
  unfold itoa; rw [if_neg (by omega), numF_dec]; omega
theorem writ_head {x : En} (h : rightE x = 0) : ∃ z zs, writ x = z :: zs ∧ 97 ≤ z.toNat := by
  have hk := ((rightE_iff x).1 h).1
  have : ∃ z zs, wordK x.k = z :: zs ∧ 97 ≤ z.toNat := by
    unfold wordK
    have : x.k.toNat = 0 ∨ x.k.toNat = 1 ∨ x.k.toNat = 2 ∨ x.k.toNat = 3 ∨ x.k.toNat = 4 ∨ x.k.toNat = 5 ∨ x.k.toNat = 6 := by omega
    rcases this with e | e | e | e | e | e | e <;> rw [e] <;> exact ⟨_, _, rfl, by decide⟩
  obtain ⟨z, zs, e, hz⟩ := this
  unfold writ
  split <;> rw [e] <;> exact ⟨z, _, rfl, hz⟩
/-- Two texts that differ at one place. -/
theorem differ {u v : Txt} {b c : UInt8} {i : Nat} (h : i ≠ u.length) : (u ++ b :: v)[i]? = (u ++ c :: v)[i]? := by
  rcases Nat.lt_or_ge i u.length with q | q
  · rw [List.getElem?_append_left q, List.getElem?_append_left q]
  · rw [List.getElem?_append_right q, List.getElem?_append_right q]
    obtain ⟨j, hj⟩ : ∃ j, i - u.length = j + 1 := ⟨i - u.length - 1, by omega⟩
    rw [hj, List.getElem?_cons_succ, List.getElem?_cons_succ]
theorem at_mid (a : Txt) (c : UInt8) (t : Txt) : (a ++ c :: t)[a.length]? = some c := by
  rw [List.getElem?_append_right (Nat.le_refl _), Nat.sub_self]; rfl
/-- A line with a byte that was changed is not read. -/
theorem spoil_line {h : Int} {x : En} {u v : Txt} {c b : UInt8} (hx : rightE x = 0) (hb : bareF h x = u ++ c :: v) (hne : b ≠ c) (h10 : b ≠ 10) (l : List Lt) (n : Nat) (rest : Txt) :
    lnE ⟨l, n, h, (u ++ b :: v) ++ 10 :: rest⟩ ≠ 0 := by
  intro h0
  have hbare := bare_10 hx h
  rw [hb] at hbare
  simp only [List.mem_append, List.mem_cons, not_or] at hbare
  have hL : (10 : UInt8) ∉ u ++ b :: v := by simp [hbare.1, hbare.2.2, Ne.symm h10]
  obtain ⟨-, -, h3, h4, h5, -⟩ := lnE_ok h0
  have e0 := cutB_at rest hL
  have eT : lnT ⟨l, n, h, (u ++ b :: v) ++ 10 :: rest⟩ = (cutB 32 (u ++ b :: v)).2.1 := by unfold lnT; rw [e0]
  rw [eT] at h4 h5
  simp only [e0] at h3 h4
  rcases cutB_cases 32 (u ++ b :: v) with ⟨-, q⟩ | ⟨a, t, ha, hat, q⟩
  · rw [q] at h3; cases h3
  rw [q] at h4 h5
  simp only at h4 h5
  clear h3 eT e0 h0 q hL hbare h10
  have hw := (read_ok h5).2
  have hr := (read_ok h5).1
  obtain ⟨z, zs, hz, hz9⟩ := writ_head hr
  obtain ⟨y, ys, hy, hy9⟩ := writ_head hx
  rw [hw] at hz
  clear h5 hw hr
  have hsT := sumL_in h t
  have hsW := sumL_in h (writ x)
  have hNd := itoa_dig hsW.1
  have hAd := itoa_dig hsT.1
  rw [← h4] at hAd
  have hbare : itoa (sumL h (writ x)) ++ 32 :: writ x = u ++ c :: v := hb
  obtain ⟨N, hN⟩ : ∃ N, itoa (sumL h (writ x)) = N := ⟨_, rfl⟩
  rw [hN] at hbare hNd
  have dif : ∀ i, i ≠ u.length → (a ++ 32 :: t)[i]? = (N ++ 32 :: writ x)[i]? := fun i hi => by
    rw [hbare, ← hat]; exact differ hi
  have mem : ∀ {s : Txt} {i : Nat} {d : UInt8}, s[i]? = some d → d ∈ s := fun q => List.mem_of_getElem? q
  rcases Nat.lt_trichotomy a.length N.length with hl | hl | hl
  · -- a space within the number
    have hu : u.length = a.length := by
      by_cases q : a.length = u.length
      · exact q.symm
      · have e := dif _ q
        rw [at_mid, List.getElem?_append_left hl] at e
        exact absurd (hNd _ (mem e.symm)) (by decide)
    have hua : u = a := by
      have := congrArg (List.take u.length) hat
      rwa [List.take_left, hu, List.take_left] at this
    subst hua
    have htv : t = v := by
      have := congrArg (List.drop (u.length + 1)) hat
      rw [show u ++ b :: v = (u ++ [b]) ++ v by simp, show u ++ 32 :: t = (u ++ [32]) ++ t by simp, show u.length + 1 = (u ++ [b]).length by simp, List.drop_left, show (u ++ [b]).length = (u ++ [32]).length by simp, List.drop_left] at this
      exact this.symm
    have e : (u ++ c :: v)[u.length + 1]? = some z := by
      rw [List.getElem?_append_right (by omega), show u.length + 1 - u.length = 1 by omega, ← htv, hz]; rfl
    rw [← hbare] at e
    rcases Nat.lt_or_ge (u.length + 1) N.length with q | q
    · rw [List.getElem?_append_left q] at e
      have := hNd _ (mem e); omega
    · rw [show u.length + 1 = N.length by omega, at_mid] at e
      cases e
      revert hz9; decide
  · by_cases hu : u.length = N.length
    · have h1 : b = 32 := by
        have := congrArg (fun s : Txt => s[u.length]?) hat
        simp only [at_mid] at this
        rw [hu, ← hl, at_mid] at this
        exact Option.some.inj this
      have h2 : c = 32 := by
        have := congrArg (fun s : Txt => s[u.length]?) hbare
        simp only [at_mid] at this
        rw [hu, at_mid] at this
        exact (Option.some.inj this).symm
      exact hne (by rw [h1, h2])
    · have tk : ∀ {s s' : Txt}, s.length = s'.length → (∀ i, i < s.length → s[i]? = s'[i]?) → s = s' := fun hl hh => by
        apply List.ext_getElem? ; intro i
        rcases Nat.lt_or_ge i _ with q | q
        · exact hh i q
        · rw [List.getElem?_eq_none q, List.getElem?_eq_none (by omega)]
      have hlen : t.length = (writ x).length := by
        have h1 := congrArg List.length hat
        have h2 := congrArg List.length hbare
        simp only [List.length_append, List.length_cons] at h1 h2
        omega
      rcases Nat.lt_or_ge u.length N.length with q | q
      · -- a digit
        have htW : t = writ x := tk hlen fun i hi => by
          have := dif (a.length + 1 + i) (by omega)
          rw [List.getElem?_append_right (by omega), List.getElem?_append_right (by omega), show a.length + 1 + i - a.length = i + 1 by omega, show a.length + 1 + i - N.length = i + 1 by omega, List.getElem?_cons_succ, List.getElem?_cons_succ] at this
          exact this
        rw [htW, hN] at h4
        rw [htW, h4, hbare] at hat
        have := congrArg (fun s : Txt => s[u.length]?) hat
        simp only [at_mid] at this
        exact hne (Option.some.inj this)
      · -- a byte of the text
        have haN : a = N := tk hl fun i hi => by
          have := dif i (by omega)
          rwa [List.getElem?_append_left hi, List.getElem?_append_left (by omega)] at this
        have hs : sumL h t = sumL h (writ x) := by
          have e := itoa_num hsT.1
          rw [← h4, haN, ← hN, itoa_num hsW.1] at e
          exact e.symm
        have key : ∃ u', t = u' ++ b :: v ∧ writ x = u' ++ c :: v := by
          refine ⟨u.drop (N.length + 1), ?_, ?_⟩
          · have := congrArg (List.drop (N.length + 1)) hat
            rw [List.drop_append_of_le_length (by omega), haN, show N ++ 32 :: t = (N ++ [32]) ++ t by simp, show N.length + 1 = (N ++ [32]).length by simp, List.drop_left] at this
            rw [← this]; simp
          · have := congrArg (List.drop (N.length + 1)) hbare
            rw [List.drop_append_of_le_length (l₁ := u) (by omega), show N ++ 32 :: writ x = (N ++ [32]) ++ writ x by simp, show N.length + 1 = (N ++ [32]).length by simp, List.drop_left] at this
            rw [this]; simp
        obtain ⟨u', k1, k2⟩ := key
        rw [k1, k2] at hs
        exact hne (sumL_byte hs)
  · -- no space behind the number
    have hu : u.length = N.length := by
      by_cases q : N.length = u.length
      · exact q.symm
      · have e := dif _ q
        rw [at_mid, List.getElem?_append_left hl] at e
        exact absurd (hAd _ (mem e)) (by decide)
    have e := dif (N.length + 1) (by omega)
    rw [List.getElem?_append_right (l₁ := N) (by omega), show N.length + 1 - N.length = 1 by omega, hy] at e
    simp only [List.getElem?_cons_succ, List.getElem?_cons_zero] at e
    rcases Nat.lt_or_ge (N.length + 1) a.length with q | q
    · rw [List.getElem?_append_left q] at e
      have := hAd _ (mem e); omega
    · rw [show N.length + 1 = a.length by omega, at_mid] at e
      cases e
      revert hy9; decide
/-- Where a byte of a journal stands. -/
theorem split_at : ∀ (es : List En) (h : Int) (i : Nat) (hi : i < (linesF h es).length), (∀ x ∈ es, rightE x = 0) → (linesF h es)[i] ≠ 10 →
    ∃ j x u v t, j < es.length ∧ linesF h es = linesF h (es.take j) ++ ((u ++ (linesF h es)[i] :: v) ++ 10 :: t) ∧ bareF (sumE h (es.take j)) x = u ++ (linesF h es)[i] :: v ∧ rightE x = 0 ∧ (linesF h (es.take j)).length + u.length = i
  | [], _, i, hi, _, _ => by simp [linesF] at hi
  | x :: xs, h, i, hi, hr, hc => by
    have hx := hr x (by simp)
    by_cases hl : i < (lineF h x).length
    · have hg : (linesF h (x :: xs))[i] = (lineF h x)[i] := by simp only [linesF]; exact List.getElem_append_left hl
      rw [hg] at hc ⊢
      have hb : i < (bareF h x).length := by
        rw [lineF_eq, List.length_append, List.length_singleton] at hl
        rcases Nat.lt_or_ge i (bareF h x).length with q | q
        · exact q
        · exfalso; apply hc
          simp only [lineF_eq]
          rw [List.getElem_append_right q]
          simp
      have hg2 : (lineF h x)[i] = (bareF h x)[i] := by simp only [lineF_eq]; exact List.getElem_append_left hb
      rw [hg2]
      have e : bareF h x = (bareF h x).take i ++ (bareF h x)[i] :: (bareF h x).drop (i + 1) := by
        conv => lhs; rw [← List.take_append_drop i (bareF h x), List.drop_eq_getElem_cons hb]
      refine ⟨0, x, (bareF h x).take i, (bareF h x).drop (i + 1), linesF (sumL h (writ x)) xs, by simp, ?_, ?_, hx, ?_⟩
      · rw [← e, linesF, lineF_eq, List.take_zero, linesF]; simp
      · rw [List.take_zero, sumE]; exact e
      · rw [List.take_zero, linesF, List.length_take]; simp; omega
    · have hi2 : i - (lineF h x).length < (linesF (sumL h (writ x)) xs).length := by rw [linesF, List.length_append] at hi; omega
      have hg : (linesF h (x :: xs))[i] = (linesF (sumL h (writ x)) xs)[i - (lineF h x).length] := by simp only [linesF]; exact List.getElem_append_right (by omega)
      rw [hg] at hc ⊢
      obtain ⟨j, y, u, v, t, a, b, c, d, e⟩ := split_at xs (sumL h (writ x)) _ hi2 (fun y hy => hr y (List.mem_cons_of_mem _ hy)) hc
      refine ⟨j + 1, y, u, v, t, by simp only [List.length_cons]; omega, ?_, ?_, d, ?_⟩
      · rw [List.take_succ_cons, linesF, linesF, List.append_assoc, ← b]
      · rw [List.take_succ_cons, sumE]; exact c
      · rw [List.take_succ_cons, linesF, List.length_append]; omega
theorem lines_le : ∀ (es : List En) (h : Int), (∀ x ∈ es, rightE x = 0) → (linesF h es).length ≤ 60 * es.length
  | [], _, _ => Nat.zero_le _
  | x :: xs, h, hr => by
    have ih := lines_le xs (sumL h (writ x)) (fun y hy => hr y (List.mem_cons_of_mem _ hy))
    have hs := sumL_in h (writ x)
    have h1 := itoa_len hs.1 (by omega)
    have h2 := writ_len (hr x (by simp))
    unfold linesF lineF
    simp only [List.length_append, List.length_cons, List.length_nil]
    omega
/-- WHAT IS LEFT OF A JOURNAL THAT WAS TORN. -/
theorem torn_load {es : List En} (ha : (allL es).2.2 = 0) (hn : es.length ≤ 20) {m : Nat} (hm : m ≤ (linesF 1 es).length) :
    cnt ((linesF 1 es).take m) ≤ es.length ∧ repairL ((linesF 1 es).take m) = ((linesF 1 es).take m).take (lastE ((linesF 1 es).take m)) ∧ journL (es.take (cnt ((linesF 1 es).take m))) = (repairL ((linesF 1 es).take m), 0) ∧
    (loadL ((linesF 1 es).take m)).2.1 = (cnt ((linesF 1 es).take m) : Int) ∧
    ((loadL ((linesF 1 es).take m)).2.2 = 0 ∧ repairL ((linesF 1 es).take m) = (linesF 1 es).take m ∨ (loadL ((linesF 1 es).take m)).2.2 = 18 ∧ repairL ((linesF 1 es).take m) ≠ (linesF 1 es).take m) := by
  have hr := allL_right ha
  obtain ⟨k, p, hk, he, hp, -⟩ := torn es 1 m hr hm
  have hrk : ∀ x ∈ es.take k, rightE x = 0 := fun x hx => hr x (List.mem_of_mem_take hx)
  have hc : cnt ((linesF 1 es).take m) = k := by
    have h1 := cnt_lines (es.take k) 1 hrk
    rw [he]; unfold cnt at *
    rw [List.count_append, h1, List.count_eq_zero.2 hp, List.length_take]; omega
  have hl := lines_le es 1 hr
  have hlen : ((linesF 1 es).take m).length ≤ 1200 := by rw [List.length_take]; omega
  have hlast : lastE ((linesF 1 es).take m) = (linesF 1 (es.take k)).length := by rw [he]; exact lastE_part (lines_last _ _) hp
  obtain ⟨l, h, hrun, -⟩ := run_torn ha (by omega) hk hp (.inl (by omega))
  rw [hc, hlast]
  rw [he] at hlen ⊢
  have hrep : repairL (linesF 1 (es.take k) ++ p) = linesF 1 (es.take k) := by
    unfold repairL
    rw [List.take_of_length_le (i := 262144) (by omega), hrun, List.length_append, Nat.add_sub_cancel, List.take_left]
  have h0 : (allL (es.take k)).2.2 = 0 := by
    have e1 : allL es = allF [] 0 es := by unfold allL; rw [if_neg (by omega)]
    have e2 : allL (es.take k) = allF [] 0 (es.take k) := by unfold allL; rw [if_neg (by rw [List.length_take]; omega)]
    rw [e2]; rw [e1] at ha; exact allF_take es [] 0 k ha
  refine ⟨hk, by rw [hrep, List.take_left], by rw [hrep]; unfold journL; rw [if_neg (by rw [h0]; simp)], ?_, ?_⟩
  · unfold loadL
    rw [if_neg (by omega), hrun]
    split <;> rfl
  · rw [hrep]
    unfold loadL
    rw [if_neg (by omega), hrun]
    by_cases q : p = []
    · left; subst q; simp
    · right
      rw [if_neg q]
      refine ⟨by simp, fun e => q ?_⟩
      have := congrArg List.length e
      rw [List.length_append] at this
      exact List.length_eq_zero_iff.1 (by omega)
/-- A JOURNAL IS LOADED AS THE REGISTER OF ITS ENTRIES. -/
theorem whole_load {es : List En} (ha : (allL es).2.2 = 0) (hn : es.length ≤ 20) : loadL (linesF 1 es) = ((allL es).1, (es.length : Int), 0) ∧ repairL (linesF 1 es) = linesF 1 es := by
  have hr := allL_right ha
  have hl := lines_le es 1 hr
  obtain ⟨l, h, hrun, el⟩ := run_torn ha (by omega) (Nat.le_refl es.length) (p := []) (by simp) (.inr rfl)
  rw [List.take_length, List.append_nil, if_pos rfl] at hrun
  rw [List.take_length] at el
  subst el
  constructor
  · unfold loadL
    rw [if_neg (by omega), hrun, if_neg (by simp)]
  · unfold repairL
    rw [List.take_of_length_le (i := 262144) (by omega), hrun, List.length_nil, Nat.sub_zero, List.take_length]
/-- WHAT IS LEFT OF A JOURNAL WITH A BYTE THAT WAS CHANGED. -/
theorem spoil_load {es : List En} (ha : (allL es).2.2 = 0) (hn : es.length ≤ 20) {i : Nat} (hi : i < (linesF 1 es).length) {b : UInt8} (h1 : (linesF 1 es)[i] ≠ b) (h2 : (linesF 1 es)[i] ≠ 10) (h3 : b ≠ 10) :
    (loadL ((linesF 1 es).take i ++ b :: (linesF 1 es).drop (i + 1))).2.2 ≠ 0 ∧ (loadL ((linesF 1 es).take i ++ b :: (linesF 1 es).drop (i + 1))).2.1 = (cnt ((linesF 1 es).take i) : Int) ∧
    repairL ((linesF 1 es).take i ++ b :: (linesF 1 es).drop (i + 1)) = (linesF 1 es).take (lastE ((linesF 1 es).take i)) := by
  have hr := allL_right ha
  have hl := lines_le es 1 hr
  obtain ⟨j, x, u, v, t, hj, hs, hb, hx, hil⟩ := split_at es 1 i hi hr h2
  generalize (linesF 1 es)[i] = c at *
  have hrj : ∀ x ∈ es.take j, rightE x = 0 := fun x hx => hr x (List.mem_of_mem_take hx)
  have hu : (10 : UInt8) ∉ u := by
    have := bare_10 hx (sumE 1 (es.take j))
    rw [hb] at this
    exact fun q => this (List.mem_append_left _ q)
  have hti : (linesF 1 es).take i = linesF 1 (es.take j) ++ u := by
    rw [hs, ← hil, List.append_assoc, ← List.append_assoc, ← List.length_append, List.take_left]
  have hdi : (linesF 1 es).drop (i + 1) = v ++ 10 :: t := by
    rw [hs, show linesF 1 (es.take j) ++ ((u ++ c :: v) ++ 10 :: t) = (linesF 1 (es.take j) ++ u ++ [c]) ++ (v ++ 10 :: t) by simp, ← hil, show (linesF 1 (es.take j)).length + u.length + 1 = (linesF 1 (es.take j) ++ u ++ [c]).length by simp; omega, List.drop_left]
  have hc : cnt ((linesF 1 es).take i) = j := by
    have h1 := cnt_lines (es.take j) 1 hrj
    rw [hti]; unfold cnt at *
    rw [List.count_append, h1, List.count_eq_zero.2 hu, List.length_take]; omega
  have hlast : lastE ((linesF 1 es).take i) = (linesF 1 (es.take j)).length := by rw [hti]; exact lastE_part (lines_last _ _) hu
  have hbl : ((linesF 1 es).take i ++ b :: (linesF 1 es).drop (i + 1)).length ≤ 1200 := by
    rw [List.length_append, List.length_cons, List.length_drop, List.length_take]; omega
  rw [hc, hlast]
  have hbad : (linesF 1 es).take i ++ b :: (linesF 1 es).drop (i + 1) = linesF 1 (es.take j) ++ ((u ++ b :: v) ++ 10 :: t) := by rw [hti, hdi]; simp
  rw [hbad] at hbl ⊢
  have hfin : (linesF 1 es).take (linesF 1 (es.take j)).length = linesF 1 (es.take j) := by rw [hs, List.take_left]
  rw [hfin]
  have h0 : (allF [] 0 (es.take j)).2.2 = 0 := by
    have e1 : allL es = allF [] 0 es := by unfold allL; rw [if_neg (by omega)]
    rw [e1] at ha; exact allF_take es [] 0 j ha
  have hlj : (es.take j).length = j := by rw [List.length_take]; omega
  have hrun : runS (rd0 (linesF 1 (es.take j) ++ ((u ++ b :: v) ++ 10 :: t))) = runS ⟨(allF [] 0 (es.take j)).1, j, sumE 1 (es.take j), (u ++ b :: v) ++ 10 :: t⟩ := by
    have := run_lines (es.take j) (rd0 (linesF 1 (es.take j) ++ ((u ++ b :: v) ++ 10 :: t))) 0 _ rfl h0 (by rw [hlj]; simp only [rd0]; omega)
    rw [this, hlj]
    simp only [rd0, Nat.zero_add]
  have hsp := spoil_line hx hb (Ne.symm h1) h3 (allF [] 0 (es.take j)).1 j t
  rw [runS_bad (by simp) hsp] at hrun
  refine ⟨?_, ?_, ?_⟩
  · unfold loadL
    rw [if_neg (by omega), hrun, if_pos hsp]; exact hsp
  · unfold loadL
    rw [if_neg (by omega), hrun, if_pos hsp]
  · unfold repairL
    rw [List.take_of_length_le (i := 262144) (by omega), hrun, List.length_append, Nat.add_sub_cancel, List.take_left]
theorem last_lastE (l : Txt) : lastIndexByte ⟨l.toArray⟩ 10 + 1 = (lastE l : Int) := by
  have hsz : (⟨l.toArray⟩ : ByteArray).size = l.length := by simp [ByteArray.size]
  have get : ∀ j (hj : j < l.length), ((⟨l.toArray⟩ : ByteArray).data[j]!).toNat = l[j].toNat := fun j hj => by simp [hj]
  unfold lastIndexByte
  rw [hsz]
  rcases lastIdx_spec ⟨l.toArray⟩ 10 l.length with ⟨h1, h2⟩ | ⟨i, h0, h1, h2, h3⟩
  · rw [h1]
    have hn : (10 : UInt8) ∉ l := by
      intro h
      obtain ⟨j, hj, e⟩ := List.getElem_of_mem h
      have := h2 j hj
      rw [get j hj, e] at this
      exact this rfl
    have := lastE_part (a := []) (p := l) (.inl rfl) hn
    simp only [List.nil_append, List.length_nil] at this
    rw [this]; rfl
  · rw [h1]
    rw [get i h0] at h2
    have hi : l[i] = 10 := UInt8.toNat.inj (by have : ((10 : UInt8).toNat : Int) = 10 := rfl
                                               omega)
    have hp : (10 : UInt8) ∉ l.drop (i + 1) := by
      intro h
      obtain ⟨j, hj, e⟩ := List.getElem_of_mem h
      rw [List.getElem_drop] at e
      rw [List.length_drop] at hj
      have := h3 (i + 1 + j) (by omega) (by omega)
      rw [get _ (by omega), e] at this
      exact this rfl
    have ha : (l.take (i + 1)).getLast? = some 10 := by
      rw [List.take_succ_eq_append_getElem h0, hi]; simp
    have := lastE_part (a := l.take (i + 1)) (p := l.drop (i + 1)) (.inr ha) hp
    rw [List.take_append_drop, List.length_take] at this
    rw [this]; omega
theorem lastE_le (l : Txt) : lastE l ≤ l.length := by unfold lastE; omega
end Rg
