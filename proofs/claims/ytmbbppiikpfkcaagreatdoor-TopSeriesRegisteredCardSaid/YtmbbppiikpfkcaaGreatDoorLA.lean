/- REGISTERS OF LOTS: journals that are read: plain laws. -/
import Derived.Test.YtmbbppiikpfkcaaGreatDoorKG
import Derived.Lib.Split
namespace Rg
open Go Go.Op Go.Lib

/-! ### A text cut at the first of some bytes -/
/-- What stands before the first c, what stands behind it, and whether it is there. -/
def cutB (c : UInt8) : Txt → Txt × Txt × Bool
  | [] => ([], [], false)
  | x :: xs => if x = c then ([], xs, true) else (x :: (cutB c xs).1, (cutB c xs).2.1, (cutB c xs).2.2)
theorem cutB_no {c : UInt8} : ∀ {s : Txt}, c ∉ s → cutB c s = (s, [], false)
  | [], _ => rfl
  | x :: xs, h => by
    simp only [List.mem_cons, not_or] at h
    unfold cutB
    rw [if_neg (Ne.symm h.1), cutB_no h.2]
theorem cutB_at {c : UInt8} : ∀ {a : Txt} (b : Txt), c ∉ a → cutB c (a ++ c :: b) = (a, b, true)
  | [], b, _ => by simp [cutB]
  | x :: xs, b, h => by
    simp only [List.mem_cons, not_or] at h
    rw [List.cons_append]
    unfold cutB
    rw [if_neg (Ne.symm h.1), cutB_at b h.2]
theorem cutB_cases (c : UInt8) (s : Txt) : (c ∉ s ∧ cutB c s = (s, [], false)) ∨ ∃ a b, c ∉ a ∧ s = a ++ c :: b ∧ cutB c s = (a, b, true) := by
  induction s with
  | nil => exact .inl ⟨by simp, rfl⟩
  | cons x xs ih =>
    by_cases h : x = c
    · subst h; exact .inr ⟨[], xs, by simp, rfl, by simp [cutB]⟩
    · rcases ih with ⟨h1, h2⟩ | ⟨a, b, h1, h2, h3⟩
      · refine .inl ⟨by simp [Ne.symm h, h1], ?_⟩
        unfold cutB; rw [if_neg h, h2]
      · refine .inr ⟨x :: a, b, by simp [Ne.symm h, h1], by rw [h2]; rfl, ?_⟩
        unfold cutB; rw [if_neg h, h3]
theorem cutB_len {c : UInt8} {s : Txt} : (cutB c s).1.length ≤ s.length ∧ (cutB c s).2.1.length ≤ s.length ∧ ((cutB c s).2.2 = true → (cutB c s).2.1.length < s.length) := by
  rcases cutB_cases c s with ⟨-, h⟩ | ⟨a, b, -, h1, h⟩ <;> rw [h]
  · simp
  · rw [h1]; simp; omega

/-! ### Counts -/
/-- The number that a text of digits spells, behind another one; -1 where a byte is none. -/
def numF (n : Int) : Txt → Int
  | [] => n
  | c :: s => if digB c = true then numF (10 * n + ((c.toNat : Int) - 48)) s else -1
def numR (s : Txt) : Int := if s.length = 0 ∨ 7 < s.length then -1 else numF 0 s
theorem numF_app : ∀ {a : Txt} {n : Int} (b : Txt), (∀ c ∈ a, digB c = true) → numF n (a ++ b) = numF (numF n a) b
  | [], _, _, _ => rfl
  | x :: xs, n, b, h => by
    rw [List.cons_append]
    rw [numF, if_pos (h x (by simp)), numF_app b fun c hc => h c (List.mem_cons_of_mem _ hc)]
    conv => rhs; rw [numF, if_pos (h x (by simp))]
theorem digB_iff' (c : UInt8) : digB c = true ↔ 48 ≤ c.toNat ∧ c.toNat ≤ 57 := by
  unfold digB
  simp only [Bool.and_eq_true, decide_eq_true_eq, UInt8.le_iff_toNat_le]
  rfl
theorem numF_dec : ∀ (n : Nat), numF 0 (decDigits n) = n := by
  intro n
  induction n using Nat.strongRecOn with
  | _ n ih =>
    rw [decDigits]
    split
    · rename_i h
      have e : (UInt8.ofNat (48 + n)).toNat = 48 + n := by rw [UInt8.toNat_ofNat']; omega
      unfold numF
      rw [if_pos ((digB_iff' _).2 (by omega)), e]
      unfold numF; omega
    · have e : (UInt8.ofNat (48 + n % 10)).toNat = 48 + n % 10 := by rw [UInt8.toNat_ofNat']; omega
      rw [numF_app _ fun c hc => (digB_iff' c).2 (dec_digits _ c hc), ih (n / 10) (by omega)]
      unfold numF
      rw [if_pos ((digB_iff' _).2 (by omega)), e]
      unfold numF; omega
theorem reads_numR : Reads numR := by
  intro n h1 h2
  have hl : (itoa n).length ≤ 7 := itoa_len (by omega) (by omega)
  have e : itoa n = decDigits n.toNat := by unfold itoa; rw [if_neg (by omega)]
  rw [e] at hl ⊢
  have h0 : (decDigits n.toNat).length ≠ 0 := by
    rw [decDigits]; split <;> simp
  unfold numR
  rw [if_neg (by omega), numF_dec]; omega

/-! ### Checksums -/
theorem sum0_id {h : Int} (hh : 0 ≤ h ∧ h < 1000003) : sum0 h = h := by
  unfold sum0
  rw [Int.tmod_eq_emod_of_nonneg hh.1, Int.emod_eq_of_lt hh.1 hh.2, if_neg (by omega)]
theorem sumF_app : ∀ (h : Int) (a b : Txt), sumF h (a ++ b) = sumF (sumF h a) b
  | _, [], _ => rfl
  | h, c :: a, b => by rw [List.cons_append, sumF, sumF, sumF_app]
theorem sumL_app (h : Int) (a b : Txt) : sumL h (a ++ b) = sumL (sumL h a) b := by
  rw [sumL, sumF_app]
  conv => rhs; rw [sumL, sum0_id (sumL_in h a)]
  rfl
theorem sumF_inj : ∀ {h h' : Int} (s : Txt), (0 ≤ h ∧ h < 1000003) → (0 ≤ h' ∧ h' < 1000003) → sumF h s = sumF h' s → h = h'
  | _, _, [], _, _, e => e
  | h, h', c :: s, hh, hh', e => by
    have := sumF_inj s (step_in h c) (step_in h' c) e
    omega
/-- A byte that is changed changes the checksum. -/
theorem sumL_byte {h : Int} {a b : Txt} {c d : UInt8} (e : sumL h (a ++ c :: b) = sumL h (a ++ d :: b)) : c = d := by
  unfold sumL at e
  rw [sumF_app, sumF_app, sumF, sumF] at e
  have := sumF_inj b (step_in _ c) (step_in _ d) e
  have h1 := c.toNat_lt
  have h2 := d.toNat_lt
  have h3 := sumF_in a (sum0_in h)
  generalize sumF (sum0 h) a = g at *
  exact UInt8.toNat_inj.1 (by omega)

/-! ### A journal is read -/
/-- The register that was read, how many lines, their checksum, and what is left. -/
structure Rd where
  lots : List Lt
  n : Nat
  h : Int
  rest : Txt
abbrev rdL (s : Txt) : En × Int := readL numR s
/-- The next line's text. -/
def lnT (r : Rd) : Txt := (cutB 32 (cutB 10 r.rest).1).2.1
/-- The error of the next line. -/
def lnE (r : Rd) : Int :=
  if r.n = 4096 then 5 else if (cutB 10 r.rest).2.2 = false then 18
  else if (cutB 32 (cutB 10 r.rest).1).2.2 = false ∨ (cutB 32 (cutB 10 r.rest).1).1 ≠ itoa (sumL r.h (lnT r)) then 19
  else if (rdL (lnT r)).2 ≠ 0 then 4 else (doneL r.lots (rdL (lnT r)).1).2
/-- Behind the next line. -/
def lnR (r : Rd) : Rd := ⟨(doneL r.lots (rdL (lnT r)).1).1, r.n + 1, sumL r.h (lnT r), (cutB 10 r.rest).2.1⟩
theorem lnE_ok {r : Rd} (h : lnE r = 0) : r.n ≠ 4096 ∧ (cutB 10 r.rest).2.2 = true ∧ (cutB 32 (cutB 10 r.rest).1).2.2 = true ∧ (cutB 32 (cutB 10 r.rest).1).1 = itoa (sumL r.h (lnT r)) ∧
    (rdL (lnT r)).2 = 0 ∧ (doneL r.lots (rdL (lnT r)).1).2 = 0 := by
  unfold lnE at h
  split at h
  · cases h
  · split at h
    · cases h
    · split at h
      · cases h
      · split at h
        · cases h
        · rename_i h1 h2 h3 h4
          simp only [not_or, Bool.not_eq_false, Decidable.not_not] at h3 h4
          exact ⟨h1, by simpa using h2, h3.1, h3.2, h4, h⟩
theorem lnR_lt {r : Rd} (h : lnE r = 0) : (lnR r).rest.length < r.rest.length := cutB_len.2.2 (lnE_ok h).2.1
/-- What is read, up to the first line with an error. -/
def runS (r : Rd) : Rd × Int :=
  if r.rest = [] then (r, 0) else if _h : lnE r = 0 then runS (lnR r) else (r, lnE r)
termination_by r.rest.length
decreasing_by exact lnR_lt _h
theorem runS_end {r : Rd} (h : r.rest = []) : runS r = (r, 0) := by rw [runS, if_pos h]
theorem runS_bad {r : Rd} (h : r.rest ≠ []) (e : lnE r ≠ 0) : runS r = (r, lnE r) := by rw [runS, if_neg h, dif_neg e]
theorem runS_ok {r : Rd} (h : r.rest ≠ []) (e : lnE r = 0) : runS r = runS (lnR r) := by rw [runS, if_neg h, dif_pos e]
def rd0 (s : Txt) : Rd := ⟨[], 0, 1, s⟩
def loadL (s : Txt) : List Lt × Int × Int :=
  if 262144 < s.length then ([], 0, 17) else if (runS (rd0 s)).2 ≠ 0 then ([], (runS (rd0 s)).1.n, (runS (rd0 s)).2) else ((runS (rd0 s)).1.lots, (runS (rd0 s)).1.n, 0)
def repairL (s : Txt) : Txt := (s.take 262144).take ((s.take 262144).length - (runS (rd0 (s.take 262144))).1.rest.length)
/-- What holds of all that is read. -/
structure RdOk (r : Rd) : Prop where
  l : chkE r.lots = 0
  n : r.n ≤ 4096
  h : 0 ≤ r.h ∧ r.h < 1000003
theorem rdL_right {s : Txt} (h : (rdL s).2 = 0) : rightE (rdL s).1 = 0 := (read_ok h).1
theorem lnR_ok {r : Rd} (hr : RdOk r) (e : lnE r = 0) : RdOk (lnR r) := by
  obtain ⟨h1, -, -, -, h5, h6⟩ := lnE_ok e
  have hn := hr.n
  exact ⟨(done_ok hr.l (rdL_right h5) h6).1, by unfold lnR; simp only; omega, sumL_in _ _⟩
theorem runS_RdOk : ∀ (k : Nat) (r : Rd), r.rest.length ≤ k → RdOk r → RdOk (runS r).1 ∧ ((runS r).2 = 0 → (runS r).1.rest = []) ∧ (runS r).1.rest.length ≤ r.rest.length
  | k, r, hk, hr => by
    by_cases h : r.rest = []
    · rw [runS_end h]; exact ⟨hr, fun _ => h, Nat.le_refl _⟩
    · by_cases e : lnE r = 0
      · rw [runS_ok h e]
        have hlt := lnR_lt e
        match k, hk with
        | 0, hk => omega
        | k + 1, hk =>
          obtain ⟨a, b, c⟩ := runS_RdOk k (lnR r) (by omega) (lnR_ok hr e)
          exact ⟨a, b, by omega⟩
      · rw [runS_bad h e]
        exact ⟨hr, fun q => absurd q e, Nat.le_refl _⟩
theorem rd0_ok (s : Txt) : RdOk (rd0 s) := ⟨show chkE [] = 0 by decide, show 0 ≤ 4096 by decide, show (0 : Int) ≤ 1 ∧ (1 : Int) < 1000003 by decide⟩
end Rg
/- REGISTERS OF LOTS: the library's texts (Split, Index, Count, LastIndex) in plain words. -/
namespace Rg
open Go Go.Op Go.Lib

theorem indexByte_no {c : UInt8} : ∀ {s : Txt}, c ∉ s → indexByte s c = -1
  | [], _ => rfl
  | x :: xs, h => by
    simp only [List.mem_cons, not_or] at h
    unfold indexByte
    rw [if_neg (by simpa using fun e => h.1 e.symm), indexByte_no h.2]; rfl
theorem indexByte_at {c : UInt8} : ∀ {a : Txt} (b : Txt), c ∉ a → indexByte (a ++ c :: b) c = a.length
  | [], b, _ => by simp [indexByte]
  | x :: xs, b, h => by
    simp only [List.mem_cons, not_or] at h
    rw [List.cons_append]
    unfold indexByte
    rw [if_neg (by simpa using fun e => h.1 e.symm), indexByte_at b h.2, if_neg (by rw [beq_iff_eq]; omega)]
    simp only [List.length_cons]; omega
theorem ne_head {c y : UInt8} {ys : Txt} (h : c ≠ y) : [c].isPrefixOf (y :: ys) = false := by
  unfold List.isPrefixOf
  rw [show (c == y) = false by simpa using h]; rfl
theorem index_one (s : Txt) (c : UInt8) : index s [c] = indexByte s c := by
  rcases cutB_cases c s with ⟨h, -⟩ | ⟨a, b, h, e, -⟩
  · rw [indexByte_no h]
    refine index_none fun j hj => ?_
    unfold occAt
    cases q : s.drop j with
    | nil => rfl
    | cons y ys =>
      have : y ∈ s := List.mem_of_mem_drop (by rw [q]; simp)
      exact ne_head fun e => h (e ▸ this)
  · subst e
    rw [indexByte_at b h]
    refine index_first (by simp) ?_ fun j hj => ?_
    · unfold occAt; rw [List.drop_left]; simp
    · unfold occAt
      rw [List.drop_append_of_le_length (by omega)]
      cases q : a.drop j with
      | nil => rw [List.drop_eq_nil_iff] at q; omega
      | cons y ys =>
        have : y ∈ a := List.mem_of_mem_drop (by rw [q]; simp)
        exact ne_head fun e => h (e ▸ this)
theorem count_one : ∀ (k : Nat) (s : Txt) (c : UInt8), s.length ≤ k → count s [c] = countByte s c
  | k, s, c, hk => by
    rcases cutB_cases c s with ⟨h, -⟩ | ⟨a, b, h, e, -⟩
    · rw [count_miss (by rw [index_one, indexByte_no h])]
      unfold countByte; exact (List.count_eq_zero.2 h).symm
    · subst e
      rw [count_hit (i := a.length) (by simp) (by rw [index_one, indexByte_at b h])]
      simp only [List.length_append, List.length_cons] at hk
      match k, hk with
      | 0, hk => omega
      | k + 1, hk =>
        rw [show (a ++ c :: b).drop (a.length + [c].length) = b by
          rw [show a ++ c :: b = (a ++ [c]) ++ b by simp, show a.length + [c].length = (a ++ [c]).length by simp]; exact List.drop_left, count_one k b c (by omega)]
        unfold countByte
        rw [List.count_append, List.count_eq_zero.2 h, List.count_cons_self]; omega
/-- strings.Split at a space. -/
theorem split_sp : ∀ (k : Nat) (s : Txt), s.length ≤ k → splitK [32] 0 (countByte s 32) s = sp s
  | k, s, hk => by
    rcases cutB_cases 32 s with ⟨h, -⟩ | ⟨a, b, h, e, -⟩
    · rw [show countByte s 32 = 0 from List.count_eq_zero.2 h, sp_word h]; rfl
    · subst e
      simp only [List.length_append, List.length_cons] at hk
      match k, hk with
      | 0, hk => omega
      | k + 1, hk =>
        have hc : countByte (a ++ 32 :: b) 32 = countByte b 32 + 1 := by
          unfold countByte
          rw [List.count_append, List.count_eq_zero.2 h, List.count_cons_self]; omega
        rw [hc, splitK, index_one, indexByte_at b h, if_neg (by rw [beq_iff_eq]; omega), sp_append h]
        congr 1
        · rw [show ((a.length : Int).toNat + 0) = a.length by omega]; exact List.take_left
        · rw [show (a ++ 32 :: b).drop ((a.length : Int).toNat + [(32 : UInt8)].length) = b by
            rw [show a ++ 32 :: b = (a ++ [32]) ++ b by simp, show (a.length : Int).toNat + [(32 : UInt8)].length = (a ++ [32]).length by simp]; exact List.drop_left]
          exact split_sp k b (by omega)
theorem sp_len (s : Txt) : (sp s).length = countByte s 32 + 1 := by
  induction s with
  | nil => rfl
  | cons c cs ih =>
    unfold sp
    split
    · rename_i h; subst h
      rw [List.length_cons, ih]; unfold countByte; rw [List.count_cons_self]
    · rename_i h
      have hc : countByte (c :: cs) 32 = countByte cs 32 := by unfold countByte; exact List.count_cons_of_ne h
      rw [hc]
      cases q : sp cs with
      | nil => exact absurd q (sp_ne cs)
      | cons v vs => rw [q] at ih; simpa using ih
end Rg
