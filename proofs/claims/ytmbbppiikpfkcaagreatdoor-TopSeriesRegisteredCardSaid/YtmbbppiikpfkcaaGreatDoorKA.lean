/- REGISTERS OF LOTS: plain laws, no program in sight. -/
import Derived.Lib.Bytealg
import GoSem.Op.String
import Derived.Lib.ItoaNum
namespace Rg
open Go Go.Op Go.Lib

abbrev Txt := List UInt8

/-! ### The order of names -/
theorem less_irrefl : ∀ a : Txt, bytesLess a a = false
  | [] => rfl
  | a :: x => by unfold bytesLess; rw [less_irrefl x, Bool.and_false, Bool.or_false]; exact decide_eq_false (UInt8.lt_irrefl a)
theorem less_trans : ∀ {a b c : Txt}, bytesLess a b = true → bytesLess b c = true → bytesLess a c = true
  | _, _, [], _, h => by simp [bytesLess] at h
  | [], _, _ :: _, _, _ => rfl
  | _ :: _, [], _ :: _, h, _ => by simp [bytesLess] at h
  | a :: x, b :: y, c :: z, h, k => by
    simp only [bytesLess, Bool.or_eq_true, decide_eq_true_eq, Bool.and_eq_true, beq_iff_eq, UInt8.lt_iff_toNat_lt, ← UInt8.toNat_inj] at h k ⊢
    rcases h with h | ⟨h, h'⟩ <;> rcases k with k | ⟨k, k'⟩
    · left; omega
    · left; omega
    · left; omega
    · right; exact ⟨by omega, less_trans h' k'⟩
theorem less_tri : ∀ {a b : Txt}, a ≠ b → bytesLess a b = false → bytesLess b a = true
  | [], [], h, _ => absurd rfl h
  | [], _ :: _, _, k => by simp [bytesLess] at k
  | _ :: _, [], _, _ => rfl
  | a :: x, b :: y, h, k => by
    simp only [bytesLess, Bool.or_eq_false_iff, decide_eq_false_iff_not, Bool.and_eq_false_iff, beq_eq_false_iff_ne] at k
    obtain ⟨k1, k2⟩ := k
    simp only [bytesLess, Bool.or_eq_true, decide_eq_true_eq, Bool.and_eq_true, beq_iff_eq]
    by_cases e : a = b
    · subst e
      right
      rcases k2 with k2 | k2
      · exact absurd rfl k2
      · exact ⟨rfl, less_tri (fun e => h (by rw [e])) k2⟩
    · left
      rw [UInt8.lt_iff_toNat_lt] at k1 ⊢
      have : a.toNat ≠ b.toNat := fun q => e (UInt8.toNat_inj.1 q)
      omega
theorem less_asymm {a b : Txt} (h : bytesLess a b = true) : bytesLess b a = false := by
  cases k : bytesLess b a with
  | false => rfl
  | true => have := less_trans h k; rw [less_irrefl] at this; cases this
theorem less_ne {a b : Txt} (h : bytesLess a b = true) : a ≠ b := by
  rintro rfl; rw [less_irrefl] at h; cases h
theorem cmp_less : ∀ a b : Txt, (compareBytes a b < 0 ↔ bytesLess a b = true) ∧ (compareBytes a b = 0 ↔ a = b)
  | [], [] => by simp [compareBytes, bytesLess]
  | [], _ :: _ => by simp [compareBytes, bytesLess]
  | _ :: _, [] => by simp [compareBytes, bytesLess]
  | a :: x, b :: y => by
    obtain ⟨i1, i2⟩ := cmp_less x y
    unfold compareBytes bytesLess
    simp only [Bool.or_eq_true, decide_eq_true_eq, Bool.and_eq_true, beq_iff_eq, List.cons.injEq]
    by_cases h : a < b
    · rw [if_pos h]
      refine ⟨⟨fun _ => .inl h, fun _ => by omega⟩, ⟨fun q => by omega, fun q => ?_⟩⟩
      rw [q.1] at h; exact absurd h (UInt8.lt_irrefl b)
    · rw [if_neg h]
      by_cases k : b < a
      · rw [if_pos k]
        refine ⟨⟨fun q => by omega, fun q => ?_⟩, ⟨fun q => by omega, fun q => ?_⟩⟩
        · rcases q with q | q
          · exact absurd q h
          · rw [q.1] at k; exact absurd k (UInt8.lt_irrefl b)
        · rw [q.1] at k; exact absurd k (UInt8.lt_irrefl b)
      · rw [if_neg k]
        have e : a = b := by
          rw [UInt8.lt_iff_toNat_lt] at h k
          exact UInt8.toNat_inj.1 (by omega)
        subst e
        refine ⟨⟨fun q => .inr ⟨rfl, i1.1 q⟩, fun q => ?_⟩, ⟨fun q => ⟨rfl, i2.1 q⟩, fun q => i2.2 q.2⟩⟩
        rcases q with q | q
        · exact absurd q h
        · exact i1.2 q.2

/-! ### Lots and entries -/
structure Lt where
  nm : Txt
  sz : Int
  gd : Int
  bd : Int
  cn : Int
  sc : Int
  st : Int
structure En where
  k : Int
  lot : Txt
  n : Int
theorem Lt.eq_iff (a b : Lt) : a = b ↔ a.nm = b.nm ∧ a.sz = b.sz ∧ a.gd = b.gd ∧ a.bd = b.bd ∧ a.cn = b.cn ∧ a.sc = b.sc ∧ a.st = b.st := by
  cases a; cases b; simp
theorem En.eq_iff (a b : En) : a = b ↔ a.k = b.k ∧ a.lot = b.lot ∧ a.n = b.n := by
  cases a; cases b; simp
instance : DecidableEq Lt := fun a b => decidable_of_iff _ (Lt.eq_iff a b).symm
instance : DecidableEq En := fun a b => decidable_of_iff _ (En.eq_iff a b).symm

def letB (c : UInt8) : Bool := (65 ≤ c && c ≤ 90) || (97 ≤ c && c ≤ 122)
def digB (c : UInt8) : Bool := 48 ≤ c && c ≤ 57
def ldB (c : UInt8) : Bool := letB c || digB c
/-- The number of a name's error. -/
def nameE (s : Txt) : Int := if 24 < s.length then 17 else if (s.head?.map letB).getD false = true ∧ s.all ldB = true then 0 else 3
def left (x : Lt) : Int := x.sz - x.gd - x.bd - x.cn - x.sc
/-- The number of a lot's error, but for its name. -/
def lotE (x : Lt) : Int :=
  if x.sz < 1 ∨ 1048576 < x.sz then 2
  else if (x.gd < 0 ∨ x.sz < x.gd) ∨ (x.bd < 0 ∨ x.sz < x.bd) ∨ (x.cn < 0 ∨ x.sz < x.cn) ∨ (x.sc < 0 ∨ x.sz < x.sc) then 2
  else if x.st < 0 ∨ 2 < x.st then 1
  else if left x < 0 ∨ (x.st ≠ 0 ∧ 0 < left x) ∨ (x.st = 2 ∧ 0 < x.bd) then 16 else 0
/-- The number of the first error of a register, behind a lot. -/
def chkF : Option Txt → List Lt → Int
  | _, [] => 0
  | p, x :: xs => if nameE x.nm ≠ 0 then nameE x.nm else if (p.map fun q => !bytesLess q x.nm).getD false = true then 9 else if lotE x ≠ 0 then lotE x else chkF (some x.nm) xs
def chkE (l : List Lt) : Int := if 256 < l.length then 5 else chkF none l
def rightE (x : En) : Int :=
  if x.k < 0 ∨ 6 < x.k then 1 else if nameE x.lot ≠ 0 then nameE x.lot
  else if (5 ≤ x.k ∧ x.n ≠ 0) ∨ (x.k < 5 ∧ (x.n < 1 ∨ 1048576 < x.n)) then 2 else 0

abbrev Srt (l : List Lt) : Prop := l.Pairwise fun a b => bytesLess a.nm b.nm = true
theorem srt_cons {x : Lt} {xs : List Lt} : Srt (x :: xs) ↔ (∀ y ∈ xs, bytesLess x.nm y.nm = true) ∧ Srt xs := List.pairwise_cons
theorem chkF_iff : ∀ (p : Option Txt) (l : List Lt), chkF p l = 0 ↔ (∀ x ∈ l, nameE x.nm = 0 ∧ lotE x = 0) ∧ Srt l ∧ (∀ q, p = some q → ∀ x ∈ l, bytesLess q x.nm = true)
  | p, [] => by simp [chkF]
  | p, x :: xs => by
    have ih := chkF_iff (some x.nm) xs
    unfold chkF
    by_cases h1 : nameE x.nm = 0
    · rw [if_neg (Decidable.not_not.2 h1)]
      by_cases h2 : (p.map fun q => !bytesLess q x.nm).getD false = true
      · rw [if_pos h2]
        refine ⟨fun q => by omega, fun q => ?_⟩
        obtain ⟨-, -, q⟩ := q
        cases p with
        | none => simp at h2
        | some v => have := q v rfl x (by simp); simp [this] at h2
      · rw [if_neg h2]
        have h2' : ∀ q, p = some q → bytesLess q x.nm = true := by
          rintro q rfl; simpa using h2
        by_cases h3 : lotE x = 0
        · rw [if_neg (Decidable.not_not.2 h3), ih]
          constructor
          · rintro ⟨a, b, c⟩
            refine ⟨fun y hy => ?_, List.pairwise_cons.2 ⟨fun y hy => c _ rfl y hy, b⟩, fun q hq y hy => ?_⟩
            · rcases List.mem_cons.1 hy with rfl | hy
              · exact ⟨h1, h3⟩
              · exact a y hy
            · rcases List.mem_cons.1 hy with rfl | hy
              · exact h2' q hq
              · exact less_trans (h2' q hq) (c _ rfl y hy)
          · rintro ⟨a, b, c⟩
            rw [srt_cons] at b
            exact ⟨fun y hy => a y (List.mem_cons_of_mem _ hy), b.2, fun q hq y hy => by cases hq; exact b.1 y hy⟩
        · rw [if_pos h3]
          exact ⟨fun q => absurd q h3, fun q => absurd (q.1 x (by simp)).2 h3⟩
    · rw [if_pos h1]
      exact ⟨fun q => absurd q h1, fun q => absurd (q.1 x (by simp)).1 h1⟩
theorem chkE_iff (l : List Lt) : chkE l = 0 ↔ l.length ≤ 256 ∧ (∀ x ∈ l, nameE x.nm = 0 ∧ lotE x = 0) ∧ Srt l := by
  unfold chkE
  split
  · exact ⟨fun q => by omega, fun q => by omega⟩
  · rw [chkF_iff]
    exact ⟨fun q => ⟨by omega, q.1, q.2.1⟩, fun q => ⟨q.2.1, q.2.2, fun _ h => by cases h⟩⟩
theorem lotE_iff (x : Lt) : lotE x = 0 ↔ (1 ≤ x.sz ∧ x.sz ≤ 1048576) ∧ (0 ≤ x.gd ∧ x.gd ≤ x.sz) ∧ (0 ≤ x.bd ∧ x.bd ≤ x.sz) ∧ (0 ≤ x.cn ∧ x.cn ≤ x.sz) ∧ (0 ≤ x.sc ∧ x.sc ≤ x.sz) ∧ (0 ≤ x.st ∧ x.st ≤ 2) ∧
    0 ≤ left x ∧ (x.st = 0 ∨ left x ≤ 0) ∧ (x.st ≠ 2 ∨ x.bd ≤ 0) := by
  unfold lotE
  split
  · omega
  · split
    · omega
    · split
      · omega
      · split <;> omega
theorem rightE_iff (x : En) : rightE x = 0 ↔ (0 ≤ x.k ∧ x.k ≤ 6) ∧ nameE x.lot = 0 ∧ (5 ≤ x.k → x.n = 0) ∧ (x.k < 5 → 1 ≤ x.n ∧ x.n ≤ 1048576) := by
  unfold rightE
  split
  · omega
  · split
    · rename_i h; exact ⟨fun q => absurd q h, fun q => absurd q.2.1 h⟩
    · rename_i h
      have h := Decidable.not_not.1 h
      split
      · rename_i h'
        refine ⟨fun q => by omega, fun ⟨_, _, q1, q2⟩ => ?_⟩
        by_cases c : 5 ≤ x.k
        · have := q1 c; omega
        · have := q2 (by omega); omega
      · refine ⟨fun _ => ⟨by omega, h, fun c => by omega, fun c => by omega⟩, fun _ => rfl⟩

/-! ### Where a name stands -/
def pos : List Lt → Txt → Nat
  | [], _ => 0
  | x :: xs, nm => if bytesLess x.nm nm = true then pos xs nm + 1 else 0
def has (l : List Lt) (nm : Txt) : Bool := l.any fun x => x.nm == nm
theorem pos_le : ∀ (l : List Lt) (nm : Txt), pos l nm ≤ l.length
  | [], _ => Nat.le_refl _
  | x :: xs, nm => by
    have := pos_le xs nm
    unfold pos; split <;> simp only [List.length_cons] <;> omega
theorem pos_lt : ∀ {l : List Lt} {nm : Txt}, Srt l → ∀ {h : Nat} (hh : h < l.length), bytesLess l[h].nm nm = true ↔ h < pos l nm
  | x :: xs, nm, hs, h, hh => by
    rw [srt_cons] at hs
    unfold pos
    cases h with
    | zero =>
      simp only [List.getElem_cons_zero]
      split
      · rename_i k; simp [k]
      · rename_i k; simp [k]
    | succ h =>
      simp only [List.getElem_cons_succ]
      simp only [List.length_cons] at hh
      have ih := pos_lt (nm := nm) hs.2 (h := h) (by omega)
      split
      · rw [ih]; omega
      · rename_i k
        refine ⟨fun q => ?_, fun q => by omega⟩
        exact absurd (less_trans (hs.1 _ (List.getElem_mem _)) q) k
theorem has_iff (l : List Lt) (nm : Txt) : has l nm = true ↔ ∃ x ∈ l, x.nm = nm := by
  unfold has; simp
theorem has_pos {l : List Lt} {nm : Txt} (hs : Srt l) : has l nm = true ↔ ∃ h : pos l nm < l.length, l[pos l nm].nm = nm := by
  rw [has_iff]
  constructor
  · rintro ⟨x, hx, rfl⟩
    obtain ⟨i, hi, rfl⟩ := List.getElem_of_mem hx
    have h1 := pos_lt (nm := l[i].nm) hs hi
    rw [less_irrefl] at h1
    have h2 : ¬ i < pos l l[i].nm := fun q => by simpa using h1.2 q
    have h3 : pos l l[i].nm < l.length := by omega
    refine ⟨h3, ?_⟩
    by_cases e : i = pos l l[i].nm
    · congr 1; simp only [← e]
    · have h4 := List.pairwise_iff_getElem.1 hs _ _ h3 hi (by omega)
      have := (pos_lt (nm := l[i].nm) hs h3).1 h4
      omega
  · rintro ⟨h, e⟩; exact ⟨_, List.getElem_mem h, e⟩
theorem pos_get {l : List Lt} (hs : Srt l) {i : Nat} (hi : i < l.length) : pos l l[i].nm = i := by
  have h1 := pos_lt (nm := l[i].nm) hs hi
  rw [less_irrefl] at h1
  have h2 : ¬ i < pos l l[i].nm := fun q => by simpa using h1.2 q
  by_cases e : pos l l[i].nm = i
  · exact e
  · have h3 : pos l l[i].nm < l.length := by omega
    have h4 := List.pairwise_iff_getElem.1 hs _ _ h3 hi (by omega)
    have := (pos_lt (nm := l[i].nm) hs h3).1 h4
    omega
/-- The index of the first lot with a name, or -1. -/
def placeF (nm : Txt) : List Lt → Nat → Int
  | [], _ => -1
  | x :: xs, i => if x.nm = nm then (i : Int) else placeF nm xs (i + 1)
def place (l : List Lt) (nm : Txt) : Int := placeF nm l 0
theorem placeF_eq {nm : Txt} : ∀ {l : List Lt} {i : Nat}, Srt l → placeF nm l i = if has l nm = true then ((i + pos l nm : Nat) : Int) else -1
  | [], i, _ => rfl
  | x :: xs, i, hs => by
    rw [srt_cons] at hs
    unfold placeF
    by_cases h : x.nm = nm
    · rw [if_pos h, if_pos (by unfold has; simp [h])]
      unfold pos
      rw [h, less_irrefl]; simp
    · rw [if_neg h, placeF_eq hs.2]
      have e1 : has (x :: xs) nm = has xs nm := by unfold has; simp [h]
      rw [e1]
      by_cases k : has xs nm = true
      · rw [if_pos k, if_pos k]
        obtain ⟨y, hy, rfl⟩ := (has_iff _ _).1 k
        have : bytesLess x.nm y.nm = true := hs.1 y hy
        conv => rhs; unfold pos
        rw [if_pos this]; omega
      · rw [if_neg k, if_neg k]
theorem place_eq {nm : Txt} {l : List Lt} (hs : Srt l) : place l nm = if has l nm = true then (pos l nm : Int) else -1 := by
  unfold place; rw [placeF_eq hs]; simp
/-- The first place of a lot behind a name. -/
def insP : List Lt → Txt → Nat
  | [], _ => 0
  | x :: xs, nm => if bytesLess nm x.nm = true then 0 else insP xs nm + 1
theorem insP_eq : ∀ {l : List Lt} {nm : Txt}, has l nm = false → insP l nm = pos l nm
  | [], _, _ => rfl
  | x :: xs, nm, h => by
    unfold has at h
    simp only [List.any_cons, Bool.or_eq_false_iff, beq_eq_false_iff_ne] at h
    have ih := insP_eq (l := xs) (nm := nm) h.2
    unfold insP pos
    by_cases k : bytesLess nm x.nm = true
    · rw [if_pos k, if_neg (by rw [less_asymm k]; simp)]
    · rw [if_neg k, if_pos (less_tri (Ne.symm h.1) (by simpa using k)), ih]
end Rg
/- REGISTERS OF LOTS: what an entry does: plain laws. -/
namespace Rg
open Go Go.Op Go.Lib

def newLot (x : En) : Lt := ⟨x.lot, x.n, 0, 0, 0, 0, 0⟩
/-- A lot behind an entry that is not its first one, and the number of the error. -/
def changed (a : Lt) (x : En) : Lt × Int :=
  if x.k = 1 ∨ x.k = 2 then
    if a.st ≠ 0 then (a, 14) else if left a < x.n then (a, 16) else (if x.k = 1 then { a with gd := a.gd + x.n } else { a with bd := a.bd + x.n }, 0)
  else if x.k = 3 ∨ x.k = 4 then
    if a.st = 2 then (a, 14) else if a.bd < x.n then (a, 16) else (if x.k = 3 then { a with bd := a.bd - x.n, cn := a.cn + x.n } else { a with bd := a.bd - x.n, sc := a.sc + x.n }, 0)
  else if x.k = 5 then (if a.st ≠ 0 then (a, 14) else if 0 < left a then (a, 16) else ({ a with st := 1 }, 0))
  else if a.st ≠ 1 then (a, 14) else if 0 < a.bd then (a, 16) else ({ a with st := 2 }, 0)
/-- What holds of a lot behind an entry. -/
structure Chg (a : Lt) (x : En) (b : Lt) : Prop where
  nm : b.nm = a.nm
  sz : b.sz = a.sz
  st : a.st ≤ b.st
  gd : a.gd ≤ b.gd
  cn : a.cn ≤ b.cn
  sc : a.sc ≤ b.sc
  sum : b.gd + b.bd + b.cn + b.sc = a.gd + a.bd + a.cn + a.sc + (if x.k = 1 ∨ x.k = 2 then x.n else 0)
  ok : lotE b = 0
theorem changed_ok {a : Lt} {x : En} (ha : lotE a = 0) (hx : rightE x = 0) (h0 : x.k ≠ 0) (h : (changed a x).2 = 0) : Chg a x (changed a x).1 := by
  rw [lotE_iff] at ha
  rw [rightE_iff] at hx
  obtain ⟨⟨z1, z2⟩, ⟨g1, g2⟩, ⟨b1, b2⟩, ⟨c1, c2⟩, ⟨s1, s2⟩, ⟨t1, t2⟩, l1, l2, l3⟩ := ha
  obtain ⟨⟨k1, k2⟩, -, n1, n2⟩ := hx
  have hk : x.k = 1 ∨ x.k = 2 ∨ x.k = 3 ∨ x.k = 4 ∨ x.k = 5 ∨ x.k = 6 := by omega
  unfold changed at h ⊢
  unfold left at *
  rcases hk with k | k | k | k | k | k
  · rw [if_pos (by omega)] at h ⊢
    have := n2 (by omega)
    split at h
    · simp at h
    · split at h
      · simp at h
      · rename_i h1 h2
        rw [if_neg h1, if_neg h2, if_pos k]
        exact ⟨rfl, rfl, by simp, by simp; omega, by simp, by simp, by simp [k]; omega, (lotE_iff _).2 (by simp [left]; omega)⟩
  · rw [if_pos (by omega)] at h ⊢
    have := n2 (by omega)
    split at h
    · simp at h
    · split at h
      · simp at h
      · rename_i h1 h2
        rw [if_neg h1, if_neg h2, if_neg (by omega)]
        exact ⟨rfl, rfl, by simp, by simp, by simp, by simp, by simp [k]; omega, (lotE_iff _).2 (by simp [left]; omega)⟩
  · rw [if_neg (by omega), if_pos (by omega)] at h ⊢
    have := n2 (by omega)
    split at h
    · simp at h
    · split at h
      · simp at h
      · rename_i h1 h2
        rw [if_neg h1, if_neg h2, if_pos k]
        exact ⟨rfl, rfl, by simp, by simp, by simp; omega, by simp, by simp [k]; omega, (lotE_iff _).2 (by simp [left]; omega)⟩
  · rw [if_neg (by omega), if_pos (by omega)] at h ⊢
    have := n2 (by omega)
    split at h
    · simp at h
    · split at h
      · simp at h
      · rename_i h1 h2
        rw [if_neg h1, if_neg h2, if_neg (by omega)]
        exact ⟨rfl, rfl, by simp, by simp, by simp, by simp; omega, by simp [k]; omega, (lotE_iff _).2 (by simp [left]; omega)⟩
  · rw [if_neg (by omega), if_neg (by omega), if_pos k] at h ⊢
    split at h
    · simp at h
    · split at h
      · simp at h
      · rename_i h1 h2
        rw [if_neg h1, if_neg h2]
        exact ⟨rfl, rfl, by simp; omega, by simp, by simp, by simp, by simp [k], (lotE_iff _).2 (by simp [left]; omega)⟩
  · rw [if_neg (by omega), if_neg (by omega), if_neg (by omega)] at h ⊢
    split at h
    · simp at h
    · split at h
      · simp at h
      · rename_i h1 h2
        rw [if_neg h1, if_neg h2]
        exact ⟨rfl, rfl, by simp; omega, by simp, by simp, by simp, by simp [k], (lotE_iff _).2 (by simp [left]; omega)⟩

/-- A register behind an entry, and the number of the error. -/
def doneL (l : List Lt) (x : En) : List Lt × Int :=
  if x.k = 0 then if has l x.lot = true then ([], 7) else if l.length = 256 then ([], 5) else (l.take (pos l x.lot) ++ newLot x :: l.drop (pos l x.lot), 0)
  else match l[pos l x.lot]? with
    | some a => if has l x.lot = true then (if (changed a x).2 ≠ 0 then ([], (changed a x).2) else (l.set (pos l x.lot) (changed a x).1, 0)) else ([], 6)
    | none => ([], 6)
def doL (l : List Lt) (x : En) : List Lt × Int := if chkE l ≠ 0 then ([], chkE l) else if rightE x ≠ 0 then ([], rightE x) else doneL l x
def allF : List Lt → Nat → List En → List Lt × Int × Int
  | out, _, [] => (out, 0, 0)
  | out, i, x :: xs => if rightE x ≠ 0 then ([], i, rightE x) else if (doneL out x).2 ≠ 0 then ([], i, (doneL out x).2) else allF (doneL out x).1 (i + 1) xs
def allL (l : List En) : List Lt × Int × Int := if 4096 < l.length then ([], 0, 5) else allF [] 0 l

def look (l : List Lt) (nm : Txt) : Option Lt := l.find? fun x => x.nm == nm
theorem look_none {l : List Lt} {nm : Txt} (h : has l nm = false) : look l nm = none := by
  unfold look; unfold has at h; rw [List.find?_eq_none]; intro x hx; rw [List.any_eq_false] at h; exact h x hx
theorem has_look (l : List Lt) (nm : Txt) : has l nm = (look l nm).isSome := by
  unfold has look; rw [Bool.eq_iff_iff, List.find?_isSome, List.any_eq_true]
theorem look_nm {l : List Lt} {nm : Txt} {a : Lt} (h : look l nm = some a) : a.nm = nm ∧ a ∈ l := by
  unfold look at h
  exact ⟨by simpa using List.find?_some h, List.mem_of_find?_eq_some h⟩
theorem look_mem {l : List Lt} {a : Lt} (hs : Srt l) (h : a ∈ l) : look l a.nm = some a := by
  induction l with
  | nil => cases h
  | cons x xs ih =>
    rw [srt_cons] at hs
    unfold look
    rw [List.find?_cons]
    rcases List.mem_cons.1 h with rfl | h
    · simp
    · have := less_ne (hs.1 a h)
      rw [show (x.nm == a.nm) = false by simpa using this]
      exact ih hs.2 h
theorem look_some {l : List Lt} (hs : Srt l) {nm : Txt} (h : has l nm = true) : ∃ h : pos l nm < l.length, l[pos l nm].nm = nm ∧ look l nm = some l[pos l nm] := by
  obtain ⟨h1, h2⟩ := (has_pos hs).1 h
  refine ⟨h1, h2, ?_⟩
  have := look_mem hs (List.getElem_mem h1)
  rwa [h2] at this
theorem ext_look {a b : List Lt} (ha : Srt a) (hb : Srt b) (h : ∀ nm, look a nm = look b nm) : a = b := by
  induction a generalizing b with
  | nil =>
    cases b with
    | nil => rfl
    | cons y ys => have := h y.nm; rw [look_mem hb (by simp)] at this; cases this
  | cons x xs ih =>
    cases b with
    | nil => have := h x.nm; rw [look_mem ha (by simp)] at this; cases this
    | cons y ys =>
      have mx := h x.nm
      rw [look_mem ha (by simp)] at mx
      have my := h y.nm
      rw [look_mem hb (by simp)] at my
      have m1 := (look_nm mx.symm).2
      have m2 := (look_nm my).2
      have ha' := srt_cons.1 ha
      have hb' := srt_cons.1 hb
      have e : x = y := by
        rcases List.mem_cons.1 m1 with e | m1
        · exact e
        · rcases List.mem_cons.1 m2 with e | m2
          · exact e.symm
          · have := less_trans (ha'.1 y m2) (hb'.1 x m1)
            rw [less_irrefl] at this; cases this
      subst e
      rw [ih ha'.2 hb'.2 fun nm => ?_]
      have := h nm
      unfold look at this ⊢
      rw [List.find?_cons, List.find?_cons] at this
      by_cases k : x.nm = nm
      · subst k
        have n1 : has xs x.nm = false := by
          cases q : has xs x.nm with
          | false => rfl
          | true => obtain ⟨z, hz, e⟩ := (has_iff _ _).1 q; have := less_ne (ha'.1 z hz); exact absurd e.symm this
        have n2 : has ys x.nm = false := by
          cases q : has ys x.nm with
          | false => rfl
          | true => obtain ⟨z, hz, e⟩ := (has_iff _ _).1 q; have := less_ne (hb'.1 z hz); exact absurd e.symm this
        have q1 := look_none n1
        have q2 := look_none n2
        unfold look at q1 q2
        rw [q1, q2]
      · rw [show (x.nm == nm) = false by simpa using k] at this
        exact this
/-- What the entry makes of a lot (none: a new one), and the number of the error. -/
def made (o : Option Lt) (x : En) (full : Bool) : Lt × Int :=
  if x.k = 0 then (newLot x, if o.isSome then 7 else if full then 5 else 0) else match o with | some a => changed a x | none => (newLot x, 6)
theorem take_lt {l : List Lt} (hs : Srt l) {nm : Txt} {x : Lt} (h : x ∈ l.take (pos l nm)) : bytesLess x.nm nm = true := by
  obtain ⟨i, hi, rfl⟩ := List.getElem_of_mem h
  have hp := pos_le l nm
  rw [List.length_take] at hi
  rw [List.getElem_take]
  exact (pos_lt hs (by omega)).2 (by omega)
theorem drop_gt {l : List Lt} (hs : Srt l) {nm : Txt} (hn : has l nm = false) {x : Lt} (h : x ∈ l.drop (pos l nm)) : bytesLess nm x.nm = true := by
  obtain ⟨i, hi, rfl⟩ := List.getElem_of_mem h
  rw [List.length_drop] at hi
  rw [List.getElem_drop]
  refine less_tri ?_ ?_
  · intro e
    have : has l nm = true := (has_iff _ _).2 ⟨_, List.getElem_mem _, e⟩
    rw [hn] at this; cases this
  · have := pos_lt (nm := nm) hs (h := pos l nm + i) (by omega)
    cases q : bytesLess l[pos l nm + i].nm nm with
    | false => rfl
    | true => have := this.1 q; omega
theorem ins_srt {l : List Lt} (hs : Srt l) {a : Lt} (hn : has l a.nm = false) : Srt (l.take (pos l a.nm) ++ a :: l.drop (pos l a.nm)) := by
  refine List.pairwise_append.2 ⟨hs.sublist (List.take_sublist _ _), List.pairwise_cons.2 ⟨fun y hy => drop_gt hs hn hy, hs.sublist (List.drop_sublist _ _)⟩, ?_⟩
  intro x hx y hy
  have h1 := take_lt hs hx
  rcases List.mem_cons.1 hy with rfl | hy
  · exact h1
  · exact less_trans h1 (drop_gt hs hn hy)
theorem look_ins {l : List Lt} (hs : Srt l) {a : Lt} (hn : has l a.nm = false) (nm : Txt) : look (l.take (pos l a.nm) ++ a :: l.drop (pos l a.nm)) nm = if nm = a.nm then some a else look l nm := by
  split
  · rename_i h; subst h
    exact look_mem (ins_srt hs hn) (by simp)
  · rename_i h
    have : look l nm = look (l.take (pos l a.nm) ++ l.drop (pos l a.nm)) nm := by rw [List.take_append_drop]
    rw [this]
    unfold look
    rw [List.find?_append, List.find?_append, List.find?_cons, show (a.nm == nm) = false by simpa using fun e => h e.symm]
theorem set_srt {l : List Lt} (hs : Srt l) {i : Nat} (hi : i < l.length) {b : Lt} (hb : b.nm = l[i].nm) : Srt (l.set i b) := by
  rw [Srt, List.pairwise_iff_getElem]
  intro p q hp hq hpq
  rw [List.length_set] at hp hq
  have key : ∀ j (hj : j < (l.set i b).length), (l.set i b)[j].nm = (l[j]'(by simpa using hj)).nm := by
    intro j hj
    rw [List.getElem_set]
    split
    · rename_i e; subst e; exact hb
    · rfl
  rw [key, key]
  exact List.pairwise_iff_getElem.1 hs _ _ hp hq hpq
theorem look_set {l : List Lt} (hs : Srt l) {i : Nat} (hi : i < l.length) {b : Lt} (hb : b.nm = l[i].nm) (nm : Txt) : look (l.set i b) nm = if nm = b.nm then some b else look l nm := by
  split
  · rename_i h; subst h
    exact look_mem (set_srt hs hi hb) (List.mem_of_getElem? (by rw [List.getElem?_set_self hi]))
  · rename_i h
    have hne : nm ≠ l[i].nm := by rwa [← hb]
    unfold look
    rw [List.set_eq_take_append_cons_drop, if_pos hi]
    conv => rhs; rw [show l = l.take i ++ l[i] :: l.drop (i + 1) by rw [← List.drop_eq_getElem_cons hi, List.take_append_drop]]
    rw [List.find?_append, List.find?_append, List.find?_cons, List.find?_cons, show (b.nm == nm) = false by simpa using fun e => h e.symm,
      show (l[i].nm == nm) = false by simpa using fun e => hne e.symm]
theorem chk_srt {l : List Lt} (h : chkE l = 0) : Srt l := ((chkE_iff l).1 h).2.2
theorem chk_mem {l : List Lt} (h : chkE l = 0) {a : Lt} (ha : a ∈ l) : nameE a.nm = 0 ∧ lotE a = 0 := ((chkE_iff l).1 h).2.1 a ha
theorem made_nm {l : List Lt} {x : En} {f : Bool} (hx : rightE x = 0) (hl : chkE l = 0) (h : (made (look l x.lot) x f).2 = 0) : (made (look l x.lot) x f).1.nm = x.lot := by
  unfold made at h ⊢
  by_cases k : x.k = 0
  · rw [if_pos k]; rfl
  · rw [if_neg k] at h ⊢
    cases e : look l x.lot with
    | none => rfl
    | some a =>
      rw [e] at h
      have := look_nm e
      simp only at h ⊢
      rw [(changed_ok (chk_mem hl this.2).2 hx k h).nm, this.1]
/-- The number of the error, by the lot alone. -/
theorem done_err {l : List Lt} {x : En} (hl : chkE l = 0) : (doneL l x).2 = (made (look l x.lot) x (decide (l.length = 256))).2 := by
  have hs := chk_srt hl
  unfold doneL made
  by_cases k : x.k = 0
  · rw [if_pos k, if_pos k, has_look]
    by_cases h : (look l x.lot).isSome = true
    · rw [if_pos h, if_pos h]
    · rw [if_neg h, if_neg h]
      by_cases h2 : l.length = 256
      · rw [if_pos h2, if_pos (decide_eq_true h2)]
      · rw [if_neg h2, if_neg (by simpa using h2)]
  · rw [if_neg k, if_neg k]
    cases h : has l x.lot with
    | true =>
      obtain ⟨h1, h2, h3⟩ := look_some hs h
      rw [List.getElem?_eq_getElem h1, h3]
      simp only [if_true]
      split
      · rfl
      · rename_i q; exact (Decidable.not_not.1 q).symm
    | false =>
      rw [look_none h]
      cases l[pos l x.lot]? <;> rfl
theorem done_nil {l : List Lt} {x : En} (h : (doneL l x).2 ≠ 0) : (doneL l x).1 = [] := by
  unfold doneL at h ⊢
  by_cases k : x.k = 0
  · rw [if_pos k] at h ⊢
    split
    · rfl
    · rename_i h1; rw [if_neg h1] at h
      split
      · rfl
      · rename_i h2; rw [if_neg h2] at h; exact absurd rfl h
  · rw [if_neg k] at h ⊢
    cases e : l[pos l x.lot]? with
    | none => rfl
    | some a =>
      rw [e] at h
      simp only at h ⊢
      split
      · rename_i h1
        rw [if_pos h1] at h
        split
        · rfl
        · rename_i h2; rw [if_neg h2] at h; exact absurd rfl h
      · rfl
/-- What a register becomes. -/
theorem done_ok {l : List Lt} {x : En} (hl : chkE l = 0) (hx : rightE x = 0) (h : (doneL l x).2 = 0) :
    chkE (doneL l x).1 = 0 ∧ (∀ nm, look (doneL l x).1 nm = if nm = x.lot then some (made (look l x.lot) x false).1 else look l nm) ∧
    (doneL l x).1.length = l.length + (if (look l x.lot).isSome then 0 else 1) ∧ (made (look l x.lot) x false).2 = 0 := by
  have hs := chk_srt hl
  obtain ⟨hn, hm, -⟩ := (chkE_iff l).1 hl
  have he := done_err (x := x) hl
  unfold doneL at h ⊢
  by_cases k : x.k = 0
  · have hx' := (rightE_iff x).1 hx
    have hx2 := hx'.2.2.2 (by omega)
    simp only [if_pos k] at h ⊢
    cases hh : has l x.lot with
    | true => rw [hh] at h; simp at h
    | false =>
      rw [hh] at h
      simp only [Bool.false_eq_true, if_false] at h ⊢
      split at h
      · simp at h
      · rename_i h256
        rw [if_neg h256]
        have hnw : (newLot x).nm = x.lot := rfl
        have e1 : made (look l x.lot) x false = (newLot x, 0) := by unfold made; rw [if_pos k, look_none hh]; rfl
        have hsz : (newLot x).sz = x.n := rfl
        refine ⟨(chkE_iff _).2 ⟨?_, ?_, ins_srt (a := newLot x) hs hh⟩, fun nm => ?_, ?_, by rw [e1]⟩
        · simp only [List.length_append, List.length_cons, List.length_take, List.length_drop]; have := pos_le l x.lot; omega
        · intro y hy
          rcases List.mem_append.1 hy with hy | hy
          · exact hm y (List.mem_of_mem_take hy)
          · rcases List.mem_cons.1 hy with rfl | hy
            · refine ⟨hx'.2.1, (lotE_iff _).2 ?_⟩
              show (1 ≤ x.n ∧ x.n ≤ 1048576) ∧ ((0 : Int) ≤ 0 ∧ 0 ≤ x.n) ∧ ((0 : Int) ≤ 0 ∧ 0 ≤ x.n) ∧ ((0 : Int) ≤ 0 ∧ 0 ≤ x.n) ∧ ((0 : Int) ≤ 0 ∧ 0 ≤ x.n) ∧ ((0 : Int) ≤ 0 ∧ (0 : Int) ≤ 2) ∧ 0 ≤ x.n - 0 - 0 - 0 - 0 ∧ ((0 : Int) = 0 ∨ x.n - 0 - 0 - 0 - 0 ≤ 0) ∧ ((0 : Int) ≠ 2 ∨ (0 : Int) ≤ 0)
              omega
            · exact hm y (List.mem_of_mem_drop hy)
        · rw [e1]; exact look_ins (a := newLot x) hs hh nm
        · rw [look_none hh]
          simp only [List.length_append, List.length_cons, List.length_take, List.length_drop]; have := pos_le l x.lot; simp; omega
  · simp only [if_neg k] at h ⊢
    cases hh : has l x.lot with
    | false => rw [hh] at h; cases e : l[pos l x.lot]? <;> (rw [e] at h; simp at h)
    | true =>
      obtain ⟨h1, h2, h3⟩ := look_some hs hh
      rw [List.getElem?_eq_getElem h1, hh] at h
      rw [List.getElem?_eq_getElem h1]
      simp only [if_true] at h ⊢
      split at h
      · rename_i q; exact absurd h q
      · rename_i q
        rw [if_neg q]
        have q := Decidable.not_not.1 q
        have ha := hm _ (List.getElem_mem h1)
        have hc := changed_ok ha.2 hx k q
        have e1 : made (look l x.lot) x false = changed l[pos l x.lot] x := by unfold made; rw [if_neg k, h3]
        refine ⟨(chkE_iff _).2 ⟨by simpa using hn, ?_, set_srt hs h1 hc.nm⟩, fun nm => ?_, ?_, by rw [e1]; exact q⟩
        · intro y hy
          rcases List.mem_or_eq_of_mem_set hy with hy | rfl
          · exact hm y hy
          · exact ⟨by rw [hc.nm]; exact ha.1, hc.ok⟩
        · rw [e1, look_set hs h1 hc.nm nm, hc.nm, h2]
        · rw [h3]; simp
/-- TWO ENTRIES OF DIFFERENT LOTS MAY BE EXCHANGED. -/
theorem swap_ok {l : List Lt} {x y : En} (hl : chkE l = 0) (hx : rightE x = 0) (hy : rightE y = 0) (hne : x.lot ≠ y.lot) (h20 : l.length ≤ 20) (h : (doneL l x).2 = 0) :
    ((doneL (doneL l x).1 y).2 = (doneL l y).2) ∧ ((doneL l y).2 = 0 → (doneL (doneL l y).1 x).2 = 0 ∧ (doneL (doneL l x).1 y).1 = (doneL (doneL l y).1 x).1) := by
  obtain ⟨a1, a2, a3, a4⟩ := done_ok hl hx h
  have b1 := done_err (x := y) a1
  have b2 := done_err (x := y) hl
  have b3 : (made (look (doneL l x).1 y.lot) y (decide ((doneL l x).1.length = 256))).2 = (made (look l y.lot) y (decide (l.length = 256))).2 := by
    rw [a2 y.lot, if_neg (Ne.symm hne)]
    have e1 : decide ((doneL l x).1.length = 256) = false := by
      rw [decide_eq_false_iff_not, a3]; split <;> omega
    have e2 : decide (l.length = 256) = false := by rw [decide_eq_false_iff_not]; omega
    rw [e1, e2]
  have b4 : (doneL (doneL l x).1 y).2 = (doneL l y).2 := by rw [b1, b2, b3]
  refine ⟨b4, fun h2 => ?_⟩
  obtain ⟨c1, c2, c3, c4⟩ := done_ok hl hy h2
  have d1 : (doneL (doneL l y).1 x).2 = 0 := by
    rw [done_err c1, c2 x.lot, if_neg hne]
    have e1 : decide ((doneL l y).1.length = 256) = false := by
      rw [decide_eq_false_iff_not, c3]; split <;> omega
    rw [e1]; exact a4
  refine ⟨d1, ?_⟩
  obtain ⟨p1, p2, -, -⟩ := done_ok a1 hy (b4.trans h2)
  obtain ⟨q1, q2, -, -⟩ := done_ok c1 hx d1
  refine ext_look (chk_srt p1) (chk_srt q1) fun nm => ?_
  rw [p2, q2, a2 nm, c2 nm, a2 y.lot, c2 x.lot, if_neg (Ne.symm hne), if_neg hne]
  by_cases e1 : nm = y.lot
  · rw [if_pos e1, if_pos e1, if_neg (fun q => hne (q.symm.trans e1))]
  · rw [if_neg e1, if_neg e1]
/-- All entries: the register is always right. -/
theorem allF_ok : ∀ {es : List En} {l : List Lt} {i : Nat}, chkE l = 0 → chkE (allF l i es).1 = 0
  | [], _, _, h => h
  | x :: xs, l, i, h => by
    unfold allF
    split
    · rfl
    · rename_i h1
      split
      · rfl
      · rename_i h2
        exact allF_ok (done_ok h (Decidable.not_not.1 h1) (Decidable.not_not.1 h2)).1
/-- NO ENTRY LOSES OR MAKES A PART. -/
theorem keep_none {l : List Lt} {x : En} (hl : chkE l = 0) (hx : rightE x = 0) (h : (doneL l x).2 = 0) {a : Lt} (ha : a ∈ (doneL l x).1) (hn : look l a.nm = none) : x.k = 0 ∧ a = newLot x := by
  obtain ⟨h1, h2, -, h4⟩ := done_ok hl hx h
  have e := look_mem (chk_srt h1) ha
  rw [h2] at e
  split at e
  · rename_i q
    rw [q] at hn
    unfold made at e h4
    rw [hn] at e h4
    by_cases k : x.k = 0
    · rw [if_pos k] at e; exact ⟨k, (Option.some.inj e).symm⟩
    · rw [if_neg k] at h4; simp at h4
  · rw [hn] at e; cases e
theorem keep_some {l : List Lt} {x : En} (hl : chkE l = 0) (hx : rightE x = 0) (h : (doneL l x).2 = 0) {a b : Lt} (ha : a ∈ (doneL l x).1) (hn : look l a.nm = some b) :
    (a.nm ≠ x.lot → a = b) ∧ a.sz = b.sz ∧ b.st ≤ a.st ∧ b.gd ≤ a.gd ∧ b.cn ≤ a.cn ∧ b.sc ≤ a.sc ∧
    a.gd + a.bd + a.cn + a.sc = b.gd + b.bd + b.cn + b.sc + (if a.nm = x.lot ∧ (x.k = 1 ∨ x.k = 2) then x.n else 0) := by
  obtain ⟨h1, h2, -, h4⟩ := done_ok hl hx h
  have e := look_mem (chk_srt h1) ha
  rw [h2] at e
  split at e
  · rename_i q
    rw [q] at hn
    unfold made at e h4
    rw [hn] at e h4
    by_cases k : x.k = 0
    · rw [if_pos k] at h4; simp at h4
    · rw [if_neg k] at e h4
      have c := changed_ok (chk_mem hl (look_nm hn).2).2 hx k h4
      obtain rfl : (changed b x).1 = a := Option.some.inj e
      refine ⟨fun n => absurd q n, c.sz, c.st, c.gd, c.cn, c.sc, ?_⟩
      have := c.sum
      by_cases kk : x.k = 1 ∨ x.k = 2
      · rw [if_pos ⟨q, kk⟩]; rw [if_pos kk] at this; exact this
      · rw [if_neg (fun w => kk w.2)]; rw [if_neg kk] at this; exact this
  · rename_i q
    rw [hn] at e
    obtain rfl : b = a := Option.some.inj e
    refine ⟨fun _ => rfl, rfl, Int.le_refl _, Int.le_refl _, Int.le_refl _, Int.le_refl _, ?_⟩
    rw [if_neg (fun w => q w.1)]; omega
end Rg
/- REGISTERS OF LOTS: texts of entries: plain laws. -/
namespace Rg
open Go Go.Op Go.Lib

/-! ### Texts and their words -/
def sp : Txt → List Txt
  | [] => [[]]
  | c :: cs => if c = 32 then [] :: sp cs else match sp cs with | w :: ws => (c :: w) :: ws | [] => [[c]]
def jn : List Txt → Txt
  | [] => []
  | [w] => w
  | w :: ws => w ++ 32 :: jn ws
theorem sp_ne (s : Txt) : sp s ≠ [] := by
  cases s with
  | nil => simp [sp]
  | cons c cs =>
    unfold sp
    split
    · simp
    · split <;> simp
theorem jn_cons {w : Txt} {ws : List Txt} (h : ws ≠ []) : jn (w :: ws) = w ++ 32 :: jn ws := by
  cases ws with
  | nil => exact absurd rfl h
  | cons => rfl
theorem sp_word {w : Txt} (h : (32 : UInt8) ∉ w) : sp w = [w] := by
  induction w with
  | nil => rfl
  | cons c cs ih =>
    simp only [List.mem_cons, not_or] at h
    unfold sp
    rw [if_neg (Ne.symm h.1), ih h.2]
theorem sp_append {w : Txt} (h : (32 : UInt8) ∉ w) (s : Txt) : sp (w ++ 32 :: s) = w :: sp s := by
  induction w with
  | nil => simp [sp]
  | cons c cs ih =>
    simp only [List.mem_cons, not_or] at h
    rw [List.cons_append]
    rw [sp, if_neg (Ne.symm h.1), ih h.2]
theorem sp_jn : ∀ {ws : List Txt}, ws ≠ [] → (∀ w ∈ ws, (32 : UInt8) ∉ w) → sp (jn ws) = ws
  | [], h, _ => absurd rfl h
  | [w], _, h => sp_word (h w (by simp))
  | w :: v :: ws, _, h => by
    rw [jn_cons (by simp), sp_append (h w (by simp)), sp_jn (by simp) (fun x hx => h x (List.mem_cons_of_mem _ hx))]
theorem jn_sp (s : Txt) : jn (sp s) = s := by
  induction s with
  | nil => rfl
  | cons c cs ih =>
    unfold sp
    split
    · rename_i h; rw [jn_cons (sp_ne cs), ih, h]; rfl
    · cases e : sp cs with
      | nil => exact absurd e (sp_ne cs)
      | cons w ws =>
        rw [e] at ih
        simp only
        cases ws with
        | nil => simp only [jn] at ih ⊢; rw [ih]
        | cons v vs => rw [jn_cons (by simp)] at ih ⊢; rw [List.cons_append, ih]
theorem sp_32 : ∀ (s : Txt), ∀ w ∈ sp s, (32 : UInt8) ∉ w
  | [], w, hw => by simp [sp] at hw; simp [hw]
  | c :: cs, w, hw => by
    have ih := sp_32 cs
    unfold sp at hw
    split at hw
    · rcases List.mem_cons.1 hw with rfl | hw
      · simp
      · exact ih w hw
    · rename_i hc
      cases e : sp cs with
      | nil => exact absurd e (sp_ne cs)
      | cons v vs =>
        rw [e] at hw ih
        simp only at hw
        rcases List.mem_cons.1 hw with rfl | hw
        · have := ih v (by simp)
          simp [this]; exact fun q => hc q.symm
        · exact ih w (List.mem_cons_of_mem _ hw)
theorem sp_inj {a b : Txt} (h : sp a = sp b) : a = b := by rw [← jn_sp a, h, jn_sp]

/-! ### The texts of entries -/
def words : List Txt := [[111, 112, 101, 110], [112, 97, 115, 115], [114, 101, 106, 101, 99, 116], [99, 111, 110, 99, 101, 100, 101], [115, 99, 114, 97, 112], [99, 108, 111, 115, 101], [115, 104, 105, 112]]
def wordK (k : Int) : Txt := words.getD k.toNat []
/-- The text of a right entry. -/
def writ (x : En) : Txt := if 5 ≤ x.k then wordK x.k ++ 32 :: x.lot else wordK x.k ++ 32 :: (x.lot ++ 32 :: itoa x.n)
def textL (x : En) : Txt × Int := if rightE x ≠ 0 then ([], rightE x) else (writ x, 0)
/-- The kind with a word, or -1. -/
def kindF (w : Txt) : List Txt → Nat → Int
  | [], _ => -1
  | v :: vs, i => if v = w then (i : Int) else kindF w vs (i + 1)
def kindW (w : Txt) : Int := kindF w words 0
/-- The entry that the words of a text make, a count being read somehow. -/
def wordsE (num : Txt → Int) (ws : List Txt) : En := ⟨kindW (ws.headD []), (ws.drop 1).headD [], ((ws.drop 2).head?.map num).getD 0⟩
def readL (num : Txt → Int) (s : Txt) : En × Int :=
  if 4096 < s.length then (⟨0, [], 0⟩, 17) else if (textL (wordsE num (sp s))).2 = 0 ∧ (textL (wordsE num (sp s))).1 = s then (wordsE num (sp s), 0) else (⟨0, [], 0⟩, 4)
theorem word_32 (k : Int) : (32 : UInt8) ∉ wordK k := by
  unfold wordK
  match k.toNat with
  | 0 => decide
  | 1 => decide
  | 2 => decide
  | 3 => decide
  | 4 => decide
  | 5 => decide
  | 6 => decide
  | n + 7 => simp [words]
theorem kind_word {k : Int} (h0 : 0 ≤ k) (h6 : k ≤ 6) : kindW (wordK k) = k := by
  have : k = 0 ∨ k = 1 ∨ k = 2 ∨ k = 3 ∨ k = 4 ∨ k = 5 ∨ k = 6 := by omega
  rcases this with rfl | rfl | rfl | rfl | rfl | rfl | rfl <;> decide
theorem name_32 {s : Txt} (h : nameE s = 0) : (32 : UInt8) ∉ s := by
  unfold nameE at h
  split at h
  · cases h
  · split at h
    · rename_i q
      intro hm
      have := List.all_eq_true.1 q.2 _ hm
      revert this; decide
    · cases h
theorem name_len {s : Txt} (h : nameE s = 0) : s.length ≤ 24 := by
  unfold nameE at h
  split at h
  · cases h
  · omega
theorem dec_digits : ∀ (n : Nat), ∀ c ∈ decDigits n, 48 ≤ c.toNat ∧ c.toNat ≤ 57 := by
  intro n
  induction n using Nat.strongRecOn with
  | _ n ih =>
    intro c hc
    rw [decDigits] at hc
    split at hc
    · simp only [List.mem_singleton] at hc
      rw [hc, UInt8.toNat_ofNat']; omega
    · rcases List.mem_append.1 hc with hc | hc
      · exact ih _ (by omega) c hc
      · simp only [List.mem_singleton] at hc
        rw [hc, UInt8.toNat_ofNat']; omega
theorem itoa_32 (n : Int) : (32 : UInt8) ∉ itoa n := by
  intro h
  unfold itoa at h
  split at h
  · rcases List.mem_cons.1 h with h | h
    · revert h; decide
    · have := dec_digits _ _ h; revert this; decide
  · have := dec_digits _ _ h; revert this; decide
theorem sp_writ {x : En} (h : rightE x = 0) : sp (writ x) = if 5 ≤ x.k then [wordK x.k, x.lot] else [wordK x.k, x.lot, itoa x.n] := by
  have hn := name_32 ((rightE_iff x).1 h).2.1
  unfold writ
  split
  · rw [sp_append (word_32 _), sp_word hn]
  · rw [sp_append (word_32 _), sp_append hn, sp_word (itoa_32 _)]
/-- How a count is read is of no matter, as long as right counts are. -/
def Reads (num : Txt → Int) : Prop := ∀ n : Int, 1 ≤ n → n ≤ 1048576 → num (itoa n) = n
theorem wordsE_writ {num : Txt → Int} (hnum : Reads num) {x : En} (h : rightE x = 0) : wordsE num (sp (writ x)) = x := by
  have hr := (rightE_iff x).1 h
  rw [sp_writ h]
  have e1 := kind_word hr.1.1 hr.1.2
  split
  · rename_i k
    obtain ⟨a, b, c⟩ := x
    simp only at e1 k hr
    simp [wordsE, e1]; exact (hr.2.2.1 k).symm
  · rename_i k
    obtain ⟨a, b, c⟩ := x
    simp only at e1 k hr
    have := hr.2.2.2 (by omega)
    simp [wordsE, e1]; exact hnum c this.1 this.2
theorem textL_ok {x : En} : (textL x).2 = 0 ↔ rightE x = 0 := by
  unfold textL; split
  · rename_i h; exact ⟨fun q => absurd q h, fun q => absurd q h⟩
  · rename_i h; simp [Decidable.not_not.1 h]
theorem textL_1 {x : En} (h : rightE x = 0) : (textL x).1 = writ x := by unfold textL; rw [if_neg (Decidable.not_not.2 h)]
theorem wordsE_same {p q : Txt → Int} (hq : Reads q) {s : Txt} (h2 : (textL (wordsE p (sp s))).2 = 0) (h1 : (textL (wordsE p (sp s))).1 = s) : wordsE q (sp s) = wordsE p (sp s) := by
  have hr := textL_ok.1 h2
  rw [textL_1 hr] at h1
  have e := wordsE_writ hq hr
  rwa [h1] at e
theorem read_same {p q : Txt → Int} (hp : Reads p) (hq : Reads q) (s : Txt) : readL p s = readL q s := by
  unfold readL
  split
  · rfl
  · by_cases h : (textL (wordsE p (sp s))).2 = 0 ∧ (textL (wordsE p (sp s))).1 = s
    · rw [if_pos h, wordsE_same hq h.1 h.2, if_pos h]
    · rw [if_neg h]
      by_cases k : (textL (wordsE q (sp s))).2 = 0 ∧ (textL (wordsE q (sp s))).1 = s
      · rw [wordsE_same hp k.1 k.2] at h; exact absurd k h
      · rw [if_neg k]
theorem dec_len : ∀ (j n : Nat), 1 ≤ j → n < 10 ^ j → (decDigits n).length ≤ j
  | 0, _, h, _ => by omega
  | j + 1, n, _, h => by
    rw [decDigits]
    split
    · simp
    · rename_i h10
      rw [List.length_append]
      cases j with
      | zero => omega
      | succ j =>
        have := dec_len (j + 1) (n / 10) (by omega) (by rw [Nat.pow_succ] at h; omega)
        simp only [List.length_singleton]; omega
theorem writ_len {x : En} (h : rightE x = 0) : (writ x).length ≤ 40 := by
  have hr := (rightE_iff x).1 h
  have h1 := name_len hr.2.1
  have h2 : (wordK x.k).length ≤ 7 := by
    unfold wordK
    match x.k.toNat with
    | 0 => decide
    | 1 => decide
    | 2 => decide
    | 3 => decide
    | 4 => decide
    | 5 => decide
    | 6 => decide
    | n + 7 => simp [words]
  unfold writ
  split
  · simp only [List.length_append, List.length_cons]; omega
  · rename_i k
    have h3 := hr.2.2.2 (by omega)
    have h4 : (itoa x.n).length ≤ 7 := by
      unfold itoa
      rw [if_neg (by omega)]
      exact dec_len 7 _ (by omega) (by omega)
    simp only [List.length_append, List.length_cons]; omega
/-- THE TEXTS OF ENTRIES ARE READ BACK. -/
theorem read_back {num : Txt → Int} (hnum : Reads num) {x : En} (h : rightE x = 0) : readL num (writ x) = (x, 0) := by
  have := writ_len h
  unfold readL
  rw [if_neg (by omega), wordsE_writ hnum h, if_pos ⟨textL_ok.2 h, textL_1 h⟩]
theorem read_ok {num : Txt → Int} {s : Txt} (h : (readL num s).2 = 0) : rightE (readL num s).1 = 0 ∧ writ (readL num s).1 = s := by
  unfold readL at h ⊢
  split at h
  · simp at h
  · rename_i h1
    split at h
    · rename_i h2
      rw [if_neg h1, if_pos h2]
      have := textL_ok.1 h2.1
      exact ⟨this, by rw [← textL_1 this]; exact h2.2⟩
    · simp at h
end Rg
