/- THE REFERENCE's RATIONAL NUMBERS: products over a cross, sums, differences, products, quotients, the order. -/
import Derived.Test.YtcdjhgkeehhaaaaGreatDoorHC
import Derived.Test.YtcdjhgkeehhaaaaGreatDoorHB
import Derived.Test.YtcdjhgkeehhaaaaGreatDoorGL
namespace Go.Proofs.Wk
open Go.RowKit Mt

/-- A call that makes a slice of texts. -/
def NewSl (w : World) (ls : List Txt) (e : Ending) (w' : World) : Prop := ∃ b, e = .returned (.slice (some ⟨b, 0, none⟩) ls.length ls.length) ∧ RS w' b 0 ls ∧ b < w'.heap.size ∧ Below w.heap.size w w'
theorem RS.lit (w : World) (ls : List Txt) (t : TypeId) : RS (w.alloc (.cells (ls.map txt).toArray t)) w.heap.size 0 ls := by
  intro j hj
  rw [Nat.zero_add, cell_of_row _ _ j _ _ _ (heap_alloc_new w _)]
  simp [hj]
theorem allB_drop {ns : List Int} {i : Nat} (h : i < ns.length) : allB (ns.drop i) = (decide (ns[i].natAbs < big) && allB (ns.drop (i + 1))) := by
  rw [List.drop_eq_getElem_cons h]; rfl
def crossL (p q : Rat) : List Int := [p.num * q.den, q.num * p.den, p.den * q.den, p.num * q.num, p.den * q.num]
end Go.Proofs.Wk
/- THE REFERENCE's RATIONAL NUMBERS: sums, differences, products, quotients, the order. -/
namespace Go.Proofs.Wk
open Go.RowKit Mt

theorem RS.five {w : World} {b : Nat} {t1 t2 t3 t4 t5 : Txt} (h : RS w b 0 [t1, t2, t3, t4, t5]) : w.cell? ⟨b, 0, none⟩ = some (.string ⟨t1.toArray⟩) ∧ w.cell? ⟨b, 1, none⟩ = some (.string ⟨t2.toArray⟩) ∧
    w.cell? ⟨b, 2, none⟩ = some (.string ⟨t3.toArray⟩) ∧ w.cell? ⟨b, 3, none⟩ = some (.string ⟨t4.toArray⟩) ∧ w.cell? ⟨b, 4, none⟩ = some (.string ⟨t5.toArray⟩) :=
  ⟨h 0 (by simp), h 1 (by simp), h 2 (by simp), h 3 (by simp), h 4 (by simp)⟩
def NewC (w : World) (t1 t2 t3 t4 t5 : Txt) (e : Ending) (w' : World) : Prop :=
  ∃ b, e = .returned (.slice (some ⟨b, 0, none⟩) 5 5) ∧ b < w'.heap.size ∧ Below w.heap.size w w' ∧ RS w' b 0 [t1, t2, t3, t4, t5]
theorem lng_mulQ {m n : Int} {k : Nat} (hm : lng m ≤ k) (hn : lng n ≤ k) : lng (m * n) ≤ 2 * k := by have := lng_mul m n hm hn; omega
theorem den2_ne (p q : Rat) : (p.den : Int) * q.den ≠ 0 := Int.mul_ne_zero (den_ne p) (den_ne q)
theorem lng_subk {m n : Int} {k : Nat} (hm : lng m ≤ k) (hn : lng n ≤ k) : lng (m - n) ≤ k + 1 := by
  rw [Int.sub_eq_add_neg]; exact lng_add m (-n) hm (by rw [lng_neg]; exact hn)
end Go.Proofs.Wk
