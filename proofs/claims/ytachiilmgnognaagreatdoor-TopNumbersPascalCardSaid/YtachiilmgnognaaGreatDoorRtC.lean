/- THE PROGRAM's RATIONAL NUMBERS: products of several factors, sums, signs, lowest terms, each with the error kept. -/
import Derived.Test.YtachiilmgnognaaGreatDoorRtB
import Derived.Test.YtachiilmgnognaaGreatDoorRatB
namespace Go.Proofs.Wk
open Go.RowKit Mt

/-- The variables are good, and were so ahead of block g. -/
def GoodB (g : Nat) (w : World) : Prop := ∃ W, Good W ∧ W.heap.size ≤ g ∧ Below W.heap.size W w
theorem GoodB.g {g : Nat} {w : World} (h : GoodB g w) : Good w := by obtain ⟨W, h1, -, h2⟩ := h; exact h1.later h2
theorem GoodB.kept {g : Nat} {w w' : World} (h : GoodB g w) (hg : w.grownBy w' (some g)) : GoodB g w' := by
  obtain ⟨W, h1, h2, h3⟩ := h
  exact ⟨W, h1, h2, h3.trans (gb_below hg h2 h3.size)⟩
theorem GoodB.later {g : Nat} {w w' : World} (h : GoodB g w) (hg : Below w.heap.size w w') : GoodB g w' := by
  obtain ⟨W, h1, h2, h3⟩ := h
  exact ⟨W, h1, h2, h3.trans (hg.mono h3.size)⟩
theorem RS.kept {w w' : World} {b off g : Nat} {ls : List Txt} (h : RS w b off ls) (hg : w.grownBy w' (some g)) (hne : b ≠ g) : RS w' b off ls :=
  fun j hj => hg.cell (h j hj) (by simpa using hne)
theorem Sts.ret {w w' : World} {g : Nat} {s : Bool} {v : Value} {e : Ending} (h : Sts w g s v e w') {w0 : World} (h0 : w0.grownBy w (some g)) : e = .returned v ∧ St w' g s ∧ w0.grownBy w' (some g) :=
  ⟨h.1, h.2.1, gb_trans h0 h.2.2⟩
theorem kept_mul (x a : Int) (W : World) (hG : Good W) (hx : x.natAbs < big) (ha : a.natAbs < big) : Calls Tryz.prog 55 #[.string ⟨(Lib.itoa x).toArray⟩, .string ⟨(Lib.itoa a).toArray⟩] W (Ret W (ans2 (kept (x * a)))) := by
  have := wMul_c (Lib.itoa x) (Lib.itoa a) W hG (lng_txt hx) (lng_txt ha)
  rwa [bin2_itoa _ hx ha] at this
theorem kept_add (x a : Int) (W : World) (hG : Good W) (hx : x.natAbs < big) (ha : a.natAbs < big) : Calls Tryz.prog 119 #[.string ⟨(Lib.itoa x).toArray⟩, .string ⟨(Lib.itoa a).toArray⟩] W (Ret W (ans2 (kept (x + a)))) := by
  have := wAdd_c (Lib.itoa x) (Lib.itoa a) W hG (lng_txt hx) (lng_txt ha)
  rwa [bin2_itoa _ hx ha] at this
theorem kept_sub (x a : Int) (W : World) (hG : Good W) (hx : x.natAbs < big) (ha : a.natAbs < big) : Calls Tryz.prog 118 #[.string ⟨(Lib.itoa x).toArray⟩, .string ⟨(Lib.itoa a).toArray⟩] W (Ret W (ans2 (kept (x - a)))) := by
  have := wSub_c (Lib.itoa x) (Lib.itoa a) W hG (lng_txt hx) (lng_txt ha)
  rwa [bin2_itoa _ hx ha] at this

/-- A product of several factors, step by step. -/
def mulS : List Int → Int × Bool → Int × Bool
  | [], p => p
  | a :: t, p => mulS t (dk (p.1 * a) p.2)
theorem mulS_drop {ns : List Int} {i : Nat} (h : i < ns.length) (p : Int × Bool) : mulS (ns.drop i) p = mulS (ns.drop (i + 1)) (dk (p.1 * ns[i]) p.2) := by
  rw [List.drop_eq_getElem_cons h]; rfl
set_option maxRecDepth 100000 in
set_option maxHeartbeats 1000000 in
theorem mul_c (b off c g : Nat) (s : Bool) (ns : List Int) (w : World) (hs : St w g s) (hG : GoodB g w) (hR : RS w b off (ns.map Lib.itoa)) (hbg : b ≠ g) (hn : ns.length ≤ 5) (hlen : ∀ n ∈ ns, n.natAbs < big) :
    Calls Tryz.prog 67 #[.pointer (some ⟨g, 0, none⟩), .slice (some ⟨b, off, none⟩) ns.length c] w (Sts w g (mulS ns (1, s)).2 (.string ⟨(Lib.itoa (mulS ns (1, s)).1).toArray⟩)) := by
  have HS := Lib.hid hs; have HG := Lib.hid hG; have HR := Lib.hid hR; have HL := Lib.hid hlen
  obtain ⟨n, hnn⟩ : ∃ n, ns.length = n := ⟨_, rfl⟩
  rw [hnn] at hn ⊢
  have HN := Lib.hid hnn
  clear hnn hs hG hR hlen
  go_enter Tryz.func67, Tryz.ntmps67
  go_wp2_with fail
  go_loopw [5, 13] (fun so si wr => ∃ (i : Nat) (x : Int) (t : Bool), si = .int .i64 (i : Int) ∧ so = .string ⟨(Lib.itoa x).toArray⟩ ∧ i ≤ n ∧ Hid (x.natAbs < big ∧ mulS (ns.drop i) (x, t) = mulS ns (1, s) ∧ St wr g t ∧ w.grownBy wr (some g))) (fun _ si _ => n - (intOf si).toNat)
  case atStart => exact ⟨0, 1, s, rfl, by rw [itoa_one], Nat.zero_le _, by have := one_lt_big'; simpa using this, rfl, HS.out, gb_refl _ _⟩
  case round =>
    obtain ⟨i, x, t, rfl, rfl, hi, hE⟩ := hrel
    by_cases hlt : i < n
    · have hil : i < ns.length := by rw [HN.out]; exact hlt
      have hc := (HR.out.kept hE.out.2.2.2 hbg) i (by rw [List.length_map]; exact hil)
      rw [List.getElem_map] at hc
      have hd := mulS_drop hil (x, t)
      have hll := HL.out ns[i] (List.getElem_mem hil)
      obtain ⟨m, hm⟩ : ∃ m, ns[i] = m := ⟨_, rfl⟩
      rw [hm] at hc hd hll
      have HD := Lib.hid (doMul (.string ⟨(Lib.itoa x).toArray⟩) (.string ⟨(Lib.itoa m).toArray⟩) (x * m) g t wr hE.out.2.2.1 (fun _ => kept_mul x m wr (HG.out.kept hE.out.2.2.2).g hE.out.1 hll))
      have HE2 := Lib.hid (show mulS (ns.drop (i + 1)) (dk (x * m) t) = mulS ns (1, s) from by rw [← hE.out.2.1, hd])
      have HL2 := Lib.hid (dk_lng (x * m) t)
      have HK := Lib.hid hE.out.2.2.2
      clear hm hd hll hE
      obtain ⟨⟨x2, t2⟩, hp⟩ : ∃ p, dk (x * m) t = p := ⟨_, rfl⟩
      rw [hp] at HD HE2 HL2
      clear hp
      generalize Lib.itoa m = tm at *
      go_wp2_with fail
      refine HD.out.mono ?_; rintro e w2 ⟨rfl, h2, h3⟩
      have H2 := Lib.hid h2; have H3 := Lib.hid h3
      clear h2 h3
      go_wp2
      go_roundw
      case rel => exact ⟨i + 1, x2, t2, by go_num, rfl, by omega, HL2.out, HE2.out, H2.out, gb_trans HK.out H3.out⟩
      case measure => simp [intOf]; omega
    · obtain rfl : i = n := by omega
      obtain ⟨-, h2, h3, h4⟩ := hE.out
      have HE := Lib.hid (show mulS ns (1, s) = (x, t) by rw [← h2, ← HN.out, List.drop_length]; rfl)
      clear h2 hE
      have H3 := Lib.hid h3; have H4 := Lib.hid h4
      clear h3 h4
      go_wp2
      go_ret
      show Sts _ _ _ _ _ _
      rw [HE.out]
      exact ⟨rfl, H3.out, H4.out⟩
set_option maxRecDepth 100000 in
theorem add_c (x y : Int) (g : Nat) (s : Bool) (w : World) (hs : St w g s) (hG : GoodB g w) (hx : x.natAbs < big) (hy : y.natAbs < big) :
    Calls Tryz.prog 71 #[.pointer (some ⟨g, 0, none⟩), .string ⟨(Lib.itoa x).toArray⟩, .string ⟨(Lib.itoa y).toArray⟩] w (Sts w g (dk (x + y) s).2 (.string ⟨(Lib.itoa (dk (x + y) s).1).toArray⟩)) := by
  have HD := Lib.hid (doAdd (.string ⟨(Lib.itoa x).toArray⟩) (.string ⟨(Lib.itoa y).toArray⟩) (x + y) g s w hs (fun _ => kept_add x y w hG.g hx hy))
  clear hs hG hx hy
  generalize dk (x + y) s = p at *
  generalize Lib.itoa x = tx at *
  generalize Lib.itoa y = ty at *
  go_enter Tryz.func71, Tryz.ntmps71
  go_wp2_with fail
  refine HD.out.mono ?_; rintro e w2 ⟨rfl, h2, h3⟩
  go_wp2
  go_ret
  exact ⟨rfl, h2, h3⟩
set_option maxRecDepth 100000 in
theorem sub_c (x y : Int) (g : Nat) (s : Bool) (w : World) (hs : St w g s) (hG : GoodB g w) (hx : x.natAbs < big) (hy : y.natAbs < big) :
    Calls Tryz.prog 70 #[.pointer (some ⟨g, 0, none⟩), .string ⟨(Lib.itoa x).toArray⟩, .string ⟨(Lib.itoa y).toArray⟩] w (Sts w g (dk (x - y) s).2 (.string ⟨(Lib.itoa (dk (x - y) s).1).toArray⟩)) := by
  have HD := Lib.hid (doSub (.string ⟨(Lib.itoa x).toArray⟩) (.string ⟨(Lib.itoa y).toArray⟩) (x - y) g s w hs (fun _ => kept_sub x y w hG.g hx hy))
  clear hs hG hx hy
  generalize dk (x - y) s = p at *
  generalize Lib.itoa x = tx at *
  generalize Lib.itoa y = ty at *
  go_enter Tryz.func70, Tryz.ntmps70
  go_wp2_with fail
  refine HD.out.mono ?_; rintro e w2 ⟨rfl, h2, h3⟩
  go_wp2
  go_ret
  exact ⟨rfl, h2, h3⟩
end Go.Proofs.Wk
