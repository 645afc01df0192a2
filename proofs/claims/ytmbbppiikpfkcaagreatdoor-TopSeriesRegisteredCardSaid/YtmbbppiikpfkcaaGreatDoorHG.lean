/- THE PROGRAM's RATIONAL NUMBERS: the check of a text, of several, its parts. -/
import Derived.Test.YtmbbppiikpfkcaaGreatDoorHF
import Derived.Test.YtmbbppiikpfkcaaGreatDoorHC
import Derived.Test.YtmbbppiikpfkcaaGreatDoorHA
import Derived.Test.YtmbbppiikpfkcaaGreatDoorGL
import Derived.Test.YtmbbppiikpfkcaaGreatDoorHE
namespace Go.Proofs.Wk
open Go.RowKit Mt

theorem firstR_drop {ls : List Txt} {i : Nat} (h : i < ls.length) : firstR (ls.drop i) = if rchk ls[i] = 0 then firstR (ls.drop (i + 1)) else rchk ls[i] := by
  rw [List.drop_eq_getElem_cons h]; rfl
end Go.Proofs.Wk
/- THE PROGRAM's RATIONAL NUMBERS: lowest terms, what is made of two numbers. -/
namespace Go.Proofs.Wk
open Go.RowKit Mt

theorem kept_quo (m n : Int) (W : World) (hG : Good W) (hm : m.natAbs < big) (hn : n.natAbs < big) (h : n ≠ 0) : Calls Tryz.prog 121 #[.string ⟨(Lib.itoa m).toArray⟩, .string ⟨(Lib.itoa n).toArray⟩] W (Ret W (ans2 (kept (m.fdiv n)))) := by
  rw [kept_lt (Nat.lt_of_le_of_lt (fdiv_le h) hm)]
  exact quoI m n W hG (lng_big hm) (lng_big hn) h
theorem gcd_big {m n : Int} (hn : n.natAbs < big) (h : n ≠ 0) : ((Int.gcd m n : Int)).natAbs < big := by
  refine Nat.lt_of_le_of_lt ?_ hn
  have h1 : Int.gcd m n ∣ n.natAbs := by rw [Int.gcd]; exact Nat.gcd_dvd_right _ _
  have := Nat.le_of_dvd (by omega) h1
  simpa using this
theorem kept_gcd (m n : Int) (W : World) (hG : Good W) (hm : m.natAbs < big) (hn : n.natAbs < big) (h : n ≠ 0) : Calls Tryz.prog 117 #[.string ⟨(Lib.itoa m).toArray⟩, .string ⟨(Lib.itoa n).toArray⟩] W (Ret W (ans2 (kept (Int.gcd m n)))) := by
  rw [kept_lt (gcd_big hn h)]
  exact gcdI m n W hG (lng_big hm) (lng_big hn)
theorem quoS (m n : Int) (g : Nat) (W : World) (hs : St W g true) (hG : GoodB g W) (hm : m.natAbs < big) (hn : n.natAbs < big) (h : n ≠ 0) :
    Calls Tryz.prog 116 #[.pointer (some ⟨g, 0, none⟩), .func (.func 121) #[] #[], .string ⟨(Lib.itoa m).toArray⟩, .string ⟨(Lib.itoa n).toArray⟩] W (Sts W g true (.string ⟨(Lib.itoa (m.fdiv n)).toArray⟩)) := by
  have := doQuo (.string ⟨(Lib.itoa m).toArray⟩) (.string ⟨(Lib.itoa n).toArray⟩) (m.fdiv n) g true W hs (fun _ => kept_quo m n W hG.g hm hn h)
  rwa [dk_ok (Nat.lt_of_le_of_lt (fdiv_le h) hm)] at this
theorem gcdS (m n : Int) (g : Nat) (W : World) (hs : St W g true) (hG : GoodB g W) (hm : m.natAbs < big) (hn : n.natAbs < big) (h : n ≠ 0) :
    Calls Tryz.prog 116 #[.pointer (some ⟨g, 0, none⟩), .func (.func 117) #[] #[], .string ⟨(Lib.itoa m).toArray⟩, .string ⟨(Lib.itoa n).toArray⟩] W (Sts W g true (.string ⟨(Lib.itoa (Int.gcd m n)).toArray⟩)) := by
  have := doGcd (.string ⟨(Lib.itoa m).toArray⟩) (.string ⟨(Lib.itoa n).toArray⟩) (Int.gcd m n) g true W hs (fun _ => kept_gcd m n W hG.g hm hn h)
  rwa [dk_ok (gcd_big hn h)] at this
theorem pre_itoa (n : Int) : List.isPrefixOf [45] (Lib.itoa n) = decide (n < 0) := by
  have := neg_itoa n
  rw [← this]
  cases Lib.itoa n with
  | nil => rfl
  | cons c t => unfold neg; simp [List.isPrefixOf]; rw [Bool.eq_iff_iff, beq_iff_eq, beq_iff_eq]; exact eq_comm
/-- The state after a call in block g, in one fact. -/
structure Sv (w0 : World) (g : Nat) (s : Bool) (w : World) : Prop where
  st : St w g s
  gr : w0.grownBy w (some g)
  gd : GoodB g w
theorem Sv.step {w0 w w' : World} {g : Nat} {s t : Bool} (h : Sv w0 g s w) (h1 : St w' g t) (h2 : w.grownBy w' (some g)) : Sv w0 g t w' := ⟨h1, gb_trans h.gr h2, h.gd.kept h2⟩
theorem Sv.later {w0 w w' : World} {g : Nat} {s : Bool} (h : Sv w0 g s w) (hb : Below w.heap.size w w') : Sv w0 g s w' := ⟨h.st.later hb h.st.lt, gb_trans h.gr (grown_of_below hb), h.gd.later hb⟩
set_option maxRecDepth 100000 in
set_option maxHeartbeats 2000000 in
theorem lowest_c (m n : Int) (g : Nat) (w : World) (hs : St w g true) (hG : GoodB g w) (hm : m.natAbs < big) (hn : n.natAbs < big) (h0 : n ≠ 0) :
    Calls Tryz.prog 71 #[.pointer (some ⟨g, 0, none⟩), .string ⟨(Lib.itoa m).toArray⟩, .string ⟨(Lib.itoa n).toArray⟩] w (Sts w g true (.string ⟨(rtoa (Rat.divInt m n)).toArray⟩)) := by
  have S0 : Sv w g true w := ⟨hs, gb_refl _ _, hG⟩
  obtain ⟨g0, e1, e2⟩ := low_spec (m := m) h0
  have hgb : (lowG m n).natAbs < big := by
    have := gcd_big (m := m) hn h0
    unfold lowG; split
    · rw [Int.natAbs_neg]; exact this
    · exact this
  have H1 := Lib.hid (fun W (S : Sv w g true W) => gcdS m n g W S.st S.gd hm hn h0)
  have H2 := Lib.hid (fun W (S : Sv w g true W) => quoS m (lowG m n) g W S.st S.gd hm hgb g0)
  have H3 := Lib.hid (fun W (S : Sv w g true W) => quoS n (lowG m n) g W S.st S.gd hn hgb g0)
  have hx : (m.fdiv (lowG m n)).natAbs < big := Nat.lt_of_le_of_lt (fdiv_le g0) hm
  have hy : (n.fdiv (lowG m n)).natAbs < big := Nat.lt_of_le_of_lt (fdiv_le g0) hn
  have H4 := Lib.hid (fun W => joined_c (m.fdiv (lowG m n)) (n.fdiv (lowG m n)) W (by have := lng_big hx; omega) (by have := lng_big hy; omega))
  have hp := fun W => Tryz.strings_HasPrefix ⟨(Lib.itoa n).toArray⟩ ⟨#[45]⟩ W
  rw [show Lib.hasPrefix (⟨(Lib.itoa n).toArray⟩ : ByteArray).data.toList (⟨#[45]⟩ : ByteArray).data.toList = decide (n < 0) from pre_itoa n] at hp
  have h5 := fun W (S : Sv w g true W) => sub_c 0 (Int.gcd m n) g true W S.st S.gd (by have := one_lt_big'; simp; omega) (gcd_big hn h0)
  rw [itoa_zero, Int.zero_sub, dk_ok (by rw [Int.natAbs_neg]; exact gcd_big hn h0)] at h5
  rw [← ljoin h0] at H4
  have H5 := Lib.hid h5
  clear h5 e1 e2 hgb hx hy hm hn hs hG
  by_cases hneg : n < 0
  · rw [decide_eq_true hneg] at hp
    have HP := Lib.hid hp
    rw [show lowG m n = -(Int.gcd m n : Int) by unfold lowG; rw [if_pos hneg]] at H2 H3 H4
    clear hp hneg h0 g0
    generalize rtoa (Rat.divInt m n) = tr at *
    generalize (Int.gcd m n : Int) = gc at *
    generalize Lib.itoa (m.fdiv (-gc)) = tx at *
    generalize Lib.itoa (n.fdiv (-gc)) = ty at *
    generalize Lib.itoa (-gc) = tg2 at *
    generalize Lib.itoa gc = tg at *
    generalize Lib.itoa m = tm at *
    generalize Lib.itoa n = tn at *
    go_enter Tryz.func71, Tryz.ntmps71
    go_wp2_with fail
    ((with_reducible refine (H1.out _ S0).mono ?_); rintro e w1 ⟨rfl, s1, g1⟩)
    have S1 := S0.step s1 g1
    clear s1 g1
    go_wp2_with fail
    ((with_reducible refine (HP.out _).mono ?_); rintro e w' ⟨rfl, rfl⟩)
    go_wp2_with fail
    ((with_reducible refine (H5.out _ S1).mono ?_); rintro e w2 ⟨rfl, s1, g1⟩)
    have S2 := S1.step s1 g1
    clear s1 g1
    have c0 := S2.st.c0
    rw [show ecode true = 0 from rfl] at c0
    go_wp2_with fail
    ((with_reducible refine (H2.out _ S2).mono ?_); rintro e w3 ⟨rfl, s1, g1⟩)
    have S3 := S2.step s1 g1
    clear s1 g1 c0
    go_wp2_with fail
    ((with_reducible refine (H3.out _ S3).mono ?_); rintro e w4 ⟨rfl, s1, g1⟩)
    have S4 := S3.step s1 g1
    clear s1 g1
    go_wp2_with fail
    ((with_reducible refine (H4.out _).mono ?_); rintro e w' ⟨rfl, rfl⟩)
    go_wp2
    go_ret
    exact ⟨rfl, S4.st, S4.gr⟩
  · rw [decide_eq_false hneg] at hp
    have HP := Lib.hid hp
    rw [show lowG m n = (Int.gcd m n : Int) by unfold lowG; rw [if_neg hneg]] at H2 H3 H4
    clear hp hneg h0 g0
    generalize rtoa (Rat.divInt m n) = tr at *
    generalize (Int.gcd m n : Int) = gc at *
    generalize Lib.itoa (m.fdiv gc) = tx at *
    generalize Lib.itoa (n.fdiv gc) = ty at *
    generalize Lib.itoa gc = tg at *
    generalize Lib.itoa m = tm at *
    generalize Lib.itoa n = tn at *
    go_enter Tryz.func71, Tryz.ntmps71
    go_wp2_with fail
    ((with_reducible refine (H1.out _ S0).mono ?_); rintro e w1 ⟨rfl, s1, g1⟩)
    have S1 := S0.step s1 g1
    clear s1 g1
    go_wp2_with fail
    ((with_reducible refine (HP.out _).mono ?_); rintro e w' ⟨rfl, rfl⟩)
    have S2 := S1
    have c0 := S2.st.c0
    rw [show ecode true = 0 from rfl] at c0
    go_wp2_with fail
    ((with_reducible refine (H2.out _ S2).mono ?_); rintro e w3 ⟨rfl, s1, g1⟩)
    have S3 := S2.step s1 g1
    clear s1 g1 c0
    go_wp2_with fail
    ((with_reducible refine (H3.out _ S3).mono ?_); rintro e w4 ⟨rfl, s1, g1⟩)
    have S4 := S3.step s1 g1
    clear s1 g1
    go_wp2_with fail
    ((with_reducible refine (H4.out _).mono ?_); rintro e w' ⟨rfl, rfl⟩)
    go_wp2
    go_ret
    exact ⟨rfl, S4.st, S4.gr⟩
end Go.Proofs.Wk
