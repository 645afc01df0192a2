/- THE PROGRAM's ARITHMETIC AT INTEGERS: each function at the texts of integers whose results are short enough. -/
import Derived.Test.YtjljappilpkelaaGreatDoorWhU
namespace Go.Proofs.Wk
open Go.RowKit Mt

theorem lng_big2 {m : Int} (h : lng m ≤ 1024) : m.natAbs < big := lng_big_iff.1 h
theorem txt_ok {m : Int} (h : lng m ≤ 1024) : (Lib.itoa m).length ≤ 140737488355328 := lng_txt (lng_big2 h)
theorem kept_lng {m : Int} (h : lng m ≤ 1024) : kept m = (Lib.itoa m, 0) := kept_lt (lng_big2 h)
theorem addI (m n : Int) (w : World) (hg : Good w) (hm : lng m ≤ 1024) (hn : lng n ≤ 1024) (h : lng (m + n) ≤ 1024) : Calls Tryz.prog 32 #[.string ⟨(Lib.itoa m).toArray⟩, .string ⟨(Lib.itoa n).toArray⟩] w (Ret w (ans2 (Lib.itoa (m + n), 0))) := by
  have := wAdd_c (Lib.itoa m) (Lib.itoa n) w hg (txt_ok hm) (txt_ok hn)
  rwa [bin2_itoa _ (lng_big2 hm) (lng_big2 hn), kept_lng h] at this
theorem subI (m n : Int) (w : World) (hg : Good w) (hm : lng m ≤ 1024) (hn : lng n ≤ 1024) (h : lng (m - n) ≤ 1024) : Calls Tryz.prog 34 #[.string ⟨(Lib.itoa m).toArray⟩, .string ⟨(Lib.itoa n).toArray⟩] w (Ret w (ans2 (Lib.itoa (m - n), 0))) := by
  have := wSub_c (Lib.itoa m) (Lib.itoa n) w hg (txt_ok hm) (txt_ok hn)
  rwa [bin2_itoa _ (lng_big2 hm) (lng_big2 hn), kept_lng h] at this
theorem mulI (m n : Int) (w : World) (hg : Good w) (hm : lng m ≤ 1024) (hn : lng n ≤ 1024) (h : lng (m * n) ≤ 1024) : Calls Tryz.prog 10 #[.string ⟨(Lib.itoa m).toArray⟩, .string ⟨(Lib.itoa n).toArray⟩] w (Ret w (ans2 (Lib.itoa (m * n), 0))) := by
  have := wMul_c (Lib.itoa m) (Lib.itoa n) w hg (txt_ok hm) (txt_ok hn)
  rwa [bin2_itoa _ (lng_big2 hm) (lng_big2 hn), kept_lng h] at this
theorem negI (m : Int) (w : World) (hm : lng m ≤ 1024) : Calls Tryz.prog 36 #[.string ⟨(Lib.itoa m).toArray⟩] w (Ret w (ans2 (Lib.itoa (-m), 0))) := by
  have := wNeg_c (Lib.itoa m) w (txt_ok hm)
  rwa [un1_itoa _ (lng_big2 hm)] at this
theorem quoI (m n : Int) (w : World) (hg : Good w) (hm : lng m ≤ 1024) (hn : lng n ≤ 1024) (h : n ≠ 0) : Calls Tryz.prog 12 #[.string ⟨(Lib.itoa m).toArray⟩, .string ⟨(Lib.itoa n).toArray⟩] w (Ret w (ans2 (Lib.itoa (m.fdiv n), 0))) := by
  have := wQuo_c (Lib.itoa m) (Lib.itoa n) w hg (txt_ok hm) (txt_ok hn)
  rw [bin2_itoa _ (lng_big2 hm) (lng_big2 hn)] at this
  unfold quo2 at this
  rwa [if_neg h] at this
theorem remI (m n : Int) (w : World) (hg : Good w) (hm : lng m ≤ 1024) (hn : lng n ≤ 1024) (h : n ≠ 0) : Calls Tryz.prog 13 #[.string ⟨(Lib.itoa m).toArray⟩, .string ⟨(Lib.itoa n).toArray⟩] w (Ret w (ans2 (Lib.itoa (m.fmod n), 0))) := by
  have := wRem_c (Lib.itoa m) (Lib.itoa n) w hg (txt_ok hm) (txt_ok hn)
  rw [bin2_itoa _ (lng_big2 hm) (lng_big2 hn)] at this
  unfold rem2 at this
  rwa [if_neg h] at this
theorem gcdI (m n : Int) (w : World) (hg : Good w) (hm : lng m ≤ 1024) (hn : lng n ≤ 1024) : Calls Tryz.prog 15 #[.string ⟨(Lib.itoa m).toArray⟩, .string ⟨(Lib.itoa n).toArray⟩] w (Ret w (ans2 (Lib.itoa (Int.gcd m n), 0))) := gcd_ok m n w hg (lng_big2 hm) (lng_big2 hn)
theorem signI (m : Int) (w : World) (hm : lng m ≤ 1024) : Calls Tryz.prog 26 #[.string ⟨(Lib.itoa m).toArray⟩] w (Ret w (int2 (sgn m, 0))) := by
  have := wSign_c (Lib.itoa m) w (txt_ok hm)
  rwa [un2_itoa _ (lng_big2 hm)] at this
theorem cmpI (m n : Int) (w : World) (hm : lng m ≤ 1024) (hn : lng n ≤ 1024) : Calls Tryz.prog 38 #[.string ⟨(Lib.itoa m).toArray⟩, .string ⟨(Lib.itoa n).toArray⟩] w (Ret w (int2 (cmp m n, 0))) := by
  have := wCompare_c (Lib.itoa m) (Lib.itoa n) w (txt_ok hm) (txt_ok hn)
  rwa [bin2i_itoa _ (lng_big2 hm) (lng_big2 hn)] at this
theorem chkI (m : Int) (w : World) (hm : lng m ≤ 1024) : Calls Tryz.prog 28 #[.string ⟨(Lib.itoa m).toArray⟩] w (Ret w (.int .i64 0)) := by
  have := wCheck_c (Lib.itoa m) w (txt_ok hm)
  rwa [chk_ok (lng_big2 hm)] at this
theorem lng_sub (m n : Int) {k : Nat} (hm : lng m ≤ k) (hn : lng n ≤ k) : lng (m - n) ≤ k + 1 := by
  rw [Int.sub_eq_add_neg]; exact lng_add m (-n) hm (by rw [lng_neg]; exact hn)
theorem cmp_sub (m n : Int) : cmp m n = sgn (m - n) := by
  have A := cmp_spec m n
  have B := cmp_spec (m - n) 0
  unfold sgn
  omega
end Go.Proofs.Wk
