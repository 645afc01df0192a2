/- THE LAW RatioRing: it returns true at all texts: the walk. -/
import Derived.Test.YtenoganbeccanaaGreatDoorL2I
import Derived.Test.YtenoganbeccanaaGreatDoorRegU
namespace Go.Proofs.Wk
open Go.RowKit Go.Once Mt

theorem MulP.use {x y z : Txt} (h : MulP x y z) {gs gp : Nat} {W : World} (j : JR gs gp W) : Calls Tryz.prog 17 #[.string ⟨x.toArray⟩, .string ⟨y.toArray⟩, .pointer (some ⟨gp, 0, none⟩)] W (Ret W (.string ⟨z.toArray⟩)) := h gs gp W j
theorem n6 : (opsOf Tryz.f3 6).size = 107 := by kernel_rfl
theorem d6_0 : dstOf (opsOf Tryz.f3 6) 0 = some 26 := by kernel_rfl
theorem d6_1 : dstOf (opsOf Tryz.f3 6) 1 = some 27 := by kernel_rfl
theorem d6_2 : dstOf (opsOf Tryz.f3 6) 2 = some 28 := by kernel_rfl
theorem d6_3 : dstOf (opsOf Tryz.f3 6) 3 = some 29 := by kernel_rfl
theorem d6_4 : dstOf (opsOf Tryz.f3 6) 4 = some 30 := by kernel_rfl
theorem d6_5 : dstOf (opsOf Tryz.f3 6) 5 = some 31 := by kernel_rfl
theorem d6_6 : dstOf (opsOf Tryz.f3 6) 6 = some 32 := by kernel_rfl
theorem d6_7 : dstOf (opsOf Tryz.f3 6) 7 = some 33 := by kernel_rfl
theorem d6_8 : dstOf (opsOf Tryz.f3 6) 8 = some 34 := by kernel_rfl
theorem d6_9 : dstOf (opsOf Tryz.f3 6) 9 = some 35 := by kernel_rfl
theorem d6_10 : dstOf (opsOf Tryz.f3 6) 10 = some 36 := by kernel_rfl
theorem d6_11 : dstOf (opsOf Tryz.f3 6) 11 = some 37 := by kernel_rfl
theorem d6_12 : dstOf (opsOf Tryz.f3 6) 12 = some 38 := by kernel_rfl
theorem d6_13 : dstOf (opsOf Tryz.f3 6) 13 = some 39 := by kernel_rfl
theorem d6_14 : dstOf (opsOf Tryz.f3 6) 14 = some 40 := by kernel_rfl
theorem d6_15 : dstOf (opsOf Tryz.f3 6) 15 = some 41 := by kernel_rfl
theorem d6_16 : dstOf (opsOf Tryz.f3 6) 16 = some 42 := by kernel_rfl
theorem d6_17 : dstOf (opsOf Tryz.f3 6) 17 = some 43 := by kernel_rfl
theorem d6_18 : dstOf (opsOf Tryz.f3 6) 18 = some 44 := by kernel_rfl
theorem d6_19 : dstOf (opsOf Tryz.f3 6) 19 = some 45 := by kernel_rfl
theorem d6_20 : dstOf (opsOf Tryz.f3 6) 20 = some 46 := by kernel_rfl
theorem d6_21 : dstOf (opsOf Tryz.f3 6) 21 = some 47 := by kernel_rfl
theorem d6_22 : dstOf (opsOf Tryz.f3 6) 22 = some 48 := by kernel_rfl
theorem d6_23 : dstOf (opsOf Tryz.f3 6) 23 = some 49 := by kernel_rfl
theorem d6_24 : dstOf (opsOf Tryz.f3 6) 24 = some 50 := by kernel_rfl
theorem d6_25 : dstOf (opsOf Tryz.f3 6) 25 = some 51 := by kernel_rfl
theorem d6_26 : dstOf (opsOf Tryz.f3 6) 26 = some 52 := by kernel_rfl
theorem d6_27 : dstOf (opsOf Tryz.f3 6) 27 = some 53 := by kernel_rfl
theorem d6_28 : dstOf (opsOf Tryz.f3 6) 28 = some 54 := by kernel_rfl
theorem d6_29 : dstOf (opsOf Tryz.f3 6) 29 = some 55 := by kernel_rfl
theorem d6_30 : dstOf (opsOf Tryz.f3 6) 30 = some 56 := by kernel_rfl
theorem d6_31 : dstOf (opsOf Tryz.f3 6) 31 = some 57 := by kernel_rfl
theorem d6_32 : dstOf (opsOf Tryz.f3 6) 32 = some 58 := by kernel_rfl
theorem d6_33 : dstOf (opsOf Tryz.f3 6) 33 = some 59 := by kernel_rfl
theorem d6_34 : dstOf (opsOf Tryz.f3 6) 34 = some 60 := by kernel_rfl
theorem d6_35 : dstOf (opsOf Tryz.f3 6) 35 = some 61 := by kernel_rfl
theorem d6_36 : dstOf (opsOf Tryz.f3 6) 36 = some 62 := by kernel_rfl
theorem d6_37 : dstOf (opsOf Tryz.f3 6) 37 = some 63 := by kernel_rfl
theorem d6_38 : dstOf (opsOf Tryz.f3 6) 38 = some 64 := by kernel_rfl
theorem d6_39 : dstOf (opsOf Tryz.f3 6) 39 = some 65 := by kernel_rfl
theorem d6_40 : dstOf (opsOf Tryz.f3 6) 40 = some 66 := by kernel_rfl
theorem d6_41 : dstOf (opsOf Tryz.f3 6) 41 = some 67 := by kernel_rfl
theorem d6_42 : dstOf (opsOf Tryz.f3 6) 42 = some 68 := by kernel_rfl
theorem d6_43 : dstOf (opsOf Tryz.f3 6) 43 = some 69 := by kernel_rfl
theorem d6_44 : dstOf (opsOf Tryz.f3 6) 44 = some 70 := by kernel_rfl
theorem d6_45 : dstOf (opsOf Tryz.f3 6) 45 = some 71 := by kernel_rfl
theorem d6_46 : dstOf (opsOf Tryz.f3 6) 46 = some 72 := by kernel_rfl
theorem d6_47 : dstOf (opsOf Tryz.f3 6) 47 = some 73 := by kernel_rfl
theorem d6_48 : dstOf (opsOf Tryz.f3 6) 48 = some 74 := by kernel_rfl
theorem d6_49 : dstOf (opsOf Tryz.f3 6) 49 = some 75 := by kernel_rfl
theorem d6_50 : dstOf (opsOf Tryz.f3 6) 50 = some 76 := by kernel_rfl
theorem d6_51 : dstOf (opsOf Tryz.f3 6) 51 = some 77 := by kernel_rfl
theorem d6_52 : dstOf (opsOf Tryz.f3 6) 52 = some 78 := by kernel_rfl
theorem d6_53 : dstOf (opsOf Tryz.f3 6) 53 = some 79 := by kernel_rfl
theorem d6_54 : dstOf (opsOf Tryz.f3 6) 54 = some 80 := by kernel_rfl
theorem d6_55 : dstOf (opsOf Tryz.f3 6) 55 = some 81 := by kernel_rfl
theorem d6_56 : dstOf (opsOf Tryz.f3 6) 56 = some 82 := by kernel_rfl
theorem d6_57 : dstOf (opsOf Tryz.f3 6) 57 = some 83 := by kernel_rfl
theorem d6_58 : dstOf (opsOf Tryz.f3 6) 58 = some 84 := by kernel_rfl
theorem d6_59 : dstOf (opsOf Tryz.f3 6) 59 = some 85 := by kernel_rfl
theorem d6_60 : dstOf (opsOf Tryz.f3 6) 60 = some 86 := by kernel_rfl
theorem d6_61 : dstOf (opsOf Tryz.f3 6) 61 = some 87 := by kernel_rfl
theorem d6_62 : dstOf (opsOf Tryz.f3 6) 62 = some 88 := by kernel_rfl
theorem d6_63 : dstOf (opsOf Tryz.f3 6) 63 = some 89 := by kernel_rfl
theorem d6_64 : dstOf (opsOf Tryz.f3 6) 64 = some 90 := by kernel_rfl
theorem d6_65 : dstOf (opsOf Tryz.f3 6) 65 = some 91 := by kernel_rfl
theorem d6_66 : dstOf (opsOf Tryz.f3 6) 66 = some 92 := by kernel_rfl
theorem d6_67 : dstOf (opsOf Tryz.f3 6) 67 = some 93 := by kernel_rfl
theorem d6_68 : dstOf (opsOf Tryz.f3 6) 68 = some 94 := by kernel_rfl
theorem d6_69 : dstOf (opsOf Tryz.f3 6) 69 = some 95 := by kernel_rfl
theorem d6_70 : dstOf (opsOf Tryz.f3 6) 70 = some 96 := by kernel_rfl
theorem d6_71 : dstOf (opsOf Tryz.f3 6) 71 = some 97 := by kernel_rfl
theorem d6_72 : dstOf (opsOf Tryz.f3 6) 72 = some 98 := by kernel_rfl
theorem d6_73 : dstOf (opsOf Tryz.f3 6) 73 = some 99 := by kernel_rfl
theorem d6_74 : dstOf (opsOf Tryz.f3 6) 74 = some 100 := by kernel_rfl
theorem d6_75 : dstOf (opsOf Tryz.f3 6) 75 = some 101 := by kernel_rfl
theorem d6_76 : dstOf (opsOf Tryz.f3 6) 76 = some 102 := by kernel_rfl
theorem d6_77 : dstOf (opsOf Tryz.f3 6) 77 = some 103 := by kernel_rfl
theorem d6_78 : dstOf (opsOf Tryz.f3 6) 78 = some 104 := by kernel_rfl
theorem d6_79 : dstOf (opsOf Tryz.f3 6) 79 = some 105 := by kernel_rfl
theorem d6_80 : dstOf (opsOf Tryz.f3 6) 80 = some 106 := by kernel_rfl
theorem d6_81 : dstOf (opsOf Tryz.f3 6) 81 = some 107 := by kernel_rfl
theorem d6_82 : dstOf (opsOf Tryz.f3 6) 82 = some 108 := by kernel_rfl
theorem d6_83 : dstOf (opsOf Tryz.f3 6) 83 = some 109 := by kernel_rfl
theorem d6_84 : dstOf (opsOf Tryz.f3 6) 84 = some 110 := by kernel_rfl
theorem d6_85 : dstOf (opsOf Tryz.f3 6) 85 = some 111 := by kernel_rfl
theorem d6_86 : dstOf (opsOf Tryz.f3 6) 86 = some 112 := by kernel_rfl
theorem d6_87 : dstOf (opsOf Tryz.f3 6) 87 = some 113 := by kernel_rfl
theorem d6_88 : dstOf (opsOf Tryz.f3 6) 88 = some 114 := by kernel_rfl
theorem d6_89 : dstOf (opsOf Tryz.f3 6) 89 = some 115 := by kernel_rfl
theorem d6_90 : dstOf (opsOf Tryz.f3 6) 90 = some 116 := by kernel_rfl
theorem d6_91 : dstOf (opsOf Tryz.f3 6) 91 = some 117 := by kernel_rfl
theorem d6_92 : dstOf (opsOf Tryz.f3 6) 92 = some 118 := by kernel_rfl
theorem d6_93 : dstOf (opsOf Tryz.f3 6) 93 = some 119 := by kernel_rfl
theorem d6_94 : dstOf (opsOf Tryz.f3 6) 94 = some 120 := by kernel_rfl
theorem d6_95 : dstOf (opsOf Tryz.f3 6) 95 = some 121 := by kernel_rfl
theorem d6_96 : dstOf (opsOf Tryz.f3 6) 96 = some 122 := by kernel_rfl
theorem d6_97 : dstOf (opsOf Tryz.f3 6) 97 = some 123 := by kernel_rfl
theorem d6_98 : dstOf (opsOf Tryz.f3 6) 98 = some 124 := by kernel_rfl
theorem d6_99 : dstOf (opsOf Tryz.f3 6) 99 = some 125 := by kernel_rfl
theorem d6_100 : dstOf (opsOf Tryz.f3 6) 100 = some 126 := by kernel_rfl
theorem d6_101 : dstOf (opsOf Tryz.f3 6) 101 = some 127 := by kernel_rfl
theorem d6_102 : dstOf (opsOf Tryz.f3 6) 102 = some 128 := by kernel_rfl
theorem d6_103 : dstOf (opsOf Tryz.f3 6) 103 = some 129 := by kernel_rfl
theorem d6_104 : dstOf (opsOf Tryz.f3 6) 104 = some 130 := by kernel_rfl
theorem d6_105 : dstOf (opsOf Tryz.f3 6) 105 = some 131 := by kernel_rfl
theorem d6_106 : dstOf (opsOf Tryz.f3 6) 106 = some 10 := by kernel_rfl
theorem own_row8 {w : World} {g : Nat} {e : TypeId} {l0 l1 l2 l3 l4 l5 l6 l7 : Txt} (h : w.heap[g]? = some (.cells #[txt l0, txt l0, txt l1, txt l1, txt l2, txt l2, txt l3, txt l3, txt l4, txt l4, txt l5, txt l5, txt l6, txt l6, txt l7, txt l7] e (0, 0))) :
    w.ownsRow g e 2 (.slice (some ⟨g, 0, none⟩) 8 8) 8 (pcells [l0, l1, l2, l3, l4, l5, l6, l7]) := by
  refine ⟨rfl, .inr ⟨g, 8, _, rfl, Nat.le_refl _, h, ?_, ?_, ?_⟩⟩
  all_goals first | rfl | decide | simp [pcells]
set_option maxRecDepth 100000 in
set_option maxHeartbeats 40000000 in
theorem ring_yes (p q r : Rat) (w : World) (hg : Good w) (hp : szQ p 30) (hq : szQ q 30) (hr : szQ r 30) (hw : [rtoa p, rtoa q, rtoa r].any wrongQ = false) :
    Calls Tryz.prog 3 #[.string ⟨(rtoa p).toArray⟩, .string ⟨(rtoa q).toArray⟩, .string ⟨(rtoa r).toArray⟩] w (Ret w (.bool true)) := by
  have HG := Lib.hid hg
  have op := hp.ok (by omega); have oq := hq.ok (by omega); have or := hr.ok (by omega)
  have h3 := list3_le (tlen op) (tlen oq) (tlen or)
  have hr0 := right_c w.heap.size 0 3 3 [rtoa p, rtoa q, rtoa r] (w.alloc (.cells #[.string ⟨(rtoa p).toArray⟩, .string ⟨(rtoa q).toArray⟩, .string ⟨(rtoa r).toArray⟩] 22)) (RS.lit w [rtoa p, rtoa q, rtoa r] _) (alloc_lt w _) rfl (by omega) h3
  rw [hw, Bool.not_false] at hr0
  have HR := Lib.hid hr0
  -- the numbers
  have zs := szQ_add hp hq; have zt := szQ_add hq hr; have zm := szQ_mul hp hq; have zn := szQ_mul hq hr; have zo := szQ_mul hp hr
  have A1 : AddP (rtoa p) (rtoa q) (rtoa (p + q)) := fun gs gp W J => ringAdd hp hq (by omega) rfl gs gp W J
  have A2 : AddP (rtoa q) (rtoa p) (rtoa (p + q)) := fun gs gp W J => ringAdd hq hp (by omega) (Rat.add_comm q p) gs gp W J
  have M1 : MulP (rtoa p) (rtoa q) (rtoa (p * q)) := fun gs gp W J => ringMul hp hq (by omega) rfl gs gp W J
  have M2 : MulP (rtoa q) (rtoa p) (rtoa (p * q)) := fun gs gp W J => ringMul hq hp (by omega) (Rat.mul_comm q p) gs gp W J
  have A3 : AddP (rtoa (p + q)) (rtoa r) (rtoa (p + q + r)) := fun gs gp W J => ringAdd zs hr (by omega) rfl gs gp W J
  have A4 : AddP (rtoa q) (rtoa r) (rtoa (q + r)) := fun gs gp W J => ringAdd hq hr (by omega) rfl gs gp W J
  have A5 : AddP (rtoa p) (rtoa (q + r)) (rtoa (p + q + r)) := fun gs gp W J => ringAdd hp zt (by omega) (Rat.add_assoc p q r).symm gs gp W J
  have M3 : MulP (rtoa (p * q)) (rtoa r) (rtoa (p * q * r)) := fun gs gp W J => ringMul zm hr (by omega) rfl gs gp W J
  have M4 : MulP (rtoa q) (rtoa r) (rtoa (q * r)) := fun gs gp W J => ringMul hq hr (by omega) rfl gs gp W J
  have M5 : MulP (rtoa p) (rtoa (q * r)) (rtoa (p * q * r)) := fun gs gp W J => ringMul hp zn (by omega) (Rat.mul_assoc p q r).symm gs gp W J
  have M6 : MulP (rtoa p) (rtoa (q + r)) (rtoa (p * (q + r))) := fun gs gp W J => ringMul hp zt (by omega) rfl gs gp W J
  have M7 : MulP (rtoa p) (rtoa r) (rtoa (p * r)) := fun gs gp W J => ringMul hp hr (by omega) rfl gs gp W J
  have A6 : AddP (rtoa (p * q)) (rtoa (p * r)) (rtoa (p * (q + r))) := fun gs gp W J => ringAdd zm zo (by omega) (Rat.mul_add p q r).symm gs gp W J
  have s1 := fun W hW => qSub_c (rtoa (p + q)) (rtoa q) W hW (tlen (zs.ok (by omega))) (tlen oq)
  rw [rbin_ok [] subQ (zs.ok (by omega)) oq, subQ_sz zs hq (by omega), Rat.add_sub_cancel] at s1
  have n1 := fun W hW => qNeg_c (rtoa p) W hW (tlen op)
  rw [run1_ok [] negQ op, show negQ p = (rtoa (-p), 0) from rfl] at n1
  have A7 : AddP (rtoa p) (rtoa (-p)) (rtoa 0) := fun gs gp W J => ringAdd hp (szQ_neg hp) (by omega) (Rat.add_neg_cancel p) gs gp W J
  rw [rtoa_zero] at A7
  have u1 := fun W hW v hv => qSum_c (v := v) [rtoa p, rtoa q, rtoa r] W hW hv (by simp) h3
  rw [rp_sum3 hp hq hr] at u1
  have HD := Lib.hid (show (q ≠ 0 → ∀ W, Good W → Calls Tryz.prog 22 #[.string ⟨(rtoa (p * q)).toArray⟩, .string ⟨(rtoa q).toArray⟩] W (Ret W (ans2 (rtoa p, 0)))) ∧
      (q = 0 → ∀ W, Good W → Calls Tryz.prog 22 #[.string ⟨(rtoa p).toArray⟩, .string ⟨(rtoa q).toArray⟩] W (Ret W (ans2 ([], 10)))) from by
    constructor
    · intro h W hW
      have := qDiv_c (rtoa (p * q)) (rtoa q) W hW (tlen (zm.ok (by omega))) (tlen oq)
      rwa [rbin_ok [] divQ (zm.ok (by omega)) oq, divQ_sz zm hq (by omega) h, Rat.mul_div_cancel h] at this
    · intro h W hW
      have := qDiv_c (rtoa p) (rtoa q) W hW (tlen op) (tlen oq)
      rwa [rbin_ok [] divQ op oq, show divQ p q = ([], 10) by unfold divQ; rw [if_pos h]] at this)
  have hz := rtoa_is_zero (q := q)
  have HC := Lib.hid (show ∀ l ∈ [rtoa (p + q), rtoa (p * q), rtoa (p + q + r), rtoa (p * q * r), rtoa (p * (q + r)), rtoa p, [48], rtoa (p + q + r), rtoa p], ∀ W, Good W → Calls Tryz.prog 23 #[.string ⟨l.toArray⟩] W (Ret W (.int .i64 0)) from by
    have k : ∀ {x : Rat} {j : Nat}, szQ x j → j ≤ 1024 → ∀ W, Good W → Calls Tryz.prog 23 #[.string ⟨(rtoa x).toArray⟩] W (Ret W (.int .i64 0)) := fun {x j} h hj W hW => by
      have := qCheck_c (rtoa x) W hW (tlen (h.ok hj))
      rwa [rchk_rtoa (h.ok hj)] at this
    intro l hl
    simp only [List.mem_cons, List.not_mem_nil, or_false] at hl
    rcases hl with rfl | rfl | rfl | rfl | rfl | rfl | rfl | rfl | rfl
    · exact k zs (by omega)
    · exact k zm (by omega)
    · exact k (szQ_add zs hr) (by omega)
    · exact k (szQ_mul zm hr) (by omega)
    · exact k (szQ_mul hp zt) (by omega)
    · exact k hp (by omega)
    · rw [← rtoa_zero]; exact k szQ_zero (by omega)
    · exact k (szQ_add zs hr) (by omega)
    · exact k hp (by omega))
  have S1 := Lib.hid s1; have N1 := Lib.hid n1; have U1 := Lib.hid u1
  have O1 := Lib.hid (fun gs W h => of_c gs (rtoa p) W h); have O2 := Lib.hid (fun gs W h => of_c gs (rtoa (-p)) W h); have O3 := Lib.hid (fun gs W h => of_c gs (rtoa (p + q + r)) W h)
  clear zs zt zm zn zo s1 n1 u1 op oq or h3 hr0 hw hg hp hq hr
  generalize rtoa (p + q) = ta at *
  generalize rtoa (q + r) = tb at *
  generalize rtoa (p + q + r) = tc at *
  generalize rtoa (p * q) = td at *
  generalize rtoa (q * r) = te at *
  generalize rtoa (p * q * r) = tf at *
  generalize rtoa (p * r) = th at *
  generalize rtoa (p * (q + r)) = tg at *
  generalize rtoa (-p) = ti at *
  generalize rtoa p = tp at *
  generalize rtoa q = tq at *
  generalize rtoa r = tr at *
  have HQ0 := Lib.hid hz
  clear hz
  go_enter Tryz.func3, Tryz.ntmps3
  go_wp2_with fail
  ((with_reducible refine HR.out.mono ?_); rintro e w1 ⟨rfl, hb1⟩)
  have hB1 : Below w.heap.size w w1 := ((Below.refl w.heap.size w).alloc (Nat.le_refl _) _).trans (hb1.mono (Nat.le_of_lt (alloc_lt w _)))
  clear hb1
  have JJ : JB w w1.heap.size (w1.heap.size + 1) ((w1.alloc (.cells #[.bool true] 27)).alloc (.cells #[.pointer (some ⟨w1.heap.size, 0, none⟩)] 25)) := JB.new (HG.out.later hB1) hB1
  go_upto_region 6 with fail
  simp only [List.append]
  generalize hgs : w1.heap.size = gs at *
  generalize (w1.alloc (.cells #[.bool true] 27)).alloc (.cells #[.pointer (some ⟨gs, 0, none⟩)] 25) = W0 at *
  refine Go.Once.wp_ops (ops' := opsOf Tryz.f3 6) (by kernel_rfl) ?_
  refine wp_region_whole (R := rgR gs (gs + 1) tp tq tr ta tb tc td te tf tg th ti) (J := JB w gs (gs + 1)) (T := rgT) (by kernel_rfl) (by kernel_rfl) (by kernel_rfl) (rg_keep gs (gs + 1) tp tq tr ta tb tc td te tf tg th ti) JJ.drew (by rw [n6]; exact g6_steps rfl rfl rfl rfl A1 A2 rfl M1 M2 rfl A3 A4 A5 M3 M4 M5 M6 M7 A6 rfl S1.out (O1.out _) N1.out (O2.out _) A7 U1.out (O3.out _)) ?_
  intro vs wc J hR
  obtain ⟨g, r106, hgl0, hrow⟩ := hR 106 (by rw [n6]; decide)
  have HO : Hid (wc.ownsRow g 33 2 (.slice (some ⟨g, 0, none⟩) 8 8) 8 (pcells [ta, td, tc, tf, tg, tp, [48], tc])) := own_row8 hrow
  clear hR hrow
  simp only [n6, show List.range 107 = [0, 1, 2, 3, 4, 5, 6, 7, 8, 9, 10, 11, 12, 13, 14, 15, 16, 17, 18, 19, 20, 21, 22, 23, 24, 25, 26, 27, 28, 29, 30, 31, 32, 33, 34, 35, 36, 37, 38, 39, 40, 41, 42, 43, 44, 45, 46, 47, 48, 49, 50, 51, 52, 53, 54, 55, 56, 57, 58, 59, 60, 61, 62, 63, 64, 65, 66, 67, 68, 69, 70, 71, 72, 73, 74, 75, 76, 77, 78, 79, 80, 81, 82, 83, 84, 85, 86, 87, 88, 89, 90, 91, 92, 93, 94, 95, 96, 97, 98, 99, 100, 101, 102, 103, 104, 105, 106] from rfl, putL, List.foldl_cons, List.foldl_nil, d6_0, d6_1, d6_2, d6_3, d6_4, d6_5, d6_6, d6_7, d6_8, d6_9, d6_10, d6_11, d6_12, d6_13, d6_14, d6_15, d6_16, d6_17, d6_18, d6_19, d6_20, d6_21, d6_22, d6_23, d6_24, d6_25, d6_26, d6_27, d6_28, d6_29, d6_30, d6_31, d6_32, d6_33, d6_34, d6_35, d6_36, d6_37, d6_38, d6_39, d6_40, d6_41, d6_42, d6_43, d6_44, d6_45, d6_46, d6_47, d6_48, d6_49, d6_50, d6_51, d6_52, d6_53, d6_54, d6_55, d6_56, d6_57, d6_58, d6_59, d6_60, d6_61, d6_62, d6_63, d6_64, d6_65, d6_66, d6_67, d6_68, d6_69, d6_70, d6_71, d6_72, d6_73, d6_74, d6_75, d6_76, d6_77, d6_78, d6_79, d6_80, d6_81, d6_82, d6_83, d6_84, d6_85, d6_86, d6_87, d6_88, d6_89, d6_90, d6_91, d6_92, d6_93, d6_94, d6_95, d6_96, d6_97, d6_98, d6_99, d6_100, d6_101, d6_102, d6_103, d6_104, d6_105, d6_106, Act.put, List.setIfInBounds_toArray, List.set_cons_zero, List.set_cons_succ, r106]
  clear r106
  have hz := HQ0.out
  by_cases hq : q = 0
  · rw [decide_eq_true hq] at hz
    have D2 := Lib.hid (HD.out.2 hq)
    clear hq HD A1 A2 A3 A4 A5 A6 A7 M1 M2 M3 M4 M5 M6 M7 O1 O2 O3 S1 N1 U1 HR
    go_wp2_with fail
    ((with_reducible refine (D2.out _ J.j.g).mono ?_); rintro e w3 ⟨rfl, hb3⟩)
    have J3 := J.later hb3
    have HO3 : Hid (w3.ownsRow g 33 2 (.slice (some ⟨g, 0, none⟩) 8 8) 8 (pcells [ta, td, tc, tf, tg, tp, [48], tc])) := Lib.hid (own_later HO.out hb3)
    clear HO
    have HO := HO3
    clear HO3 hb3 J
    obtain ⟨g2, c2, ev, hRP, hgl⟩ := RP.own (ps := [ta, td, tc, tf, tg, tp, [48], tc]) HO.out (by simp)
    cases ev
    have HRP := Lib.hid hRP
    clear hRP HO
    go_wp2_with fail
    go_loopw [159] (fun si wr => ∃ i : Nat, si = .int .i64 (i : Int) ∧ i ≤ 8 ∧ JB w gs (gs + 1) wr ∧ Below w3.heap.size w3 wr) (fun si _ => 8 - (intOf si).toNat)
    case atStart => exact ⟨0, rfl, by omega, J3, Below.refl _ _⟩
    case round =>
      obtain ⟨i, rfl, hi, J1, hb0⟩ := hrel
      by_cases hlt : i < 8
      · have hil : i < ([ta, td, tc, tf, tg, tp, [48], tc] : List Txt).length := hlt
        obtain ⟨k1, k2⟩ := (HRP.out.later hb0 hgl) i hil
        have hmem := List.getElem_mem hil
        obtain ⟨l, hl⟩ : ∃ l, ([ta, td, tc, tf, tg, tp, [48], tc] : List Txt)[i] = l := ⟨_, rfl⟩
        rw [hl] at k1 k2 hmem
        have HCK := Lib.hid (HC.out l (List.mem_append_left [tp] hmem))
        clear hl hmem
        have JA := J1.alloc (.cells #[.string ⟨l.toArray⟩, .string ⟨l.toArray⟩] 33)
        go_wp2_with fail
        ((with_reducible refine (HCK.out _ JA.j.g).mono ?_); rintro e w5 ⟨rfl, hb5⟩)
        have J5 := JA.later hb5
        have hb6 := (hb0.alloc hb0.size (.cells #[.string ⟨l.toArray⟩, .string ⟨l.toArray⟩] 33)).trans (hb5.mono (Nat.le_trans hb0.size (Nat.le_of_lt (alloc_lt _ _))))
        clear JA
        go_wp2
        go_roundw
        case rel => exact ⟨i + 1, by go_num, by omega, J5, hb6⟩
        case measure => simp [intOf]; omega
      · obtain rfl : i = 8 := by omega
        have k1 := J1.j.c
        have k2 := J1.j.c0
        go_wp2_with fail
        ((with_reducible refine (awake2_c _ J1.j.g).mono ?_); rintro e w5 ⟨rfl, hb5⟩)
        have J5 := J1.later hb5
        go_wp2
        go_ret
        exact ⟨rfl, J5.b⟩
  · rw [decide_eq_false hq] at hz
    have hz2 : (tq != [48]) = true := by unfold bne; rw [hz]; rfl
    have D1 := Lib.hid (HD.out.1 hq)
    have hgsz : g < wc.heap.size := (World.ownsRow.lt HO.out g rfl).2
    have hw0 : w.heap.size ≤ g := by have := hB1.size; omega
    clear hq HD A1 A2 A3 A4 A5 A6 A7 M2 M3 M4 M5 M6 M7 O2 O3 S1 N1 U1 HR
    go_upto_region 8 with fail
    go_cut [10] (fun s10 wx => ∃ gg cap, s10 = .slice (some ⟨gg, 0, none⟩) 9 cap ∧ Hid (wx.ownsRow g 33 2 (.slice (some ⟨gg, 0, none⟩) 9 cap) 9 (pcells [ta, td, tc, tf, tg, tp, [48], tc, tp])) ∧ JB w gs (gs + 1) wx)
    case first =>
      go_region_held3 (fun w' => w'.cell? ⟨gs + 1, 0, none⟩ = some (.pointer (some ⟨gs, 0, none⟩)) ∧ JB w gs (gs + 1) w') (first | exact ⟨JD.j.c, JD⟩ | exact ⟨(JE.alloc _).j.c, JE.alloc _⟩ | exact ⟨JE.j.c, JE⟩ | exact ⟨JC.j.c, JC⟩ | exact ⟨JA.j.c, JA⟩ | exact ⟨J.drew.j.c, J.drew⟩ | exact ⟨J.j.c, J⟩)
        (first
        | (go_at_call 17; (with_reducible refine (M1.use J.drew.j).mono ?_); rintro e wA ⟨rfl, hbA⟩; have JA := J.drew.later hbA)
        | (go_at_call 22; (with_reducible refine (D1.out _ JA.j.g).mono ?_); rintro e wB ⟨rfl, hbB⟩; have JC := JA.later hbB)
        | (go_at_call 15; (with_reducible refine (O1.out _ _ JC.j.s).mono ?_); rintro e wC ⟨rfl, hbC⟩; have JE := JC.later hbC; have hgC := Nat.lt_of_lt_of_le hgsz (Nat.le_trans hbA.size (Nat.le_trans hbB.size hbC.size)))
        | (refine step_app_pair _ (by rfl) _ _ 37 33 (by rfl) Tryz.underlying37 info_pair g _ [ta, td, tc, tf, tg, tp, [48], tc] 8 rfl (by rfl) (own_later (own_later (own_later (own_later (own_drew HO.out) hbA) hbB) hbC) ((Below.refl _ _).alloc (Nat.le_refl _) _)) wC.heap.size tp (by rfl) (by rw [cell_of_row _ _ _ _ _ _ (heap_alloc_new wC _)]; rfl) (by rw [cell_of_row _ _ _ _ _ _ (heap_alloc_new wC _)]; rfl) (by omega) (Nat.le_of_lt (Nat.lt_trans hgC (alloc_lt wC _))) ?_; intro gg cap wD hOD hbD; have JD := (JE.alloc _).laterB HG.out hbD hgl0 (Nat.lt_of_succ_lt hgl0) hw0)
        | fail)
      all_goals (go_wp2_with fail; go_meet)
      all_goals exact ⟨gg, cap, rfl, Lib.hid hOD, JD⟩
    case rest =>
      clear HO J hgsz
      obtain ⟨gg, cap, rfl, HO, J⟩ := hcut
      obtain ⟨g2, c2, ev, hRP, hgl⟩ := RP.own (ps := [ta, td, tc, tf, tg, tp, [48], tc, tp]) HO.out (by simp)
      cases ev
      have HRP := Lib.hid hRP
      clear hRP HO
      go_wp2_with fail
      clear hz hz2
      go_loopw [159] (fun si wr => ∃ i : Nat, si = .int .i64 (i : Int) ∧ i ≤ 9 ∧ JB w gs (gs + 1) wr ∧ Below wc.heap.size wc wr) (fun si _ => 9 - (intOf si).toNat)
      case atStart => exact ⟨0, rfl, by omega, J, Below.refl _ _⟩
      case round =>
        obtain ⟨i, rfl, hi, J1, hb0⟩ := hrel
        by_cases hlt : i < 9
        · have hil : i < ([ta, td, tc, tf, tg, tp, [48], tc, tp] : List Txt).length := hlt
          obtain ⟨k1, k2⟩ := (HRP.out.later hb0 hgl) i hil
          have hmem := List.getElem_mem hil
          obtain ⟨l, hl⟩ : ∃ l, ([ta, td, tc, tf, tg, tp, [48], tc, tp] : List Txt)[i] = l := ⟨_, rfl⟩
          rw [hl] at k1 k2 hmem
          have HCK := Lib.hid (HC.out l (hmem))
          clear hl hmem
          have JA := J1.alloc (.cells #[.string ⟨l.toArray⟩, .string ⟨l.toArray⟩] 33)
          go_wp2_with fail
          ((with_reducible refine (HCK.out _ JA.j.g).mono ?_); rintro e w5 ⟨rfl, hb5⟩)
          have J5 := JA.later hb5
          have hb6 := (hb0.alloc hb0.size (.cells #[.string ⟨l.toArray⟩, .string ⟨l.toArray⟩] 33)).trans (hb5.mono (Nat.le_trans hb0.size (Nat.le_of_lt (alloc_lt _ _))))
          clear JA
          go_wp2
          go_roundw
          case rel => exact ⟨i + 1, by go_num, by omega, J5, hb6⟩
          case measure => simp [intOf]; omega
        · obtain rfl : i = 9 := by omega
          have k1 := J1.j.c
          have k2 := J1.j.c0
          go_wp2_with fail
          ((with_reducible refine (awake2_c _ J1.j.g).mono ?_); rintro e w5 ⟨rfl, hb5⟩)
          have J5 := J1.later hb5
          go_wp2
          go_ret
          exact ⟨rfl, J5.b⟩
set_option maxRecDepth 100000 in
theorem ring_c (a b c : Txt) (w : World) (hg : Good w) (ha : a.length ≤ 140737488355328) (hb : b.length ≤ 140737488355328) (hc : c.length ≤ 140737488355328) :
    Calls Tryz.prog 3 #[.string ⟨a.toArray⟩, .string ⟨b.toArray⟩, .string ⟨c.toArray⟩] w (Ret w (.bool true)) := by
  cases hw : [a, b, c].any wrongQ with
  | false =>
    have h1 := hw
    simp only [List.any_cons, List.any_nil, Bool.or_false, Bool.or_eq_false_iff] at h1
    obtain ⟨p, rfl, hp⟩ := right_q h1.1
    obtain ⟨q, rfl, hq⟩ := right_q h1.2.1
    obtain ⟨r, rfl, hr⟩ := right_q h1.2.2
    exact ring_yes p q r w hg hp hq hr hw
  | true =>
    have HG := Lib.hid hg
    have hr := right_c w.heap.size 0 3 3 [a, b, c] (w.alloc (.cells #[.string ⟨a.toArray⟩, .string ⟨b.toArray⟩, .string ⟨c.toArray⟩] 22)) (RS.lit w [a, b, c] _) (alloc_lt w _) rfl (by omega) (list3_le ha hb hc)
    rw [hw, Bool.not_true] at hr
    have HR := Lib.hid hr
    clear hr hw ha hb hc hg
    go_enter Tryz.func3, Tryz.ntmps3
    go_wp2_with fail
    ((with_reducible refine HR.out.mono ?_); rintro e w1 ⟨rfl, hb1⟩)
    have hB1 : Below w.heap.size w w1 := ((Below.refl w.heap.size w).alloc (Nat.le_refl _) _).trans (hb1.mono (Nat.le_of_lt (alloc_lt w _)))
    clear hb1
    go_wp2_with fail
    ((with_reducible refine (awake2_c _ (HG.out.later hB1)).mono ?_); rintro e w2 ⟨rfl, hb2⟩)
    have hB2 := hB1.trans (hb2.mono hB1.size); clear hb2
    go_wp2
    go_ret
    exact ⟨rfl, hB2⟩
end Go.Proofs.Wk
