/- THE REFERENCE's SUMS AND DIFFERENCES ON PAPER. -/
import Derived.Test.YtjljappilpkelaaGreatDoorRefA
namespace Go.Proofs.Wk
open Go.RowKit Mt

set_option maxRecDepth 100000 in
set_option maxHeartbeats 2000000 in
theorem paper_add (m n : Nat) (w : World) (hla : (Lib.decDigits m).length ≤ 20000) (hlb : (Lib.decDigits n).length ≤ 20000) :
    Calls Tryz.prog 92 #[.string ⟨(Lib.decDigits m).toArray⟩, .string ⟨(Lib.decDigits n).toArray⟩, .bool true] w (Ret w (.string ⟨(Lib.decDigits (m + n)).toArray⟩)) := by
  have pa := dec_len_pos m
  have pb := dec_len_pos n
  have da := allD_dec m
  have db := allD_dec n
  have na := nat_dec m
  have nb := nat_dec n
  generalize Lib.decDigits m = a at *
  generalize Lib.decDigits n = b at *
  subst na nb
  have DA := Lib.hid da; have DB := Lib.hid db; clear da db
  have hsum : ∀ N, a.length + 1 ≤ N → b.length + 1 ≤ N → nat a + nat b < 10 ^ N := by
    intro N h1 h2
    have e1 := nat_lt a DA.out
    have e2 := nat_lt b DB.out
    have e3 : 10 ^ a.length ≤ 10 ^ (N - 1) := pow_mono (by omega)
    have e4 : 10 ^ b.length ≤ 10 ^ (N - 1) := pow_mono (by omega)
    have e5 : 10 ^ N = 10 ^ (N - 1) * 10 := by rw [← Nat.pow_succ]; congr 1; omega
    omega
  have HS := Lib.hid hsum; clear hsum
  go_enter Tryz.func92, Tryz.ntmps92
  go_upto_region 1 with fail
  go_cut [7] (fun s7 wx => ∃ N : Nat, s7 = .int .i64 N ∧ a.length + 1 ≤ N ∧ b.length + 1 ≤ N ∧ N ≤ 20001 ∧ w = wx)
  case first =>
    go_wp2_with fail
    all_goals go_meet
    all_goals
      first
      | exact ⟨a.length + 1, by go_num, by omega, by omega, by omega, rfl⟩
      | exact ⟨b.length + 1, by go_num, by omega, by omega, by omega, rfl⟩
  case rest =>
    obtain ⟨N, rfl, hNa, hNb, hNm, rfl⟩ := hcut
    go_wp2_with fail
    refine (wide_c a N _ (by omega) (by omega) (by omega)).mono ?_
    rintro e w1 ⟨rfl, hb1⟩
    go_wp2_with fail
    refine (wide_c b N _ (by omega) (by omega) (by omega)).mono ?_
    rintro e w2 ⟨rfl, hb2⟩
    have hB0 := Below.step hb1 hb2
    clear hb1 hb2
    obtain ⟨x, hx, hxl, hxd, hxn⟩ : ∃ x : Txt, List.replicate (N - a.length) 48 ++ a = x ∧ x.length = N ∧ allD x = true ∧ nat x = nat a :=
      ⟨_, rfl, by simp; omega, allD_pad _ DA.out, nat_pad _ _⟩
    obtain ⟨y, hy, hyl, hyd, hyn⟩ : ∃ y : Txt, List.replicate (N - b.length) 48 ++ b = y ∧ y.length = N ∧ allD y = true ∧ nat y = nat b :=
      ⟨_, rfl, by simp; omega, allD_pad _ DB.out, nat_pad _ _⟩
    rw [hx, hy]
    clear hx hy
    have hmk := run_make_bytes N (by omega)
    have XL := Lib.hid hxl; have XD := Lib.hid hxd; have XN := Lib.hid hxn; have YL := Lib.hid hyl; have YD := Lib.hid hyd; have YN := Lib.hid hyn
    clear hxl hxd hxn hyl hyd hyn
    go_wp2
    clear hmk
    go_loopw [9, 10] (fun c i wr => ∃ (k cc : Nat) (o : Txt), c = .int .i64 cc ∧ i = .int .i64 ((k : Int) - 1) ∧ k ≤ N ∧ cc < 2 ∧ Hid (o.length = N) ∧ Hid (SumAt x y o k cc) ∧ RB wr w2.heap.size o ∧ Below w.heap.size w wr) (fun _ i _ => (intOf i + 1).toNat)
    case atStart =>
      exact ⟨N, 0, List.replicate N 0, rfl, rfl, Nat.le_refl _, by omega, by simp [Hid], sum_start _ _ _ N XL.out YL.out (by simp), RB.made w2 N, hB0.alloc hB0.size _⟩
    case round =>
      obtain ⟨k, cc, o, rfl, rfl, hk, hcc, hol, hsum, hR, hB⟩ := hrel
      by_cases h0 : 1 ≤ k
      · obtain ⟨i, rfl⟩ : ∃ i, k = i + 1 := ⟨k - 1, by omega⟩
        rw [show (((i + 1 : Nat) : Int) - 1) = (i : Int) by omega]
        have hxl : i < x.length := by have := XL.out; omega
        have hyl : i < y.length := by have := YL.out; omega
        have hol' : i < o.length := by have := hol.out; omega
        have hxd := allD_at XD.out hxl
        have hyd := allD_at YD.out hyl
        have hf := hR.free i
        have hc := hR.cell hol'
        have HX := Lib.hid hxd; have HY := Lib.hid hyd; clear hxd hyd
        have hdx := dv_lt HX.out
        have hdy := dv_lt HY.out
        go_upto_block 1 with fail
        go_cut [9] (fun s9 wx => s9 = .int .i64 (((dv x[i] + dv y[i] + cc) / 10 : Nat) : Int) ∧ RB wx w2.heap.size (o.set i (ch ((dv x[i] + dv y[i] + cc) % 10))) ∧ Below w.heap.size w wx)
        case first =>
          go_wp2_with fail
          go_region_with (go_at_call 111; refine (column_add _ _ _ _ HX.out HY.out hcc).mono ?_; rintro e w' ⟨rfl, rfl⟩)
          all_goals (go_wp2_with fail; go_meet; exact ⟨rfl, RB.set (w := wr.drew) hR i _ rfl, hB.drew.setCell hB0.size _⟩)
        case rest =>
          obtain ⟨rfl, hR2, hB2⟩ := hcut
          go_wp2
          go_roundw
          case rel => exact ⟨i, _, _, rfl, by go_num, by omega, by omega, by show _ = _; rw [List.length_set]; exact hol.out, sum_step XL.out YL.out hol.out (by omega) hsum.out _ _ rfl rfl, hR2, hB2⟩
          case measure => simp [intOf]
      · obtain rfl : k = 0 := by omega
        have hsr := run_string_row hR (n := N) (by have := hol.out; omega) N
        have hne : o ≠ [] := by intro e; have := hol.out; rw [e] at this; simp at this; omega
        obtain ⟨ho1, ho2⟩ := sum_end hol.out hsum.out (by rw [XN.out, YN.out]; exact HS.out N hNa hNb)
        have ho2 : bare o = Lib.decDigits (nat a + nat b) := by rw [bare_spec o hne ho1, ho2, XN.out, YN.out]
        have HO := Lib.hid ho2; clear ho2 ho1
        go_wp2_with fail
        refine (bare_c o _).mono ?_
        rintro e w' ⟨rfl, rfl⟩
        go_wp2
        go_ret
        exact ⟨ret_str HO.out, hB⟩

set_option maxRecDepth 100000 in
set_option maxHeartbeats 2000000 in
theorem paper_sub (m n : Nat) (w : World) (hla : (Lib.decDigits m).length ≤ 20000) (hlb : (Lib.decDigits n).length ≤ 20000) (hmn : n ≤ m) :
    Calls Tryz.prog 92 #[.string ⟨(Lib.decDigits m).toArray⟩, .string ⟨(Lib.decDigits n).toArray⟩, .bool false] w (Ret w (.string ⟨(Lib.decDigits (m - n)).toArray⟩)) := by
  have pa := dec_len_pos m
  have pb := dec_len_pos n
  have da := allD_dec m
  have db := allD_dec n
  have na := nat_dec m
  have nb := nat_dec n
  generalize Lib.decDigits m = a at *
  generalize Lib.decDigits n = b at *
  subst na nb
  have DA := Lib.hid da; have DB := Lib.hid db; clear da db
  go_enter Tryz.func92, Tryz.ntmps92
  go_upto_region 1 with fail
  go_cut [7] (fun s7 wx => ∃ N : Nat, s7 = .int .i64 N ∧ a.length + 1 ≤ N ∧ b.length + 1 ≤ N ∧ N ≤ 20001 ∧ w = wx)
  case first =>
    go_wp2_with fail
    all_goals go_meet
    all_goals
      first
      | exact ⟨a.length + 1, by go_num, by omega, by omega, by omega, rfl⟩
      | exact ⟨b.length + 1, by go_num, by omega, by omega, by omega, rfl⟩
  case rest =>
    obtain ⟨N, rfl, hNa, hNb, hNm, rfl⟩ := hcut
    go_wp2_with fail
    refine (wide_c a N _ (by omega) (by omega) (by omega)).mono ?_
    rintro e w1 ⟨rfl, hb1⟩
    go_wp2_with fail
    refine (wide_c b N _ (by omega) (by omega) (by omega)).mono ?_
    rintro e w2 ⟨rfl, hb2⟩
    have hB0 := Below.step hb1 hb2
    clear hb1 hb2
    obtain ⟨x, hx, hxl, hxd, hxn⟩ : ∃ x : Txt, List.replicate (N - a.length) 48 ++ a = x ∧ x.length = N ∧ allD x = true ∧ nat x = nat a :=
      ⟨_, rfl, by simp; omega, allD_pad _ DA.out, nat_pad _ _⟩
    obtain ⟨y, hy, hyl, hyd, hyn⟩ : ∃ y : Txt, List.replicate (N - b.length) 48 ++ b = y ∧ y.length = N ∧ allD y = true ∧ nat y = nat b :=
      ⟨_, rfl, by simp; omega, allD_pad _ DB.out, nat_pad _ _⟩
    rw [hx, hy]
    clear hx hy
    have hmk := run_make_bytes N (by omega)
    have XL := Lib.hid hxl; have XD := Lib.hid hxd; have XN := Lib.hid hxn; have YL := Lib.hid hyl; have YD := Lib.hid hyd; have YN := Lib.hid hyn
    clear hxl hxd hxn hyl hyd hyn
    go_wp2
    clear hmk
    go_loopw [9, 10] (fun c i wr => ∃ (k cc : Nat) (o : Txt), c = .int .i64 cc ∧ i = .int .i64 ((k : Int) - 1) ∧ k ≤ N ∧ cc < 2 ∧ Hid (o.length = N) ∧ Hid (DifAt x y o k cc) ∧ RB wr w2.heap.size o ∧ Below w.heap.size w wr) (fun _ i _ => (intOf i + 1).toNat)
    case atStart =>
      exact ⟨N, 0, List.replicate N 0, rfl, rfl, Nat.le_refl _, by omega, by simp [Hid], dif_start _ _ _ N XL.out YL.out (by simp), RB.made w2 N, hB0.alloc hB0.size _⟩
    case round =>
      obtain ⟨k, cc, o, rfl, rfl, hk, hcc, hol, hsum, hR, hB⟩ := hrel
      by_cases h0 : 1 ≤ k
      · obtain ⟨i, rfl⟩ : ∃ i, k = i + 1 := ⟨k - 1, by omega⟩
        rw [show (((i + 1 : Nat) : Int) - 1) = (i : Int) by omega]
        have hxl : i < x.length := by have := XL.out; omega
        have hyl : i < y.length := by have := YL.out; omega
        have hol' : i < o.length := by have := hol.out; omega
        have hxd := allD_at XD.out hxl
        have hyd := allD_at YD.out hyl
        have hf := hR.free i
        have hc := hR.cell hol'
        have HX := Lib.hid hxd; have HY := Lib.hid hyd; clear hxd hyd
        obtain ⟨z, kk, hz, hkk, hzk⟩ : ∃ z kk, z < 10 ∧ kk < 2 ∧ z + dv y[i] + cc = dv x[i] + 10 * kk := by
          have hdx := dv_lt HX.out
          have hdy := dv_lt HY.out
          by_cases hlt : dv y[i] + cc ≤ dv x[i]
          · exact ⟨dv x[i] - dv y[i] - cc, 0, by omega, by omega, by omega⟩
          · exact ⟨dv x[i] + 10 - dv y[i] - cc, 1, by omega, by omega, by omega⟩
        have HZ := Lib.hid hzk; clear hzk
        go_upto_block 1 with fail
        go_cut [9] (fun s9 wx => s9 = .int .i64 ((kk : Nat) : Int) ∧ RB wx w2.heap.size (o.set i (ch z)) ∧ Below w.heap.size w wx)
        case first =>
          go_wp2_with fail
          go_region_with (go_at_call 111; refine (column_sub _ _ _ z kk _ HX.out HY.out hcc hz hkk HZ.out).mono ?_; rintro e w' ⟨rfl, rfl⟩)
          all_goals (go_wp2_with fail; go_meet; exact ⟨rfl, RB.set (w := wr.drew) hR i _ rfl, hB.drew.setCell hB0.size _⟩)
        case rest =>
          obtain ⟨rfl, hR2, hB2⟩ := hcut
          go_wp2
          go_roundw
          case rel => exact ⟨i, _, _, rfl, by go_num, by omega, by omega, by show _ = _; rw [List.length_set]; exact hol.out, dif_step XL.out YL.out hol.out (by omega) hsum.out _ _ z kk rfl rfl hz HZ.out, hR2, hB2⟩
          case measure => simp [intOf]
      · obtain rfl : k = 0 := by omega
        have hsr := run_string_row hR (n := N) (by have := hol.out; omega) N
        have hne : o ≠ [] := by intro e; have := hol.out; rw [e] at this; simp at this; omega
        obtain ⟨ho1, ho2⟩ := dif_end hol.out hsum.out (by rw [XN.out, YN.out]; exact hmn)
        have ho2 : bare o = Lib.decDigits (nat a - nat b) := by rw [bare_spec o hne ho1, ho2, XN.out, YN.out]
        have HO := Lib.hid ho2; clear ho2 ho1
        go_wp2_with fail
        refine (bare_c o _).mono ?_
        rintro e w' ⟨rfl, rfl⟩
        go_wp2
        go_ret
        exact ⟨ret_str HO.out, hB⟩
end Go.Proofs.Wk
