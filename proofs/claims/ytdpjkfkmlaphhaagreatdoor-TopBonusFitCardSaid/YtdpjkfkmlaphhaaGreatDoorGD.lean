/- THE REFERENCE's SUMS AND DIFFERENCES ON PAPER. -/
import Derived.Test.YtdpjkfkmlaphhaaGreatDoorGC
namespace Go.Proofs.Wk
open Go.RowKit Mt

set_option maxRecDepth 100000 in
set_option maxHeartbeats 2000000 in
theorem paper_add (m n : Nat) (w : World) (hla : (Lib.decDigits m).length ≤ 20000) (hlb : (Lib.decDigits n).length ≤ 20000) :
    Calls Tryz.prog 220 #[.string ⟨(Lib.decDigits m).toArray⟩, .string ⟨(Lib.decDigits n).toArray⟩, .bool true] w (Ret w (.string ⟨(Lib.decDigits (m + n)).toArray⟩)) := by
  have pa := dec_len_pos m
  have pb := dec_len_pos n
  have da := allD_dec m
  have db := allD_dec n
  have na := nat_dec m
  have nb := nat_dec n
  generalize Lib.decDigits m = a at *
  generalize Lib.decDigits n = b at *
  subst na nb
  have DA := Lib.hid da; have DB := Lib.hid db; clear da db
  have hsum : ∀ N, a.length + 1 ≤ N → b.length + 1 ≤ N → nat a + nat b < 10 ^ N := by
    intro N h1 h2
    have e1 := nat_lt a DA.out
    have e2 := nat_lt b DB.out
    have e3 : 10 ^ a.length ≤ 10 ^ (N - 1) := pow_mono (by omega)
    have e4 : 10 ^ b.length ≤ 10 ^ (N - 1) := pow_mono (by omega)
    have e5 : 10 ^ N = 10 ^ (N - 1) * 10 := by rw [← Nat.pow_succ]; congr 1; omega
    omega
  have HS := Lib.hid hsum; clear hsum
  go_enter Tryz.func220, Tryz.ntmps220
  go_upto_region 1 with fail
  go_cut [7] (fun s7 wx => ∃ N : Nat, s7 = .int .i64 N ∧ a.length + 1 ≤ N ∧ b.length + 1 ≤ N ∧ N ≤ 20001 ∧ w = wx)
  case first =>
    go_wp2_with fail
    all_goals go_meet
    all_goals
      first
      | exact ⟨a.length + 1, by go_num, by omega, by omega, by omega, rfl⟩
      | exact ⟨b.length + 1, by go_num, by omega, by omega, by omega, rfl⟩
  case rest =>
    obtain ⟨N, rfl, hNa, hNb, hNm, rfl⟩ := hcut
    go_wp2_with fail
    refine (wide_c a N _ (by omega) (by omega) (by omega)).mono ?_
    rintro e w1 ⟨rfl, hb1⟩
    go_wp2_with fail
    refine (wide_c b N _ (by omega) (by omega) (by omega)).mono ?_
    rintro e w2 ⟨rfl, hb2⟩
    have hB0 := Below.step hb1 hb2
    clear hb1 hb2
    obtain ⟨x, hx, hxl, hxd, hxn⟩ : ∃ x : Txt, List.replicate (N - a.length) 48 ++ a = x ∧ x.length = N ∧ allD x = true ∧ nat x = nat a :=
      ⟨_, rfl, by simp; omega, allD_pad _ DA.out, nat_pad _ _⟩
    obtain ⟨y, hy, hyl, hyd, hyn⟩ : ∃ y : Txt, List.replicate (N - b.length) 48 ++ b = y ∧ y.length = N ∧ allD y = true ∧ nat y = nat b :=
      ⟨_, rfl, by simp; omega, allD_pad _ DB.out, nat_pad _ _⟩
    rw [hx, hy]
    clear hx hy
    have hmk := run_make_bytes N (by omega)
    have XL := Lib.hid hxl; have XD := Lib.hid hxd; have XN := Lib.hid hxn; have YL := Lib.hid hyl; have YD := Lib.hid hyd; have YN := Lib.hid hyn
    clear hxl hxd hxn hyl hyd hyn
    go_wp2
    clear hmk
    go_loopw [9, 10] (fun c i wr => ∃ (k cc : Nat) (o : Txt), c = .int .i64 cc ∧ i = .int .i64 ((k : Int) - 1) ∧ k ≤ N ∧ cc < 2 ∧ Hid (o.length = N) ∧ Hid (SumAt x y o k cc) ∧ RB wr w2.heap.size o ∧ Below w.heap.size w wr) (fun _ i _ => (intOf i + 1).toNat)
    case atStart =>
      exact ⟨N, 0, List.replicate N 0, rfl, rfl, Nat.le_refl _, by omega, by simp [Hid], sum_start _ _ _ N XL.out YL.out (by simp), RB.made w2 N, hB0.alloc hB0.size _⟩
    case round =>
      obtain ⟨k, cc, o, rfl, rfl, hk, hcc, hol, hsum, hR, hB⟩ := hrel
      by_cases h0 : 1 ≤ k
      · obtain ⟨i, rfl⟩ : ∃ i, k = i + 1 := ⟨k - 1, by omega⟩
        rw [show (((i + 1 : Nat) : Int) - 1) = (i : Int) by omega]
        have hxl : i < x.length := by have := XL.out; omega
        have hyl : i < y.length := by have := YL.out; omega
        have hol' : i < o.length := by have := hol.out; omega
        have hxd := allD_at XD.out hxl
        have hyd := allD_at YD.out hyl
        have hf := hR.free i
        have hc := hR.cell hol'
        have HX := Lib.hid hxd; have HY := Lib.hid hyd; clear hxd hyd
        have hdx := dv_lt HX.out
        have hdy := dv_lt HY.out
        go_upto_block 1 with fail
        go_cut [9] (fun s9 wx => s9 = .int .i64 (((dv x[i] + dv y[i] + cc) / 10 : Nat) : Int) ∧ RB wx w2.heap.size (o.set i (ch ((dv x[i] + dv y[i] + cc) % 10))) ∧ Below w.heap.size w wx)
        case first =>
          go_wp2_with fail
          go_region_with (go_at_call 254; refine (column_add _ _ _ _ HX.out HY.out hcc).mono ?_; rintro e w' ⟨rfl, rfl⟩)
          all_goals (go_wp2_with fail; go_meet; exact ⟨rfl, RB.set (w := wr.drew) hR i _ rfl, hB.drew.setCell hB0.size _⟩)
        case rest =>
          obtain ⟨rfl, hR2, hB2⟩ := hcut
          go_wp2
          go_roundw
          case rel => exact ⟨i, _, _, rfl, by go_num, by omega, by omega, by show _ = _; rw [List.length_set]; exact hol.out, sum_step XL.out YL.out hol.out (by omega) hsum.out _ _ rfl rfl, hR2, hB2⟩
          case measure => simp [intOf]
      · obtain rfl : k = 0 := by omega
        have hsr := run_string_row hR (n := N) (by have := hol.out; omega) N
        have hne : o ≠ [] := by intro e; have := hol.out; rw [e] at this; simp at this; omega
        obtain ⟨ho1, ho2⟩ := sum_end hol.out hsum.out (by rw [XN.out, YN.out]; exact HS.out N hNa hNb)
        have ho2 : bare o = Lib.decDigits (nat a + nat b) := by rw [bare_spec o hne ho1, ho2, XN.out, YN.out]
        have HO := Lib.hid ho2; clear ho2 ho1
        go_wp2_with fail
        refine (bare_c o _).mono ?_
        rintro e w' ⟨rfl, rfl⟩
        go_wp2
        go_ret
        exact ⟨ret_str HO.out, hB⟩

set_option maxRecDepth 100000 in
set_option maxHeartbeats 2000000 in
theorem paper_sub (m n : Nat) (w : World) (hla : (Lib.decDigits m).length ≤ 20000) (hlb : (Lib.decDigits n).length ≤ 20000) (hmn : n ≤ m) :
    Calls Tryz.prog 220 #[.string ⟨(Lib.decDigits m).toArray⟩, .string ⟨(Lib.decDigits n).toArray⟩, .bool false] w (Ret w (.string ⟨(Lib.decDigits (m - n)).toArray⟩)) := by
  have pa := dec_len_pos m
  have pb := dec_len_pos n
  have da := allD_dec m
  have db := allD_dec n
  have na := nat_dec m
  have nb := nat_dec n
  generalize Lib.decDigits m = a at *
  generalize Lib.decDigits n = b at *
  subst na nb
  have DA := Lib.hid da; have DB := Lib.hid db; clear da db
  go_enter Tryz.func220, Tryz.ntmps220
  go_upto_region 1 with fail
  go_cut [7] (fun s7 wx => ∃ N : Nat, s7 = .int .i64 N ∧ a.length + 1 ≤ N ∧ b.length + 1 ≤ N ∧ N ≤ 20001 ∧ w = wx)
  case first =>
    go_wp2_with fail
    all_goals go_meet
    all_goals
      first
      | exact ⟨a.length + 1, by go_num, by omega, by omega, by omega, rfl⟩
      | exact ⟨b.length + 1, by go_num, by omega, by omega, by omega, rfl⟩
  case rest =>
    obtain ⟨N, rfl, hNa, hNb, hNm, rfl⟩ := hcut
    go_wp2_with fail
    refine (wide_c a N _ (by omega) (by omega) (by omega)).mono ?_
    rintro e w1 ⟨rfl, hb1⟩
    go_wp2_with fail
    refine (wide_c b N _ (by omega) (by omega) (by omega)).mono ?_
    rintro e w2 ⟨rfl, hb2⟩
    have hB0 := Below.step hb1 hb2
    clear hb1 hb2
    obtain ⟨x, hx, hxl, hxd, hxn⟩ : ∃ x : Txt, List.replicate (N - a.length) 48 ++ a = x ∧ x.length = N ∧ allD x = true ∧ nat x = nat a :=
      ⟨_, rfl, by simp; omega, allD_pad _ DA.out, nat_pad _ _⟩
    obtain ⟨y, hy, hyl, hyd, hyn⟩ : ∃ y : Txt, List.replicate (N - b.length) 48 ++ b = y ∧ y.length = N ∧ allD y = true ∧ nat y = nat b :=
      ⟨_, rfl, by simp; omega, allD_pad _ DB.out, nat_pad _ _⟩
    rw [hx, hy]
    clear hx hy
    have hmk := run_make_bytes N (by omega)
    have XL := Lib.hid hxl; have XD := Lib.hid hxd; have XN := Lib.hid hxn; have YL := Lib.hid hyl; have YD := Lib.hid hyd; have YN := Lib.hid hyn
    clear hxl hxd hxn hyl hyd hyn
    go_wp2
    clear hmk
    go_loopw [9, 10] (fun c i wr => ∃ (k cc : Nat) (o : Txt), c = .int .i64 cc ∧ i = .int .i64 ((k : Int) - 1) ∧ k ≤ N ∧ cc < 2 ∧ Hid (o.length = N) ∧ Hid (DifAt x y o k cc) ∧ RB wr w2.heap.size o ∧ Below w.heap.size w wr) (fun _ i _ => (intOf i + 1).toNat)
    case atStart =>
      exact ⟨N, 0, List.replicate N 0, rfl, rfl, Nat.le_refl _, by omega, by simp [Hid], dif_start _ _ _ N XL.out YL.out (by simp), RB.made w2 N, hB0.alloc hB0.size _⟩
    case round =>
      obtain ⟨k, cc, o, rfl, rfl, hk, hcc, hol, hsum, hR, hB⟩ := hrel
      by_cases h0 : 1 ≤ k
      · obtain ⟨i, rfl⟩ : ∃ i, k = i + 1 := ⟨k - 1, by omega⟩
        rw [show (((i + 1 : Nat) : Int) - 1) = (i : Int) by omega]
        have hxl : i < x.length := by have := XL.out; omega
        have hyl : i < y.length := by have := YL.out; omega
        have hol' : i < o.length := by have := hol.out; omega
        have hxd := allD_at XD.out hxl
        have hyd := allD_at YD.out hyl
        have hf := hR.free i
        have hc := hR.cell hol'
        have HX := Lib.hid hxd; have HY := Lib.hid hyd; clear hxd hyd
        obtain ⟨z, kk, hz, hkk, hzk⟩ : ∃ z kk, z < 10 ∧ kk < 2 ∧ z + dv y[i] + cc = dv x[i] + 10 * kk := by
          have hdx := dv_lt HX.out
          have hdy := dv_lt HY.out
          by_cases hlt : dv y[i] + cc ≤ dv x[i]
          · exact ⟨dv x[i] - dv y[i] - cc, 0, by omega, by omega, by omega⟩
          · exact ⟨dv x[i] + 10 - dv y[i] - cc, 1, by omega, by omega, by omega⟩
        have HZ := Lib.hid hzk; clear hzk
        go_upto_block 1 with fail
        go_cut [9] (fun s9 wx => s9 = .int .i64 ((kk : Nat) : Int) ∧ RB wx w2.heap.size (o.set i (ch z)) ∧ Below w.heap.size w wx)
        case first =>
          go_wp2_with fail
          go_region_with (go_at_call 254; refine (column_sub _ _ _ z kk _ HX.out HY.out hcc hz hkk HZ.out).mono ?_; rintro e w' ⟨rfl, rfl⟩)
          all_goals (go_wp2_with fail; go_meet; exact ⟨rfl, RB.set (w := wr.drew) hR i _ rfl, hB.drew.setCell hB0.size _⟩)
        case rest =>
          obtain ⟨rfl, hR2, hB2⟩ := hcut
          go_wp2
          go_roundw
          case rel => exact ⟨i, _, _, rfl, by go_num, by omega, by omega, by show _ = _; rw [List.length_set]; exact hol.out, dif_step XL.out YL.out hol.out (by omega) hsum.out _ _ z kk rfl rfl hz HZ.out, hR2, hB2⟩
          case measure => simp [intOf]
      · obtain rfl : k = 0 := by omega
        have hsr := run_string_row hR (n := N) (by have := hol.out; omega) N
        have hne : o ≠ [] := by intro e; have := hol.out; rw [e] at this; simp at this; omega
        obtain ⟨ho1, ho2⟩ := dif_end hol.out hsum.out (by rw [XN.out, YN.out]; exact hmn)
        have ho2 : bare o = Lib.decDigits (nat a - nat b) := by rw [bare_spec o hne ho1, ho2, XN.out, YN.out]
        have HO := Lib.hid ho2; clear ho2 ho1
        go_wp2_with fail
        refine (bare_c o _).mono ?_
        rintro e w' ⟨rfl, rfl⟩
        go_wp2
        go_ret
        exact ⟨ret_str HO.out, hB⟩
end Go.Proofs.Wk
/- THE REFERENCE's QUOTIENTS ON PAPER, AND ITS SHORT NUMBERS. -/
namespace Go.Proofs.Wk
open Go.RowKit Mt

/-- 'string([]byte{digit})'. -/
theorem run_one_byte (d : Nat) (hd : d < 10) (W : World) :
    (convert 162 9 (.slice (some ⟨W.heap.size, 0, none⟩) 1 1)).run Tryz.prog (W.alloc (.cells #[.int .u8 (48 + (d : Int))] 5)) = .ok (.string ⟨[ch d].toArray⟩) (W.alloc (.cells #[.int .u8 (48 + (d : Int))] 5)) := by
  refine run_string_row (bs := [ch d]) ?_ rfl 1
  unfold RB
  have : (.int .u8 (48 + (d : Int)) : Value) = .int .u8 ((ch d).toNat : Int) := by rw [ch_toNat hd]; go_num
  rw [this]
  exact heap_alloc_new W _

theorem take_one {l : List UInt8} {i : Nat} (h : i < l.length) : List.take 1 (List.drop i l) = [l[i]] := by
  rw [List.drop_eq_getElem_cons h]; rfl

set_option maxRecDepth 100000 in
set_option maxHeartbeats 4000000 in
theorem rdivided_c (m n : Nat) (w : World) (hn0 : 0 < n) (hla : (Lib.decDigits m).length ≤ 10000) (hlb : (Lib.decDigits n).length ≤ 10000) :
    Calls Tryz.prog 169 #[.string ⟨(Lib.decDigits m).toArray⟩, .string ⟨(Lib.decDigits n).toArray⟩] w (Ret w (.tuple #[.string ⟨(Lib.decDigits (m / n)).toArray⟩, .string ⟨(Lib.decDigits (m % n)).toArray⟩])) := by
  have pa := dec_len_pos m
  have da := allD_dec m
  have na := nat_dec m
  obtain ⟨b, hb⟩ : ∃ b, Lib.decDigits n = b := ⟨_, rfl⟩
  rw [hb] at hlb ⊢
  have HB := Lib.hid hb
  clear hb
  generalize Lib.decDigits m = a at *
  subst na
  have DA := Lib.hid da; clear da
  go_enter Tryz.func169, Tryz.ntmps169
  go_wp2_with fail
  go_loopw [6, 7, 8, 9] (fun sq sr si sd wr => ∃ (i R : Nat) (q : Txt), si = .int .i64 i ∧ i ≤ a.length ∧ sr = .string ⟨(Lib.decDigits R).toArray⟩ ∧ sq = .string ⟨q.toArray⟩ ∧ R < n ∧ Hid (q.length = i) ∧ Hid (allD q = true) ∧ Hid (nat q * n + R = nat (a.take i)) ∧ Below w.heap.size w wr) (fun _ _ si _ _ => a.length - (intOf si).toNat)
  case atStart => exact ⟨0, 0, [], rfl, Nat.zero_le _, by rw [dec_zero], rfl, hn0, rfl, rfl, by simp [Hid, nat], Below.refl _ _⟩
  case round =>
    obtain ⟨i, R, q, rfl, hi, rfl, rfl, hR, hql, hqd, hq, hB⟩ := hrel
    by_cases hlt : i < a.length
    · have hc := allD_at DA.out hlt
      have hdl : (Lib.decDigits R).length ≤ 10000 := by
        have := dec_len_mono (Nat.le_of_lt hR); rw [HB.out] at this; omega
      have ht1 := take_one hlt
      have hcat : bare (Lib.decDigits R ++ [a[i]]) = Lib.decDigits (10 * R + dv a[i]) := by
        rw [bare_spec _ (by simp) ((allD_append _ _).2 ⟨allD_dec R, (allD_cons _ _).2 ⟨hc, rfl⟩⟩), nat_snoc, nat_dec]
      have hdv := dv_lt hc
      have htk := nat_take hlt
      obtain ⟨d0, hd0⟩ : ∃ d0, Lib.decDigits R = d0 := ⟨_, rfl⟩
      rw [hd0] at hdl hcat ⊢
      obtain ⟨c0, hc0⟩ : ∃ c0, a[i] = c0 := ⟨_, rfl⟩
      rw [hc0] at ht1 hcat hdv htk
      have HD := Lib.hid hd0; have HC := Lib.hid hc0; have HCAT := Lib.hid hcat; have HTK := Lib.hid htk
      clear hd0 hc hc0 hcat htk
      go_wp2_with fail
      refine (bare_c (d0 ++ [c0]) _).mono ?_
      rintro e w1 ⟨rfl, rfl⟩
      rw [HCAT.out]
      obtain ⟨R1, hR1⟩ : ∃ R1, 10 * R + dv c0 = R1 := ⟨_, rfl⟩
      rw [hR1]
      have HR1 := Lib.hid hR1; clear hR1
      go_wp2
      obtain ⟨wo, rfl⟩ : ∃ wo : World, wo = wr := ⟨_, rfl⟩
      go_loopw [7, 9] (fun sr sd wr => ∃ (R' d : Nat), sr = .string ⟨(Lib.decDigits R').toArray⟩ ∧ sd = .int .u8 (48 + (d : Int)) ∧ Hid (R' + d * n = R1) ∧ d < 10 ∧ Below w.heap.size w wr) (fun _ sd _ => (100 - intOf sd).toNat)
      case atStart => exact ⟨R1, 0, rfl, by go_num, by simp [Hid], by omega, hB⟩
      case round =>
        clear hB
        obtain ⟨R', d, rfl, rfl, hRd, hd, hB⟩ := hrel
        by_cases hge : n ≤ R'
        · have hd9 : d + 1 < 10 := by
            have h1 := HR1.out
            have h2 := hRd.out
            have h3 : (d + 1) * n ≤ R1 := by rw [Nat.add_mul]; omega
            rcases Nat.lt_or_ge (d + 1) 10 with h | h
            · exact h
            · have : 10 * n ≤ (d + 1) * n := Nat.mul_le_mul_right _ h
              omega
          have hl1 : (Lib.decDigits R').length ≤ 20000 := by
            have h1 := HR1.out
            have h2 := hRd.out
            have : R' < 10 * n := by omega
            have := dec_len_bound (n := R') (k := b.length + 1) (by omega) (by
              have := lt_pow_len n; rw [HB.out] at this; rw [Nat.pow_succ]; omega)
            omega
          have hl2 : (Lib.decDigits n).length ≤ 20000 := by rw [HB.out]; omega
          have hless := less_c R' n
          have hps := paper_sub R' n
          rw [HB.out] at hless hps hl2
          have HL := Lib.hid hless; have HP := Lib.hid hps; clear hless hps
          go_wp2_with fail
          refine (HL.out _).mono ?_
          rintro e w2 ⟨rfl, rfl⟩
          rw [show decide (R' < n) = false by simpa using hge]
          go_wp2_with fail
          refine (HP.out _ hl1 hl2 hge).mono ?_
          rintro e w2 ⟨rfl, hb2⟩
          have hb3 := hB.trans (hb2.mono hB.size)
          clear hb2 hB
          go_wp2
          go_roundw
          case rel =>
            refine ⟨R' - n, d + 1, rfl, by go_num, ?_, hd9, hb3⟩
            show _ = _
            have h2 := hRd.out
            rw [Nat.add_mul]; omega
          case measure => simp [intOf]; omega
        · have hless := less_c R' n
          rw [HB.out] at hless
          have HL := Lib.hid hless; clear hless
          go_wp2_with fail
          refine (HL.out _).mono ?_
          rintro e w2 ⟨rfl, rfl⟩
          rw [show decide (R' < n) = true by simp; omega]
          have hcv := run_one_byte d hd
          have hql2 : q.length ≤ 10000 := by have := hql.out; omega
          go_wp2
          go_roundw
          case rel =>
            refine ⟨i + 1, R', q ++ [ch d], by go_num, by omega, rfl, rfl, by omega, ?_, ?_, ?_, hB.alloc hB.size _⟩
            · show _ = _; have := hql.out; simp; omega
            · exact (allD_append _ _).2 ⟨hqd.out, (allD_cons _ _).2 ⟨isD_ch hd, rfl⟩⟩
            · show _ = _
              have h1 := HR1.out
              have h2 := hRd.out
              have h3 := hq.out
              rw [nat_snoc, dv_ch hd, HTK.out, Nat.add_mul, ← h3]
              have : 10 * nat q * n = 10 * (nat q * n) := Nat.mul_assoc _ _ _
              omega
          case measure => simp [intOf]; omega
    · obtain rfl : i = a.length := by omega
      have hqn : q ≠ [] := by intro e; have := hql.out; rw [e] at this; simp at this; omega
      have h3 := hq.out
      rw [List.take_length] at h3
      have e1 : nat a / n = nat q := by
        rw [← h3, Nat.mul_comm, Nat.mul_add_div hn0, Nat.div_eq_of_lt hR]; rfl
      have e2 : nat a % n = R := by
        rw [← h3, Nat.mul_comm, Nat.mul_add_mod, Nat.mod_eq_of_lt hR]
      have e3 : bare q = Lib.decDigits (nat a / n) := by rw [bare_spec q hqn hqd.out, e1]
      have E3 := Lib.hid e3
      have E2 := Lib.hid e2
      clear h3 e1 e2 e3
      go_wp2_with fail
      refine (bare_c q _).mono ?_
      rintro e w1 ⟨rfl, rfl⟩
      rw [E3.out]
      go_wp2
      go_ret2
      refine ⟨?_, hB⟩
      rw [E2.out]; rfl

/-! ### short numbers -/
set_option maxRecDepth 100000 in
set_option maxHeartbeats 1000000 in
theorem Turned_c (m : Int) (w : World) (hl : (Lib.decDigits m.natAbs).length ≤ 20000) : Calls Tryz.prog 89 #[.string ⟨(Lib.itoa m).toArray⟩] w (Pur w (.string ⟨(Lib.itoa (-m)).toArray⟩)) := by
  have h1 := size_c (Lib.itoa m)
  have h2 := Below_c (Lib.itoa m)
  rw [body_itoa] at h1
  rw [neg_itoa] at h2
  have h3 := itoa_ne_nil m
  have h4 : (if (!decide (m < 0)) then -((m.natAbs : Nat) : Int) else ((m.natAbs : Nat) : Int)) = -m := by
    by_cases h : m < 0
    · simp [h]; omega
    · simp [h]; omega
  have h5 := signed_c m.natAbs (!decide (m < 0))
  rw [h4] at h5
  have H1 := Lib.hid h1; have H2 := Lib.hid h2; have H3 := Lib.hid h3; have H5 := Lib.hid h5
  clear h1 h2 h3 h4 h5
  generalize Lib.itoa m = l at *
  go_enter Tryz.func89, Tryz.ntmps89
  go_wp2_with fail
  refine (H1.out _).mono ?_; rintro e w1 ⟨rfl, rfl⟩
  go_wp2_with fail
  refine (H2.out _ H3.out).mono ?_; rintro e w1 ⟨rfl, rfl⟩
  go_wp2_with fail
  refine (H5.out _ (by omega)).mono ?_; rintro e w1 ⟨rfl, rfl⟩
  go_wp2
  go_ret
  exact ⟨rfl, rfl⟩

set_option maxRecDepth 100000 in
set_option maxHeartbeats 1000000 in
theorem number_c (m : Int) (w : World) (hl : (Lib.decDigits m.natAbs).length ≤ 18) : Calls Tryz.prog 217 #[.string ⟨(Lib.itoa m).toArray⟩] w (Pur w (.int .i64 m)) := by
  have h1 := size_c (Lib.itoa m)
  have h2 := Below_c (Lib.itoa m)
  rw [body_itoa] at h1
  rw [neg_itoa] at h2
  have h3 := itoa_ne_nil m
  have hd := allD_dec m.natAbs
  have hn := nat_dec m.natAbs
  have H1 := Lib.hid h1; have H2 := Lib.hid h2; have H3 := Lib.hid h3
  clear h1 h2 h3
  generalize Lib.itoa m = l at *
  generalize Lib.decDigits m.natAbs = a at *
  have HD := Lib.hid hd; have HN := Lib.hid hn; clear hd hn
  go_enter Tryz.func217, Tryz.ntmps217
  go_wp2_with fail
  refine (H1.out _).mono ?_; rintro e w1 ⟨rfl, rfl⟩
  go_wp2_with fail
  go_loop [3, 5] (fun sn si => ∃ (i : Nat) (v : Nat), si = .int .i64 i ∧ i ≤ a.length ∧ sn = .int .i64 v ∧ Hid (nat (a.take i) = v) ∧ v < 1000000000000000000) (fun _ si => a.length - (intOf si).toNat)
  case atStart => exact ⟨0, 0, rfl, Nat.zero_le _, rfl, rfl, by omega⟩
  case round =>
    obtain ⟨i, v, rfl, hi, rfl, hv, hlt⟩ := hrel
    by_cases hlt2 : i < a.length
    · have hda := (isD_iff _).1 (allD_at HD.out hlt2)
      obtain ⟨p, hp⟩ : ∃ p, a[i].toNat = p + 48 := ⟨a[i].toNat - 48, by omega⟩
      have hp9 : p ≤ 9 := by omega
      clear hda
      have hstep : nat (a.take (i + 1)) = 10 * v + p := by
        rw [nat_take hlt2, hv.out]; unfold dv; omega
      have hb : 10 * v + p < 1000000000000000000 := by
        rw [← hstep]
        have h1 := nat_lt _ (allD_take HD.out (i + 1))
        have h2 : 10 ^ (a.take (i + 1)).length ≤ 10 ^ 18 := pow_mono (by rw [List.length_take]; omega)
        have h3 : (10 : Nat) ^ 18 = 1000000000000000000 := by decide
        omega
      have HS := Lib.hid hstep; clear hstep
      go_wp2
      go_round
      case rel => exact ⟨i + 1, 10 * v + p, by go_num, by omega, by go_num, HS.out, hb⟩
      case measure => simp [intOf]; omega
    · obtain rfl : i = a.length := by omega
      have hv2 : v = m.natAbs := by
        have := hv.out; rw [List.take_length, HN.out] at this; exact this.symm
      have HV := Lib.hid hv2; clear hv2
      go_wp2_with fail
      refine (H2.out _ H3.out).mono ?_; rintro e w1 ⟨rfl, rfl⟩
      by_cases hneg : m < 0
      · go_wp2
        go_ret
        refine ⟨ret_int ?_, rfl⟩
        have := HV.out; omega
      · go_wp2
        go_ret
        refine ⟨ret_int ?_, rfl⟩
        have := HV.out; omega

set_option maxRecDepth 100000 in
set_option maxHeartbeats 1000000 in
theorem brief_yes (m n : Int) (w : World) (hm : (Lib.decDigits m.natAbs).length ≤ 18) (hn : (Lib.decDigits n.natAbs).length ≤ 18) :
    Calls Tryz.prog 168 #[.string ⟨(Lib.itoa m).toArray⟩, .string ⟨(Lib.itoa n).toArray⟩] w (Pur w (.tuple #[.int .i64 m, .int .i64 n, .bool true])) := by
  have h1 := size_c (Lib.itoa m)
  have h2 := size_c (Lib.itoa n)
  rw [body_itoa] at h1 h2
  have h3 := number_c m
  have h4 := number_c n
  have H1 := Lib.hid h1; have H2 := Lib.hid h2; have H3 := Lib.hid h3; have H4 := Lib.hid h4
  clear h1 h2 h3 h4
  generalize Lib.itoa m = l at *
  generalize Lib.itoa n = k at *
  generalize Lib.decDigits m.natAbs = a at *
  generalize Lib.decDigits n.natAbs = b at *
  go_enter Tryz.func168, Tryz.ntmps168
  go_wp2_with fail
  refine (H1.out _).mono ?_; rintro e w1 ⟨rfl, rfl⟩
  go_wp2_with fail
  refine (H2.out _).mono ?_; rintro e w1 ⟨rfl, rfl⟩
  go_wp2_with fail
  refine (H3.out _ hm).mono ?_; rintro e w1 ⟨rfl, rfl⟩
  go_wp2_with fail
  refine (H4.out _ hn).mono ?_; rintro e w1 ⟨rfl, rfl⟩
  go_wp2
  go_ret3
  exact ⟨rfl, rfl⟩

set_option maxRecDepth 100000 in
set_option maxHeartbeats 1000000 in
theorem brief_no (m n : Int) (w : World) (h : ¬ ((Lib.decDigits m.natAbs).length ≤ 18 ∧ (Lib.decDigits n.natAbs).length ≤ 18)) :
    Calls Tryz.prog 168 #[.string ⟨(Lib.itoa m).toArray⟩, .string ⟨(Lib.itoa n).toArray⟩] w (Pur w (.tuple #[.int .i64 0, .int .i64 0, .bool false])) := by
  have h1 := size_c (Lib.itoa m)
  have h2 := size_c (Lib.itoa n)
  rw [body_itoa] at h1 h2
  have H1 := Lib.hid h1; have H2 := Lib.hid h2
  clear h1 h2
  generalize Lib.itoa m = l at *
  generalize Lib.itoa n = k at *
  generalize Lib.decDigits m.natAbs = a at *
  generalize Lib.decDigits n.natAbs = b at *
  by_cases ha : a.length ≤ 18
  · have hb : ¬ b.length ≤ 18 := fun x => h ⟨ha, x⟩
    clear h
    go_enter Tryz.func168, Tryz.ntmps168
    go_wp2_with fail
    refine (H1.out _).mono ?_; rintro e w1 ⟨rfl, rfl⟩
    go_wp2_with fail
    refine (H2.out _).mono ?_; rintro e w1 ⟨rfl, rfl⟩
    go_wp2
    go_ret3
    exact ⟨rfl, rfl⟩
  · clear h
    go_enter Tryz.func168, Tryz.ntmps168
    go_wp2_with fail
    refine (H1.out _).mono ?_; rintro e w1 ⟨rfl, rfl⟩
    go_wp2
    go_ret3
    exact ⟨rfl, rfl⟩

/-! ### ints as texts -/
set_option maxRecDepth 100000 in
set_option maxHeartbeats 1000000 in
theorem Of_pos (n : Nat) (w : World) (hn : n ≤ 9223372036854775807) : Calls Tryz.prog 45 #[.int .i64 (n : Int)] w (Ret w (.string ⟨(Lib.decDigits n).toArray⟩)) := by
  have hdl : (Lib.decDigits n).length ≤ 20 := by have := dec_int64 (n := n) (by omega); omega
  have key : (((n : Int) == -(n : Int)) = false ∧ True) ∨ (((n : Int) == -(n : Int)) = true ∧ ((n : Int) != 0) = false) := by
    rcases Nat.eq_zero_or_pos n with h0 | h0
    · subst h0; right; decide
    · left; refine ⟨?_, trivial⟩; rw [beq_eq_false_iff_ne]; omega
  obtain ⟨D, hD⟩ : ∃ D, Lib.decDigits n = D := ⟨_, rfl⟩
  rw [hD] at hdl ⊢
  have HD := Lib.hid hD
  clear hD
  rcases key with ⟨hb, hb2⟩ | ⟨hb, hb2⟩
  all_goals
    go_enter Tryz.func45, Tryz.ntmps45
    go_wp2_with fail
    go_loopw [0, 3] (fun sn ss wr => ∃ (m : Nat) (s : Txt), sn = .int .i64 m ∧ ss = .string ⟨s.toArray⟩ ∧ m ≤ 9223372036854775807 ∧ Hid (Lib.decDigits m ++ s = D) ∧ Below w.heap.size w wr) (fun sn _ _ => (intOf sn).toNat)
    case atStart => exact ⟨n, [], rfl, rfl, hn, by show _ = _; rw [List.append_nil]; exact HD.out, Below.refl _ _⟩
    case round =>
      clear hb hb2 hn
      obtain ⟨m, s, rfl, rfl, hm, hs, hB⟩ := hrel
      have hsl : s.length ≤ 20 := by have := hs.out; rw [← this] at hdl; simp at hdl; omega
      clear hdl
      by_cases h9 : 9 < m
      · obtain ⟨r, hr⟩ : ∃ r, m % 10 = r := ⟨_, rfl⟩
        have hr10 : r < 10 := by omega
        have hcv := run_one_byte r hr10
        have hrr : (m : Int) % 10 = (r : Int) := by omega
        have hsn : Lib.decDigits (m / 10) ++ (ch r :: s) = D := by
          rw [← hs.out, decDigits_big (n := m) (by omega), hr]
          show _ = (_ ++ [ch r]) ++ s
          simp
        have HS := Lib.hid hsn
        clear hsn hr
        go_wp2
        go_roundw
        case rel => exact ⟨m / 10, ch r :: s, by go_num, rfl, by omega, HS.out, hB.alloc hB.size _⟩
        case measure => simp [intOf]; omega
      · have hcv := run_one_byte m (by omega)
        have hsn : ch m :: s = D := by
          rw [← hs.out, decDigits_small (n := m) (by omega)]
          rfl
        have HS := Lib.hid hsn
        clear hsn
        go_wp2
        go_ret
        exact ⟨ret_str HS.out, hB.alloc hB.size _⟩

set_option maxRecDepth 100000 in
set_option maxHeartbeats 1000000 in
theorem Of_c (n : Int) (w : World) (h0 : -9223372036854775808 ≤ n) (h1 : n ≤ 9223372036854775807) : Calls Tryz.prog 45 #[.int .i64 n] w (Ret w (.string ⟨(Lib.itoa n).toArray⟩)) := by
  by_cases hn : 0 ≤ n
  · obtain ⟨k, rfl⟩ := Int.eq_ofNat_of_zero_le hn
    rw [itoa_nat]
    exact Of_pos k w (by omega)
  · by_cases hmin : n = -9223372036854775808
    · have hng : IntKind.i64.wrap (-n) = n := by rw [IntKind.wrap_i64]; omega
      have hne : (n != 0) = true := by rw [bne_iff_ne]; omega
      have HM := Lib.hid hmin
      clear hmin h0 h1 hn
      have e : Lib.itoa (-9223372036854775808) = [45, 57, 50, 50, 51, 51, 55, 50, 48, 51, 54, 56, 53, 52, 55, 55, 53, 56, 48, 56] := itoa_val (l := [45, 57, 50, 50, 51, 51, 55, 50, 48, 51, 54, 56, 53, 52, 55, 55, 53, 56, 48, 56]) (by decide)
      have E := Lib.hid e
      clear e
      go_enter Tryz.func45, Tryz.ntmps45
      go_wp2
      go_ret
      exact ⟨ret_str (by rw [HM.out, E.out]), Below.refl _ _⟩
    · obtain ⟨k, hk⟩ : ∃ k : Nat, -n = k := ⟨n.natAbs, by omega⟩
      have hk1 : 1 ≤ k := by omega
      have hk2 : k ≤ 9223372036854775807 := by omega
      obtain rfl : n = -(k : Int) := by omega
      have hb : (-(k : Int) == (k : Int)) = false := by rw [beq_eq_false_iff_ne]; omega
      have hdl : (Lib.decDigits k).length ≤ 20 := by have := dec_int64 (n := k) (by omega); omega
      have ht := Turned_c (k : Int)
      rw [itoa_nat] at ht
      have HT := Lib.hid ht
      clear ht hk hmin h0 h1 hn
      go_enter Tryz.func45, Tryz.ntmps45
      go_wp2_with fail
      refine (Of_pos k _ hk2).mono ?_; rintro e w1 ⟨rfl, hb1⟩
      go_wp2_with fail
      refine (HT.out _ (by simp; omega)).mono ?_; rintro e w2 ⟨rfl, rfl⟩
      go_wp2
      go_ret
      exact ⟨rfl, hb1⟩
end Go.Proofs.Wk
/- THE REFERENCE's WHOLE NUMBERS: the check of a text; sums, differences, products and the order of integers. -/
namespace Go.Proofs.Wk
open Go.RowKit Mt

theorem size_i (m : Int) (w : World) : Calls Tryz.prog 140 #[.string ⟨(Lib.itoa m).toArray⟩] w (Pur w (.string ⟨(Lib.decDigits m.natAbs).toArray⟩)) := by
  have h := size_c (Lib.itoa m) w
  rwa [body_itoa] at h
theorem Below_i (m : Int) (w : World) : Calls Tryz.prog 121 #[.string ⟨(Lib.itoa m).toArray⟩] w (Pur w (.bool (decide (m < 0)))) := by
  have h := Below_c (Lib.itoa m) w (itoa_ne_nil m)
  rwa [neg_itoa] at h

end Go.Proofs.Wk
