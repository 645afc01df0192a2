/- THE LAW RegisterKeeps: the walk. -/
import Derived.Test.YtffmhlaenfecgaaGreatDoorLgK
namespace Go.Proofs.Wk
open Go.RowKit Mt

theorem newLot_eq {k : Int} {lx nm : Txt} {n sz gd bd cn sc st : Int} (h : (⟨nm, sz, gd, bd, cn, sc, st⟩ : Rg.Lt) = Rg.newLot ⟨k, lx, n⟩) : nm = lx ∧ sz = n ∧ gd = 0 ∧ bd = 0 ∧ cn = 0 ∧ sc = 0 ∧ st = 0 := by
  unfold Rg.newLot at h
  simpa using h
theorem slx_pos {α : Type} [Row α] {w : World} {v : Value} {ls : List α} (S : SlX w v ls) (hp : 0 < ls.length) : ∃ b off cap, v = .slice (some ⟨b, off, none⟩) ls.length cap ∧ RX w b off ls ∧ b < w.heap.size := by
  rcases S with ⟨a, cap, rfl, rfl⟩ | h
  · exact absurd hp (Nat.lt_irrefl _)
  · exact h
theorem sl_inj {a a' : Option Addr} {n n' c c' : Nat} (h : Value.slice a n c = .slice a' n' c') : a = a' ∧ n = n' ∧ c = c' := by
  simpa using h
theorem slx_nil {α : Type} [Row α] {w : World} {v : Value} (S : SlX w v ([] : List α)) : ∃ a cap, v = .slice a 0 cap := by
  rcases S with ⟨a, cap, rfl, -⟩ | ⟨b, off, cap, rfl, -, -⟩
  · exact ⟨a, cap, rfl⟩
  · exact ⟨_, cap, rfl⟩
set_option maxRecDepth 100000 in
set_option maxHeartbeats 8000000 in
theorem keeps_c {u : Value} (ls : List Rg.Lt) (x : Rg.En) (w : World) (hg : Good w) (T : SlX w u ls) (hll : ls.length * 64 ≤ 140737488355328) (hnl : ∀ x ∈ ls, x.nm.length ≤ 140737488355328) (hx : x.lot.length ≤ 140737488355328) :
    Calls Tryz.prog 6 #[u, entV x] w (Ret w (.bool true)) := by
  have HG := Lib.hid hg
  have HA := Lib.hid (fun W hW => awake_c W hW)
  have HL := Lib.hid (fun W S => lots_c (v := u) ls W S hll)
  have HFL := Lib.hid (fun a W (S : SlX W a ls) => FewLots_c ls W S (by omega))
  have HC := Lib.hid (fun a W (S : SlX W a ls) => rCheck_g ls W S hnl)
  have H1 := Lib.hid (fun W S => Do_c (v := u) ls x W S hnl hx)
  have H3 := fun h => Lib.hid (fun a W (S : SlX W a (Rg.doL ls x).1) => by have := rgCheck_c (Rg.doL ls x).1 W S (doL_nm h); rwa [doL_chk h] at this)
  have HI := Lib.hid (fun nm ab W S hc => ixN_c (v := u) ls nm ab W S hc (by omega))
  have hkeep := fun h => @keepL ls x h
  have hbad := @doL_bad ls x
  have hlen := @keep_len ls x
  have hchk := @doL_chk ls x
  have hk0 := fun h => (Rg.rightE_iff x).1 (@doL_ok ls x h).2.1
  have hcl : Rg.chkE ls = 0 → ∀ a ∈ ls, (1 ≤ a.sz ∧ a.sz ≤ 1048576) ∧ (0 ≤ a.gd ∧ a.gd ≤ 1048576) ∧ (0 ≤ a.bd ∧ a.bd ≤ 1048576) ∧ (0 ≤ a.cn ∧ a.cn ≤ 1048576) ∧ (0 ≤ a.sc ∧ a.sc ≤ 1048576) ∧ (0 ≤ a.st ∧ a.st ≤ 2) := fun h a ha => lot_nums h ha
  have hl256 := doL_len ls x
  have HT := Lib.hid T
  have J := BX.new w #[.int .i64 x.k, .string ⟨x.lot.toArray⟩, .int .i64 x.n] 24
  obtain ⟨k, lx, n⟩ := x
  simp only at J hx hk0
  generalize Rg.doL ls ⟨k, lx, n⟩ = R1 at *
  generalize fewL ls = g at *
  generalize Rg.chkE ls = c at *
  obtain ⟨r1, e1⟩ := R1
  simp only at hkeep hbad hlen hchk hk0 hl256 H3
  obtain ⟨N, hN⟩ : ∃ N, ls.length = N := ⟨_, rfl⟩
  have HN := Lib.hid hN
  have hu : ∃ a cap, u = .slice a N cap := by
    rcases T with ⟨a, cap, rfl, rfl⟩ | ⟨b, off, cap, rfl, -, -⟩
    · exact ⟨a, cap, by rw [← hN]; rfl⟩
    · exact ⟨_, cap, by rw [← hN]⟩
  obtain ⟨ua, uc, rfl⟩ := hu
  rw [hN] at hlen hll
  obtain ⟨d0, d1, d2⟩ := cell3 J.c
  have HJ := Lib.hid J
  clear hg hnl T J hN
  cases g with
  | false =>
    clear hcl
    clear HC H1 H3 HI hkeep hbad hlen hchk hk0 hl256
    go_enter Tryz.func6, Tryz.ntmps6
    go_upto_region 1 with fail
    generalize World.alloc _ _ = W0 at *
    go_wp2_with fail
    ((with_reducible refine (HL.out _ (HT.out.later HJ.out.w)).mono ?_); rintro e w1 ⟨v1, rfl, s1, b1⟩)
    have J1 := Lib.hid (HJ.out.later b1)
    clear d0 d1 d2
    obtain ⟨d0, d1, d2⟩ := cell3 J1.out.c
    go_wp2_with fail
    ((with_reducible refine (HFL.out _ _ s1).mono ?_); rintro e w2 ⟨rfl, rfl⟩)
    clear s1 b1
    go_wp2_with fail
    ((with_reducible refine (HA.out _ (HG.out.later J1.out.w)).mono ?_); rintro e w3 ⟨rfl, b3⟩)
    have B3 := Lib.hid (J1.out.later b3).w
    clear b3
    go_wp2
    go_ret
    exact ⟨rfl, B3.out⟩
  | true =>
    by_cases h60 : 60 < lx.length
    · clear hcl
      clear HC H1 H3 HI hkeep hbad hlen hchk hk0 hl256
      go_enter Tryz.func6, Tryz.ntmps6
      go_upto_region 1 with fail
      generalize World.alloc _ _ = W0 at *
      go_wp2_with fail
      ((with_reducible refine (HL.out _ (HT.out.later HJ.out.w)).mono ?_); rintro e w1 ⟨v1, rfl, s1, b1⟩)
      have J1 := Lib.hid (HJ.out.later b1)
      clear d0 d1 d2
      obtain ⟨d0, d1, d2⟩ := cell3 J1.out.c
      go_wp2_with fail
      ((with_reducible refine (HFL.out _ _ s1).mono ?_); rintro e w2 ⟨rfl, rfl⟩)
      clear s1 b1
      go_wp2_with fail
      ((with_reducible refine (HA.out _ (HG.out.later J1.out.w)).mono ?_); rintro e w3 ⟨rfl, b3⟩)
      have B3 := Lib.hid (J1.out.later b3).w
      clear b3
      go_wp2
      go_ret
      exact ⟨rfl, B3.out⟩
    · by_cases hc : c = 0
      rotate_left
      · have hcb : (c != 0) = true := bne_iff_ne.2 hc
        clear H1 H3 HI hkeep hbad hlen hchk hk0 hl256 hcl hc
        go_enter Tryz.func6, Tryz.ntmps6
        go_upto_region 1 with fail
        generalize World.alloc _ _ = W0 at *
        go_wp2_with fail
        ((with_reducible refine (HL.out _ (HT.out.later HJ.out.w)).mono ?_); rintro e w1 ⟨v1, rfl, s1, b⟩)
        have J := Lib.hid (HJ.out.later b)
        clear b d0 d1 d2
        obtain ⟨d0, d1, d2⟩ := cell3 J.out.c
        go_wp2_with fail
        ((with_reducible refine (HFL.out _ _ s1).mono ?_); rintro e w2 ⟨rfl, rfl⟩)
        clear s1
        go_wp2_with fail
        ((with_reducible refine (HL.out _ (HT.out.later J.out.w)).mono ?_); rintro e w2 ⟨v2, rfl, s2, b⟩)
        have J := Lib.hid (J.out.later b)
        clear b d0 d1 d2
        obtain ⟨d0, d1, d2⟩ := cell3 J.out.c
        go_wp2_with fail
        ((with_reducible refine (HC.out _ _ s2).mono ?_); rintro e w3 ⟨rfl, b⟩)
        clear s2
        have J := Lib.hid (J.out.later b)
        clear b d0 d1 d2
        obtain ⟨d0, d1, d2⟩ := cell3 J.out.c
        go_wp2_with fail
        ((with_reducible refine (HA.out _ (HG.out.later J.out.w)).mono ?_); rintro e w9 ⟨rfl, b⟩)
        have B9 := Lib.hid (J.out.later b).w
        clear b
        go_wp2
        go_ret
        exact ⟨rfl, B9.out⟩
      · subst hc
        have HB := Lib.hid (hcl rfl)
        clear hcl
        by_cases h1 : e1 = 0
        rotate_left
        · have heb : (e1 != 0) = true := bne_iff_ne.2 h1
          obtain rfl := hbad h1
          clear H3 HI hkeep hbad hlen hchk hk0 hl256 h1 HB
          go_enter Tryz.func6, Tryz.ntmps6
          go_upto_region 1 with fail
          generalize World.alloc _ _ = W0 at *
          go_wp2_with fail
          ((with_reducible refine (HL.out _ (HT.out.later HJ.out.w)).mono ?_); rintro e w1 ⟨v1, rfl, s1, b⟩)
          have J := Lib.hid (HJ.out.later b)
          clear b d0 d1 d2
          obtain ⟨d0, d1, d2⟩ := cell3 J.out.c
          go_wp2_with fail
          ((with_reducible refine (HFL.out _ _ s1).mono ?_); rintro e w2 ⟨rfl, rfl⟩)
          clear s1
          go_wp2_with fail
          ((with_reducible refine (HL.out _ (HT.out.later J.out.w)).mono ?_); rintro e w2 ⟨v2, rfl, s2, b⟩)
          have J := Lib.hid (J.out.later b)
          clear b d0 d1 d2
          obtain ⟨d0, d1, d2⟩ := cell3 J.out.c
          go_wp2_with fail
          ((with_reducible refine (HC.out _ _ s2).mono ?_); rintro e w3 ⟨rfl, b⟩)
          clear s2
          have J := Lib.hid (J.out.later b)
          clear b d0 d1 d2
          obtain ⟨d0, d1, d2⟩ := cell3 J.out.c
          go_wp2_with fail
          ((with_reducible refine (H1.out _ (HT.out.later J.out.w)).mono ?_); rintro e w4 ⟨v4, rfl, s4, b⟩)
          have X := Lib.hid s4
          clear s4
          have J := Lib.hid (J.out.later b)
          clear b d0 d1 d2
          obtain ⟨d0, d1, d2⟩ := cell3 J.out.c
          obtain ⟨va, vc, rfl⟩ := slx_nil X.out
          go_wp2_with fail
          ((with_reducible refine (HA.out _ (HG.out.later J.out.w)).mono ?_); rintro e w9 ⟨rfl, b⟩)
          have B9 := Lib.hid (J.out.later b).w
          clear b
          go_wp2
          go_ret
          exact ⟨rfl, B9.out⟩
        · subst h1
          replace H3 := H3 rfl
          have HK := Lib.hid (fun a (ha : a ∈ r1) => hkeep rfl ha)
          have hlen := hlen rfl
          have HM := Lib.hid (fun a (ha : a ∈ r1) => lot_nums (hchk rfl) ha)
          have hk0 := hk0 rfl
          have hkn : (k = 1 ∨ k = 2) → 0 ≤ n ∧ n ≤ 1048576 := fun q => by have := hk0.2.2.2 (by omega); omega
          clear hkeep hbad hchk hk0
          obtain ⟨M, hM⟩ : ∃ M, r1.length = M := ⟨_, rfl⟩
          rw [hM] at hlen hl256
          have HKN := Lib.hid hkn
          have h60b : decide ((60 : Int) < (lx.length : Int)) = false := decide_eq_false (by omega)
          have hmn1 : decide ((M : Int) < (N : Int)) = false := decide_eq_false (by omega)
          have hmn2 : decide ((N : Int) + 1 < (M : Int)) = false := decide_eq_false (by omega)
          obtain ⟨hl1, hl2⟩ := hlen
          have hmn3 : decide (M < N) = false := decide_eq_false (by omega)
          have hmn4 : decide (N + 1 < M) = false := decide_eq_false (by omega)
          clear hkn h60
          go_enter Tryz.func6, Tryz.ntmps6
          go_upto_region 1 with fail
          generalize World.alloc _ _ = W0 at *
          go_wp2_with fail
          ((with_reducible refine (HL.out _ (HT.out.later HJ.out.w)).mono ?_); rintro e w1 ⟨v1, rfl, s1, b⟩)
          have J := Lib.hid (HJ.out.later b)
          clear b d0 d1 d2
          obtain ⟨d0, d1, d2⟩ := cell3 J.out.c
          go_wp2_with fail
          ((with_reducible refine (HFL.out _ _ s1).mono ?_); rintro e w2 ⟨rfl, rfl⟩)
          clear s1
          go_wp2_with fail
          ((with_reducible refine (HL.out _ (HT.out.later J.out.w)).mono ?_); rintro e w2 ⟨v2, rfl, s2, b⟩)
          have J := Lib.hid (J.out.later b)
          clear b d0 d1 d2
          obtain ⟨d0, d1, d2⟩ := cell3 J.out.c
          go_wp2_with fail
          ((with_reducible refine (HC.out _ _ s2).mono ?_); rintro e w3 ⟨rfl, b⟩)
          clear s2
          have J := Lib.hid (J.out.later b)
          clear b d0 d1 d2
          obtain ⟨d0, d1, d2⟩ := cell3 J.out.c
          go_wp2_with fail
          ((with_reducible refine (H1.out _ (HT.out.later J.out.w)).mono ?_); rintro e w4 ⟨v4, rfl, s4, b⟩)
          have X := Lib.hid s4
          clear s4
          have J := Lib.hid (J.out.later b)
          clear b d0 d1 d2
          obtain ⟨d0, d1, d2⟩ := cell3 J.out.c
          have hv : ∃ a cap, v4 = .slice a M cap := by
            rcases X.out with ⟨a, cap, rfl, rfl⟩ | ⟨b, off, cap, rfl, -, -⟩
            · exact ⟨a, cap, by rw [← hM]; rfl⟩
            · exact ⟨_, cap, by rw [← hM]⟩
          obtain ⟨va, vc, rfl⟩ := hv
          have HMM := Lib.hid hM
          clear hM
          go_wp2_with fail
          ((with_reducible refine (H3.out _ _ X.out).mono ?_); rintro e w5 ⟨rfl, b⟩)
          have X := Lib.hid (X.out.later b)
          have J := Lib.hid (J.out.later b)
          clear b d0 d1 d2
          obtain ⟨d0, d1, d2⟩ := cell3 J.out.c
          go_wp2_with fail
          clear HC H1 H3 HL HFL d0 d1 d2
          go_loopw [65] (fun si wr => ∃ i : Nat, si = .int .i64 (i : Int) ∧ i ≤ M ∧ Hid (Below w5.heap.size w5 wr)) (fun si _ => M - (intOf si).toNat)
          case atStart => exact ⟨0, rfl, Nat.zero_le _, Below.refl _ _⟩
          case round =>
            obtain ⟨i, rfl, hi, hB⟩ := hrel
            have J := J.out.later hB.out
            by_cases hlt : i < M
            · have hlt' : i < r1.length := by rw [HMM.out]; exact hlt
              obtain ⟨vb, vo, vcap, hve, hRv, hvb⟩ := slx_pos (X.out.later hB.out) (Nat.lt_of_le_of_lt (Nat.zero_le _) hlt')
              rw [HMM.out] at hve
              obtain ⟨rfl, -, rfl⟩ := sl_inj hve
              clear hve
              obtain ⟨k0, k1, k2, k3, k4, k5, k6⟩ := hRv.lot hlt'
              obtain ⟨d0, d1, d2⟩ := cell3 J.c
              have hk := Lib.hid (HK.out _ (List.getElem_mem hlt'))
              have hnum := HM.out r1[i] (List.getElem_mem hlt')
              clear hRv
              generalize r1[i] = a at *
              obtain ⟨nm, sz, gd, bd, cn, sc, st⟩ := a
              simp only at k0 k1 k2 k3 k4 k5 k6 hk hnum
              have HX := Lib.hid (LotAt.box wr ⟨nm, sz, gd, bd, cn, sc, st⟩ 57)
              have hBx := Lib.hid (hB.out.alloc hB.out.size (.cells #[.string ⟨nm.toArray⟩, .int .i64 sz, .int .i64 gd, .int .i64 bd, .int .i64 cn, .int .i64 sc, .int .i64 st] 57))
              have hJx := Lib.hid (J.alloc (.cells #[.string ⟨nm.toArray⟩, .int .i64 sz, .int .i64 gd, .int .i64 bd, .int .i64 cn, .int .i64 sc, .int .i64 st] 57))
              go_wp2_with fail
              ((with_reducible refine (HI.out nm _ _ (HT.out.later hJx.out.w) HX.out.c0).mono ?_); rintro e w2 ⟨j, rfl, hj, b2⟩)
              have hB2 := hBx.out.trans (b2.mono hBx.out.size)
              have HX2 := HX.out.later b2
              have J2 := hJx.out.later b2
              clear d0 d1 d2 k0 k1 k2 k3 k4 k5 k6
              obtain ⟨c0, c1, c2, c3, c4, c5, c6, cl⟩ := id HX2
              simp only [Nat.zero_add] at c0 c1 c2 c3 c4 c5 c6
              obtain ⟨d0, d1, d2⟩ := cell3 J2.c
              have hdl : w.heap.size < w2.heap.size := (Array.getElem?_eq_some_iff.1 J2.c).1
              rcases hj with ⟨rfl, hj⟩ | ⟨q, hq, rfl, hj⟩
              · have HBN := Lib.hid hB2
                have hq := hk.out.1 hj
                obtain ⟨rfl, hn⟩ := hq
                obtain ⟨rfl, rfl, rfl, rfl, rfl, rfl, rfl⟩ := newLot_eq hn
                clear hn hj hk hnum
                go_wp2
                go_roundw
                case rel => exact ⟨i + 1, by go_num, by omega, HBN⟩
                case measure => simp [intOf]; omega
              · have hkp := hk.out.2 _ hj
                have hnb := HB.out ls[q] (List.getElem_mem hq)
                obtain ⟨ub, uo, ucap, hue, hRu, hub⟩ := slx_pos (HT.out.later J2.w) (Nat.lt_of_le_of_lt (Nat.zero_le _) hq)
                rw [HN.out] at hue
                obtain ⟨rfl, -, rfl⟩ := sl_inj hue
                obtain ⟨l0, l1, l2, l3, l4, l5, l6⟩ := hRu.lot hq
                have hqN : q < N := by rw [← HN.out]; exact hq
                generalize ls[q] = bb at *
                obtain ⟨nm', sz', gd', bd', cn', sc', st'⟩ := bb
                simp only at l0 l1 l2 l3 l4 l5 l6 hnb
                have HXB := Lib.hid (LotAt.box w2 ⟨nm', sz', gd', bd', cn', sc', st'⟩ 57)
                have HBN := Lib.hid (hB2.alloc hB2.size (.cells #[.string ⟨nm'.toArray⟩, .int .i64 sz', .int .i64 gd', .int .i64 bd', .int .i64 cn', .int .i64 sc', .int .i64 st'] 57))
                have HJN := Lib.hid (J2.alloc (.cells #[.string ⟨nm'.toArray⟩, .int .i64 sz', .int .i64 gd', .int .i64 bd', .int .i64 cn', .int .i64 sc', .int .i64 st'] 57))
                obtain ⟨hkp1, hkp2, hkp3, hkp4, hkp5, hkp6, hkp7⟩ := hkp
                simp only at hkp1 hkp2 hkp3 hkp4 hkp5 hkp6 hkp7
                obtain ⟨⟨a1, a2⟩, ⟨a3, a4⟩, ⟨a5, a6⟩, ⟨a7, a8⟩, ⟨a9, a10⟩, ⟨a11, a12⟩⟩ := hnum
                obtain ⟨⟨b1, b2⟩, ⟨b3, b4⟩, ⟨b5, b6⟩, ⟨b7, b8⟩, ⟨b9, b10⟩, ⟨b11, b12⟩⟩ := hnb
                clear hk hj HX HX2 hBx hJx hB2 hB hRu hub J2
                by_cases h : nm = lx
                rotate_left
                · have he := hkp1 h
                  simp only [Rg.Lt.mk.injEq] at he
                  obtain ⟨rfl, rfl, rfl, rfl, rfl, rfl, rfl⟩ := he
                  have heb : (nm == lx) = false := beq_eq_false_iff_ne.2 h
                  clear hkp1 hkp2 hkp3 hkp4 hkp5 hkp6 hkp7 h
                  go_wp2_with fail
                  go_quiet (fail)
                  have HBN := Lib.hid (below_dN HBN.out nq)
                  go_wp2
                  go_roundw
                  case rel => exact ⟨i + 1, by go_num, by omega, HBN⟩
                  case measure => simp [intOf]; omega
                · subst h
                  clear hkp1
                  obtain rfl := hkp2
                  have q3 : decide (st < st') = false := decide_eq_false (by omega)
                  have q4 : decide (gd < gd') = false := decide_eq_false (by omega)
                  have q5 : decide (cn < cn') = false := decide_eq_false (by omega)
                  have q6 : decide (sc < sc') = false := decide_eq_false (by omega)
                  by_cases k1 : k = 1
                  · subst k1
                    rw [if_pos ⟨rfl, Or.inl rfl⟩] at hkp7
                    obtain ⟨n0, n1⟩ := HKN.out (Or.inl rfl)
                    have hq : (gd + bd + cn + sc != gd' + bd' + cn' + sc' + n) = false := by simp [hkp7]
                    clear hkp7
                    go_wp2_with fail
                    go_quiet (fail)
                    have HBN := Lib.hid (below_dN HBN.out nq)
                    go_wp2
                    go_roundw
                    case rel => exact ⟨i + 1, by go_num, by omega, HBN⟩
                    case measure => simp [intOf]; omega
                  · by_cases k2 : k = 2
                    · subst k2
                      rw [if_pos ⟨rfl, Or.inr rfl⟩] at hkp7
                      obtain ⟨n0, n1⟩ := HKN.out (Or.inr rfl)
                      have hq : (gd + bd + cn + sc != gd' + bd' + cn' + sc' + n) = false := by simp [hkp7]
                      clear hkp7
                      go_wp2_with fail
                      go_quiet (fail)
                      have HBN := Lib.hid (below_dN HBN.out nq)
                      go_wp2
                      go_roundw
                      case rel => exact ⟨i + 1, by go_num, by omega, HBN⟩
                      case measure => simp [intOf]; omega
                    · rw [if_neg (by rintro ⟨-, z | z⟩; exact k1 z; exact k2 z), Int.add_zero] at hkp7
                      have hq : (gd + bd + cn + sc != gd' + bd' + cn' + sc') = false := by simp [hkp7]
                      have k1b : (k == 1) = false := beq_eq_false_iff_ne.2 k1
                      have k2b : (k == 2) = false := beq_eq_false_iff_ne.2 k2
                      clear hkp7 k1 k2
                      go_wp2_with fail
                      go_quiet (fail)
                      have HBN := Lib.hid (below_dN HBN.out nq)
                      go_wp2
                      go_roundw
                      case rel => exact ⟨i + 1, by go_num, by omega, HBN⟩
                      case measure => simp [intOf]; omega
            · obtain rfl : i = M := by omega
              obtain ⟨d0, d1, d2⟩ := cell3 J.c
              have J := Lib.hid J
              go_wp2_with fail
              ((with_reducible refine (HA.out _ (HG.out.later J.out.w)).mono ?_); rintro e w9 ⟨rfl, b⟩)
              have B9 := Lib.hid (J.out.later b).w
              clear b
              go_wp2
              go_ret
              exact ⟨rfl, B9.out⟩
end Go.Proofs.Wk
