/- THE REFERENCE's RATIONAL NUMBERS: quotients of texts; sums of lists; few texts. -/
import Derived.Test.YtachiilmgnognaaGreatDoorRqG
import Derived.Test.YtachiilmgnognaaGreatDoorRatD
import Derived.LoopN
namespace Go.Proofs.Wk
open Go.RowKit Mt

theorem RS.dbl (w : World) (a b : Txt) (t : TypeId) : RS (w.alloc (.cells #[.string ⟨a.toArray⟩, .string ⟨b.toArray⟩] t)) w.heap.size 0 [a, b] := RS.lit w [a, b] t
set_option maxRecDepth 100000 in
set_option maxHeartbeats 2000000 in
theorem rDiv_q (a b : Txt) (w : World) (ha : a.length ≤ 140737488355328) (hb : b.length ≤ 140737488355328) : Calls Tryz.prog 27 #[.string ⟨a.toArray⟩, .string ⟨b.toArray⟩] w (Ret w (ans2 (rbin [] divQ a b))) := by
  have HP := Lib.hid (fun W => pair_c a b W ha hb)
  have hB0 := Below.refl w.heap.size w
  clear ha hb
  rcases rbin_cases a b with ⟨hne, hall⟩ | ⟨p, q, rfl, rfl, hp, hq, h0, hall⟩
  · rw [hall]
    have h3 := bne_ne hne
    generalize firstR [a, b] = x at *
    clear hne hall
    go_enter Tryz.func27, Tryz.ntmps27
    go_wp2_with fail
    ((with_reducible refine (HP.out _).mono ?_); rintro e w1 ⟨rfl, hb1⟩)
    have hB1 := hB0.trans (hb1.mono hB0.size); clear hb1
    go_wp2
    go_ret2
    exact ⟨rfl, hB1⟩
  · rw [hall]
    rw [h0] at HP
    have hz := rtoa_is_zero (q := q)
    by_cases hq0 : q = 0
    · rw [show divQ p q = ([], 10) by unfold divQ; rw [if_pos hq0]]
      rw [decide_eq_true hq0] at hz
      clear hp hq h0 hall hq0
      generalize rtoa p = tp at *
      generalize rtoa q = tq at *
      go_enter Tryz.func27, Tryz.ntmps27
      go_wp2_with fail
      ((with_reducible refine (HP.out _).mono ?_); rintro e w1 ⟨rfl, hb1⟩)
      have hB1 := hB0.trans (hb1.mono hB0.size); clear hb1
      go_wp2
      go_ret2
      exact ⟨rfl, hB1⟩
    rw [decide_eq_false hq0] at hz
    have HC := Lib.hid (fun W => crossed_x p q W hp.s19 hq.s19)
    have HO := Lib.hid (fun W => By_q p q W hp.s19 hq.s19 hq0)
    have h1 := lng_mulQ hp.sz.1 hq.sz.2; have h2 := lng_mulQ hp.sz.2 hq.sz.1
    have HL := Lib.hid (fun b c B hB W hR => long_x b 0 c 2 [p.num * q.den, p.den * q.num] _ B hB rfl rfl (by omega) (by
      intro n hn
      simp only [List.mem_cons, List.not_mem_nil, or_false] at hn
      rcases hn with rfl | rfl <;> omega) W hR)
    simp only [List.map_cons, List.map_nil] at HL
    have e : divQ p q = if allB [p.num * q.den, p.den * q.num] = true then (rtoa (p / q), 0) else ([], 11) := by unfold divQ; rw [if_neg hq0]
    rw [e]
    clear e hp hq h1 h2 hall h0 hq0
    generalize allB [p.num * q.den, p.den * q.num] = A at *
    have HL2 := Lib.hid (fun b c W hR => HL.out b c A rfl W hR)
    clear HL
    generalize Lib.itoa (p.num * q.den) = t1 at *
    generalize Lib.itoa (q.num * p.den) = t2 at *
    generalize Lib.itoa (p.den * q.den) = t3 at *
    generalize Lib.itoa (p.num * q.num) = t4 at *
    generalize Lib.itoa (p.den * q.num) = t5 at *
    generalize rtoa (p / q) = tr at *
    generalize rtoa p = tp at *
    generalize rtoa q = tq at *
    cases A
    · rw [if_neg (by simp)]
      simp only [Bool.not_false] at HL2
      go_enter Tryz.func27, Tryz.ntmps27
      go_wp2_with fail
      ((with_reducible refine (HP.out _).mono ?_); rintro e w1 ⟨rfl, hb1⟩)
      have hB1 := hB0.trans (hb1.mono hB0.size); clear hb1
      go_wp2_with fail
      (with_reducible refine (HC.out _).mono ?_); rintro e w2 ⟨b, rfl, hb, hb2, hR⟩
      have hB2 := hB1.trans (hb2.mono hB1.size)
      obtain ⟨c0, c1, c2, c3, c4⟩ := hR.five
      clear hR hb2
      go_wp2_with fail
      go_region_with (go_at_call 77; (with_reducible refine (HL2.out _ _ _ (RS.dbl w2 t1 t5 _).drew).mono ?_); rintro e w' ⟨rfl, rfl⟩)
      all_goals
        go_wp2
        go_ret2
        exact ⟨rfl, (hB2.alloc hB2.size _).drew⟩
    · rw [if_pos rfl]
      simp only [Bool.not_true] at HL2
      go_enter Tryz.func27, Tryz.ntmps27
      go_wp2_with fail
      ((with_reducible refine (HP.out _).mono ?_); rintro e w1 ⟨rfl, hb1⟩)
      have hB1 := hB0.trans (hb1.mono hB0.size); clear hb1
      go_wp2_with fail
      (with_reducible refine (HC.out _).mono ?_); rintro e w2 ⟨b, rfl, hb, hb2, hR⟩
      have hB2 := hB1.trans (hb2.mono hB1.size)
      obtain ⟨c0, c1, c2, c3, c4⟩ := hR.five
      clear hR hb2
      go_wp2_with fail
      go_region_with (go_at_call 77; (with_reducible refine (HL2.out _ _ _ (RS.dbl w2 t1 t5 _).drew).mono ?_); rintro e w' ⟨rfl, rfl⟩)
      all_goals
        have hB3 := (hB2.alloc hB2.size (.cells #[.string ⟨t1.toArray⟩, .string ⟨t5.toArray⟩] 43)).drew
        go_wp2_with fail
        ((with_reducible refine (HO.out _).mono ?_); rintro e w4 ⟨rfl, hb4⟩)
        have hB4 := hB3.trans (hb4.mono hB3.size); clear hb4
        go_wp2
        go_ret2
        exact ⟨rfl, hB4⟩
theorem rdrop2 {ls : List Txt} {i : Nat} (h : i < ls.length) : firstR (ls.drop i) = if rchk ls[i] = 0 then firstR (ls.drop (i + 1)) else rchk ls[i] := by
  rw [List.drop_eq_getElem_cons h]; rfl
set_option maxRecDepth 100000 in
theorem rSum_e (a : Option Addr) (c : Nat) (w : World) : Calls Tryz.prog 39 #[.slice a 0 c] w (Ret w (ans2 ([48], 0))) := by
  go_enter Tryz.func39, Tryz.ntmps39
  go_wp2_with fail
  refine wp_loop_rounds 1 ?_
  rw [rounds_succ]
  go_wp2_with fail
  refine wp_loop_rounds 1 ?_
  rw [rounds_succ]
  go_wp2
  go_ret2
  exact ⟨rfl, Below.refl _ _⟩
set_option maxRecDepth 100000 in
set_option maxHeartbeats 2000000 in
theorem rSum_q {v : Value} (ls : List Txt) (w : World) (h : SlS w v ls) (hls : ls.length ≤ 140737488355328) (hlen : ∀ l ∈ ls, l.length ≤ 140737488355328) :
    Calls Tryz.prog 39 #[v] w (Ret w (ans2 (sum2 ls))) := by
  rcases h with ⟨a, c, rfl, rfl⟩ | ⟨b, off, c, rfl, hR, hl⟩
  · have e : sum2 [] = ([48], 0) := by
      show sumF [] 0 = _
      unfold sumF; rw [rtoa_zero]
    rw [e]
    exact rSum_e a c w
  · have hB0 := Below.refl w.heap.size w
    by_cases hn : 4096 < ls.length
    · rw [show sum2 ls = ([], 5) by unfold sum2; rw [if_pos hn]]
      obtain ⟨n, hnn⟩ : ∃ n, ls.length = n := ⟨_, rfl⟩
      rw [hnn] at hn ⊢
      have hn2 : (4096 : Int) < (n : Int) := by omega
      clear hnn hn hR hls hlen
      go_enter Tryz.func39, Tryz.ntmps39
      go_wp2
      go_ret2
      exact ⟨rfl, hB0⟩
    · have HR := Lib.hid hR; have HL := Lib.hid hlen
      have HS2 := Lib.hid (show sum2 ls = if firstR ls = 0 then sumF (ls.map rv) 0 else ([], firstR ls) by unfold sum2; rw [if_neg hn])
      obtain ⟨res, hres⟩ : ∃ r, sum2 ls = r := ⟨_, rfl⟩
      rw [hres] at HS2 ⊢
      obtain ⟨n, hnn⟩ : ∃ n, ls.length = n := ⟨_, rfl⟩
      rw [hnn] at hn hls ⊢
      have HN := Lib.hid hnn
      have hn2 : ¬ (4096 : Int) < (n : Int) := by omega
      clear hres hnn hn hR hlen
      go_enter Tryz.func39, Tryz.ntmps39
      go_wp2_with fail
      go_loopw [4] (fun si wr => ∃ i : Nat, si = .int .i64 (i : Int) ∧ i ≤ n ∧ Hid (firstR (ls.drop i) = firstR ls) ∧ Below w.heap.size w wr) (fun si _ => n - (intOf si).toNat)
      case atStart => exact ⟨0, rfl, Nat.zero_le _, rfl, Below.refl _ _⟩
      case round =>
        obtain ⟨i, rfl, hi, hE, hB⟩ := hrel
        by_cases hlt : i < n
        · have hil : i < ls.length := by rw [HN.out]; exact hlt
          have hc := (HR.out.later hB hl) i hil
          have hd := rdrop2 hil
          have hll := HL.out ls[i] (List.getElem_mem hil)
          obtain ⟨l, hle⟩ : ∃ l, ls[i] = l := ⟨_, rfl⟩
          rw [hle] at hc hd hll
          have HC := Lib.hid (rqCheck_c l wr hll)
          by_cases h0 : rchk l = 0
          · rw [h0] at HC
            have HE := Lib.hid (show firstR (ls.drop (i + 1)) = firstR ls by rw [← hE.out, hd, if_pos h0])
            clear hle hd hll h0 hE
            go_wp2_with fail
            ((with_reducible refine (HC.out).mono ?_); rintro e w2 ⟨rfl, hb2⟩)
            have hB2 := hB.trans (hb2.mono hB.size)
            go_wp2
            go_roundw
            case rel => exact ⟨i + 1, by go_num, by omega, HE, hB2⟩
            case measure => simp [intOf]; omega
          · have HE := Lib.hid (show res = ([], rchk l) by
              have e : firstR ls = rchk l := by rw [← hE.out, hd, if_neg h0]
              rw [HS2.out, e, if_neg h0])
            have h3 := bne_ne h0
            clear hle hd hll h0 hE
            obtain ⟨x, hx⟩ : ∃ x, rchk l = x := ⟨_, rfl⟩
            rw [hx] at HE HC h3
            clear hx
            go_wp2_with fail
            ((with_reducible refine (HC.out).mono ?_); rintro e w2 ⟨rfl, hb2⟩)
            have hB2 := hB.trans (hb2.mono hB.size)
            go_wp2
            go_ret2
            show Ret _ _ _ _
            rw [HE.out]
            exact ⟨rfl, hB2⟩
        · obtain rfl : i = n := by omega
          have hz : firstR ls = 0 := by rw [← hE.out, ← HN.out, List.drop_length]; rfl
          have hres := HS2.out
          rw [if_pos hz] at hres
          obtain ⟨qs, hqs, hq⟩ := firstR_zero hz
          rw [hqs, map_rv] at hres
          rw [hqs] at HR
          have HN2 := Lib.hid (show qs.length = i by have := HN.out; rw [hqs, List.length_map] at this; exact this)
          have HQ := Lib.hid hq; have HRS := Lib.hid hres
          clear hE hz hres hqs hq HS2 HN HL
          go_wp2_with fail
          go_loopw [6, 7] (fun so si wr => ∃ (j : Nat) (x : Rat), si = .int .i64 (j : Int) ∧ so = .string ⟨(rtoa x).toArray⟩ ∧ j ≤ i ∧ Hid (okQ x ∧ sumF (qs.drop j) x = sumF qs 0) ∧ Below w.heap.size w wr) (fun _ si _ => i - (intOf si).toNat)
          case atStart => exact ⟨0, 0, rfl, by rw [rtoa_zero], Nat.zero_le _, ⟨okQ_zero, rfl⟩, hB⟩
          case round =>
            clear hB
            obtain ⟨j, x, rfl, rfl, hj, hE, hB⟩ := hrel
            by_cases hlt2 : j < i
            · have hil : j < qs.length := by rw [HN2.out]; exact hlt2
              have hc := (HR.out.later hB hl) j (by rw [List.length_map]; exact hil)
              rw [List.getElem_map] at hc
              have hd := sumF_drop hil x
              have hqi := HQ.out qs[j] (List.getElem_mem hil)
              obtain ⟨y, hy⟩ : ∃ y, qs[j] = y := ⟨_, rfl⟩
              rw [hy] at hc hd hqi
              have ha := rAdd_q (rtoa x) (rtoa y) ‹World› (tlen hE.out.1) (tlen hqi)
              rw [rbin_ok [] addQ hE.out.1 hqi] at ha
              rcases addQ_cases x y with ⟨e1, e2⟩ | e1
              · rw [e1] at ha hd
                have HA := Lib.hid ha
                have HE2 := Lib.hid (show okQ (x + y) ∧ sumF (qs.drop (j + 1)) (x + y) = sumF qs 0 from ⟨e2, by rw [← hE.out.2, hd, if_pos rfl]⟩)
                clear hd hqi hy ha e1 e2 hE
                generalize rtoa x = tx at *
                generalize rtoa y = ty at *
                go_wp2_with fail
                ((with_reducible refine (HA.out).mono ?_); rintro e w2 ⟨rfl, hb2⟩)
                have hB2 := hB.trans (hb2.mono hB.size)
                go_wp2
                go_roundw
                case rel => exact ⟨j + 1, x + y, by go_num, rfl, by omega, HE2, hB2⟩
                case measure => simp [intOf]; omega
              · rw [e1] at ha hd
                have HA := Lib.hid ha
                have HE2 := Lib.hid (show res = ([], 11) by rw [HRS.out, ← hE.out.2, hd, if_neg (by simp)])
                clear hd hqi hy ha e1 hE
                generalize rtoa x = tx at *
                generalize rtoa y = ty at *
                go_wp2_with fail
                ((with_reducible refine (HA.out).mono ?_); rintro e w2 ⟨rfl, hb2⟩)
                have hB2 := hB.trans (hb2.mono hB.size)
                go_wp2
                go_ret2
                show Ret _ _ _ _
                rw [HE2.out]
                exact ⟨rfl, hB2⟩
            · obtain rfl : j = i := by omega
              have HE2 := Lib.hid (show res = (rtoa x, 0) by rw [HRS.out, ← hE.out.2, ← HN2.out, List.drop_length]; rfl)
              clear hE
              go_wp2
              go_ret2
              show Ret _ _ _ _
              rw [HE2.out]
              exact ⟨rfl, hB⟩
set_option maxRecDepth 100000 in
theorem FewAllQ_e (a : Option Addr) (c : Nat) (w : World) : Calls Tryz.prog 37 #[.slice a 0 c] w (Ask w) := by
  go_enter Tryz.func37, Tryz.ntmps37
  go_wp2_with fail
  refine wp_loop_rounds 1 ?_
  rw [rounds_succ]
  go_wp2
  go_ret
  exact ⟨_, rfl, Below.refl _ _⟩
set_option maxRecDepth 100000 in
set_option maxHeartbeats 2000000 in
theorem FewAllQ_c {v : Value} (ls : List Txt) (w : World) (h : SlS w v ls) (hls : ls.length ≤ 140737488355328) (hlen : ∀ l ∈ ls, l.length ≤ 140737488355328) :
    Calls Tryz.prog 37 #[v] w (Ask w) := by
  rcases h with ⟨a, c, rfl, rfl⟩ | ⟨b, off, c, rfl, hR, hl⟩
  · exact FewAllQ_e a c w
  · have HR := Lib.hid hR; have HL := Lib.hid hlen
    obtain ⟨n, hnn⟩ : ∃ n, ls.length = n := ⟨_, rfl⟩
    rw [hnn] at hls ⊢
    have HN := Lib.hid hnn
    clear hnn hR hlen
    go_enter Tryz.func37, Tryz.ntmps37
    go_wp2_with fail
    go_loop [3, 4] (fun sb si => ∃ (i : Nat) (y : Int), si = .int .i64 (i : Int) ∧ sb = .int .i64 y ∧ i ≤ n ∧ i ≤ 40 ∧ 0 ≤ y ∧ y ≤ i * 140737488355328) (fun _ si => n - (intOf si).toNat)
    case atStart => exact ⟨0, 0, rfl, rfl, Nat.zero_le _, by omega, by omega, by omega⟩
    case round =>
      obtain ⟨i, y, rfl, rfl, hi, hi4, hy0, hy1⟩ := hrel
      by_cases hlt : i < n ∧ i < 40
      · obtain ⟨hlt, hl4⟩ := hlt
        have hil : i < ls.length := by rw [HN.out]; exact hlt
        have hc := HR.out i hil
        have hll := HL.out ls[i] (List.getElem_mem hil)
        obtain ⟨l, hle⟩ : ∃ l, ls[i] = l := ⟨_, rfl⟩
        rw [hle] at hc hll
        obtain ⟨z, hz⟩ : ∃ z : Int, y + (l.length : Int) = z := ⟨_, rfl⟩
        have hw : IntKind.i64.wrap (y + (l.length : Int)) = z := by rw [← hz]; exact IntWalk.i64_in _ (by omega)
        have hz0 : 0 ≤ z := by omega
        have hz1 : z ≤ ((i + 1 : Nat) : Int) * 140737488355328 := by push_cast; omega
        have HZ := Lib.hid hz0; have HZ1 := Lib.hid hz1
        have d1 : decide ((i : Int) < (n : Int)) = true := decide_eq_true (by omega)
        have d2 : decide ((i : Int) < 40) = true := decide_eq_true (by omega)
        clear hle hll hz hz0 hz1 hy0 hy1
        go_wp2
        go_round
        case rel => exact ⟨i + 1, z, by go_num, rfl, by omega, by omega, HZ.out, HZ1.out⟩
        case measure => simp [intOf]; omega
      · have hex : (n ≤ 40 ∧ i = n) ∨ (i = 40 ∧ 40 < n) := by omega
        clear hlt
        rcases hex with ⟨hn4, rfl⟩ | ⟨rfl, hn4⟩
        · have d1 : decide ((i : Int) ≤ 40) = true := decide_eq_true (by omega)
          by_cases h2 : y ≤ 200
          · have d2 : decide (y ≤ 200) = true := decide_eq_true h2
            go_wp2
            go_ret
            exact ⟨_, rfl, Below.refl _ _⟩
          · have d2 : decide (y ≤ 200) = false := decide_eq_false h2
            have d3 : decide ((4096 : Int) < (i : Int)) = false := decide_eq_false (by omega)
            go_wp2
            go_ret
            exact ⟨_, rfl, Below.refl _ _⟩
        · have d0 : decide ((40 : Int) < 40) = false := by decide
          have d1 : decide ((n : Int) ≤ 40) = false := decide_eq_false (by omega)
          by_cases h2 : 4096 < n
          · have d2 : decide ((4096 : Int) < (n : Int)) = true := decide_eq_true (by omega)
            go_wp2
            go_ret
            exact ⟨_, rfl, Below.refl _ _⟩
          · have d2 : decide ((4096 : Int) < (n : Int)) = false := decide_eq_false (by omega)
            go_wp2
            go_ret
            exact ⟨_, rfl, Below.refl _ _⟩
end Go.Proofs.Wk
