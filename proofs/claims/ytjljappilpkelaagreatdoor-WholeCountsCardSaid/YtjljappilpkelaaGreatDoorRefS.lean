/- THE REFERENCE's CHECK of a text. -/
import Derived.Test.YtjljappilpkelaaGreatDoorBase
import Derived.Test.YtjljappilpkelaaGreatDoorMathB
namespace Go.Proofs.Wk
open Go.RowKit Mt

set_option maxHeartbeats 400000 in
theorem size_c (l : List UInt8) (w : World) : Calls Tryz.prog 58 #[.string ⟨l.toArray⟩] w (Pur w (.string ⟨(body l).toArray⟩)) := by
  cases l with
  | nil => go_enter Tryz.func58, Tryz.ntmps58; go_wp2; go_ret; exact ⟨rfl, rfl⟩
  | cons c t =>
    by_cases h : c = 45
    · subst h
      go_enter Tryz.func58, Tryz.ntmps58; go_wp2; go_ret; exact ⟨rfl, rfl⟩
    · have hb : body (c :: t) = c :: t := by simp [body, neg, h]
      have h' : ((c.toNat : Int) == 45) = false := u8_eq_no (d := 45) rfl h
      rw [hb]; clear hb
      go_enter Tryz.func58, Tryz.ntmps58; go_wp2; go_ret; exact ⟨rfl, rfl⟩

set_option maxRecDepth 100000 in
set_option maxHeartbeats 1000000 in
theorem Check_c (l : List UInt8) (w : World) (hl : l.length ≤ 140737488355328) : Calls Tryz.prog 29 #[.string ⟨l.toArray⟩] w (Pur w (.int .i64 (chk l))) := by
  have hsz := size_c l
  have hbl : (body l).length ≤ l.length := by unfold body; split <;> simp
  have hcan : canon l = (can (body l) && (!neg l || body l != [48])) := rfl
  have hchk : chk l = if canon l then (if 1024 < (body l).length then 11 else 0) else 3 := rfl
  have hl48 : body l = [48] → neg l = false → l = [48] := by
    intro h1 h2
    have := eq_body l
    rw [h2, h1] at this
    simpa using this
  have hneg : neg l = true → l.length = (body l).length + 1 := by
    intro h
    have := eq_body l
    rw [h] at this
    have e := congrArg List.length this
    simpa using e
  obtain ⟨s, hs⟩ : ∃ s, body l = s := ⟨_, rfl⟩
  rw [hs] at hsz hbl hcan hchk hl48 hneg
  have HS := Lib.hid hsz; have HC := Lib.hid hcan; have HK := Lib.hid hchk; have HL := Lib.hid hl48; have HN := Lib.hid hneg
  clear hsz hcan hchk hl48 hneg hs
  cases s with
  | nil =>
    go_enter Tryz.func29, Tryz.ntmps29
    go_wp2_with fail
    refine (HS.out _).mono ?_; rintro e w1 ⟨rfl, rfl⟩
    go_wp2
    go_ret
    refine ⟨ret_int ?_, rfl⟩
    rw [HK.out, HC.out]; simp [can]
  | cons c t =>
    by_cases hc : c = 48
    · subst hc
      cases t with
      | nil =>
        by_cases h1 : 1 < l.length
        · go_enter Tryz.func29, Tryz.ntmps29
          go_wp2_with fail
          refine (HS.out _).mono ?_; rintro e w1 ⟨rfl, rfl⟩
          go_wp2
          go_ret
          refine ⟨ret_int ?_, rfl⟩
          have : neg l = true := by
            cases h : neg l with
            | true => rfl
            | false => have := HL.out (by first | rfl | trivial) h; rw [this] at h1; simp at h1
          rw [HK.out, HC.out, this]; simp
        · go_enter Tryz.func29, Tryz.ntmps29
          go_wp2_with fail
          refine (HS.out _).mono ?_; rintro e w1 ⟨rfl, rfl⟩
          go_wp2
          refine wp_loop_rounds 2 ?_
          rw [rounds_succ]
          go_wp2
          rw [rounds_succ]
          go_wp2
          go_ret
          refine ⟨ret_int ?_, rfl⟩
          have : neg l = false := by
            cases h : neg l with
            | false => rfl
            | true => have := HN.out h; simp at this; omega
          rw [HK.out, HC.out, this]; decide
      | cons d t =>
        go_enter Tryz.func29, Tryz.ntmps29
        go_wp2_with fail
        refine (HS.out _).mono ?_; rintro e w1 ⟨rfl, rfl⟩
        go_wp2
        go_ret
        refine ⟨ret_int ?_, rfl⟩
        rw [HK.out, HC.out]; simp [can]
    · have h' : ((c.toNat : Int) == 48) = false := u8_eq_no (d := 48) rfl hc
      obtain ⟨s, hs⟩ : ∃ s, c :: t = s := ⟨_, rfl⟩
      have hcs : can s = allD s ∧ s ≠ [48] := by
        subst hs
        refine ⟨?_, fun e => hc (by simpa using (List.cons.inj e).1)⟩
        unfold can
        simp [hc]
      have HX := Lib.hid hcs
      have HSS := Lib.hid hs
      clear hcs hs
      go_enter Tryz.func29, Tryz.ntmps29
      go_wp2_with fail
      refine (HS.out _).mono ?_; rintro e w1 ⟨rfl, rfl⟩
      go_wp2
      have hs := HSS.out
      rw [hs] at HK HC hbl ⊢
      clear hs HSS h' hc
      go_loop [4] (fun si => ∃ i : Nat, si = .int .i64 i ∧ i ≤ s.length ∧ Hid (allD (s.take i) = true)) (fun si => s.length - (intOf si).toNat)
      case atStart => exact ⟨0, rfl, Nat.zero_le _, rfl⟩
      case round =>
        obtain ⟨i, rfl, hi, ha⟩ := hrel
        by_cases hlt : i < s.length
        · by_cases hd : isD s[i] = true
          · have hd2 := (isD_iff _).1 hd
            have hta : allD (s.take (i + 1)) = true := by
              rw [List.take_succ_eq_append_getElem hlt]
              exact (allD_append _ _).2 ⟨ha.out, (allD_cons _ _).2 ⟨hd, rfl⟩⟩
            have HT := Lib.hid hta
            obtain ⟨h48, h57⟩ := hd2
            clear hd hta
            go_wp2
            go_round
            case rel => exact ⟨i + 1, by go_num, by omega, HT.out⟩
            case measure => simp [intOf]; omega
          · have hno : allD s = false := by
              cases h : allD s with
              | false => rfl
              | true => exact absurd (allD_at h hlt) hd
            have HNO := Lib.hid hno
            clear hno
            rw [isD_iff] at hd
            by_cases h48 : 48 ≤ s[i].toNat
            · have h57 : 57 < s[i].toNat := by omega
              clear hd
              go_wp2
              go_ret
              refine ⟨ret_int ?_, rfl⟩
              rw [HK.out, HC.out, HX.out.1, HNO.out]; simp
            · have h57 : s[i].toNat < 48 := by omega
              clear hd h48
              go_wp2
              go_ret
              refine ⟨ret_int ?_, rfl⟩
              rw [HK.out, HC.out, HX.out.1, HNO.out]; simp
        · obtain rfl : i = s.length := by omega
          have hall := ha.out
          rw [List.take_length] at hall
          have HA := Lib.hid hall
          clear hall
          by_cases hlong : 1024 < s.length
          · go_wp2
            go_ret
            refine ⟨ret_int ?_, rfl⟩
            have := HX.out.2
            rw [HK.out, HC.out, HX.out.1, HA.out]; simp [this, hlong]
          · go_wp2
            go_ret
            refine ⟨ret_int ?_, rfl⟩
            have := HX.out.2
            rw [HK.out, HC.out, HX.out.1, HA.out]; simp [this]; omega
end Go.Proofs.Wk
