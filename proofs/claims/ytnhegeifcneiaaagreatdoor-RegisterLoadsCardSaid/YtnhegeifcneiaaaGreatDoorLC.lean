/- REGISTERS OF LOTS: the reference's words of a text, and its numbers. -/
import Derived.Test.YtnhegeifcneiaaaGreatDoorRhK
import Derived.Test.YtnhegeifcneiaaaGreatDoorLA
import Derived.Test.YtnhegeifcneiaaaGreatDoorGL
import Derived.Test.YtnhegeifcneiaaaGreatDoorLB
import Derived.Test.YtnhegeifcneiaaaGreatDoorKG
namespace Rg
/-- The words of a text behind some words and the beginning of one. -/
def spA : List Txt → Txt → Txt → List Txt
  | a, u, [] => a ++ [u]
  | a, u, c :: cs => if c = 32 then spA (a ++ [u]) [] cs else spA a (u ++ [c]) cs
theorem spA_eq : ∀ (s : Txt) (a : List Txt) (u : Txt), spA a u s = a ++ (u ++ (sp s).headD []) :: (sp s).drop 1
  | [], a, u => by simp [spA, sp]
  | c :: cs, a, u => by
    unfold spA sp
    split
    · rw [spA_eq cs]
      cases q : sp cs with
      | nil => exact absurd q (sp_ne cs)
      | cons w ws => simp
    · rw [spA_eq cs]
      cases q : sp cs with
      | nil => exact absurd q (sp_ne cs)
      | cons w ws => simp
theorem spA_nil (s : Txt) : spA [] [] s = sp s := by
  rw [spA_eq]
  cases q : sp s with
  | nil => exact absurd q (sp_ne s)
  | cons w ws => simp
theorem spA_len : ∀ (s : Txt) (a : List Txt) (u : Txt), a.length + 1 ≤ (spA a u s).length
  | [], a, u => by simp [spA]
  | c :: cs, a, u => by
    unfold spA
    split
    · have := spA_len cs (a ++ [u]) []
      simp only [List.length_append, List.length_cons, List.length_nil] at this; omega
    · exact spA_len cs a _
end Rg
namespace Go.Proofs.Wk
open Go.RowKit Mt

theorem numF_step {s : Txt} {n : Int} {i : Nat} (hi : i < s.length) : Rg.numF n (s.drop i) = if Rg.digB s[i] = true then Rg.numF (10 * n + ((s[i].toNat : Int) - 48)) (s.drop (i + 1)) else -1 := by
  rw [List.drop_eq_getElem_cons hi, Rg.numF]
set_option maxRecDepth 100000 in
set_option maxHeartbeats 1000000 in
theorem number_c (s : Txt) (w : World) (hl : s.length ≤ 140737488355328) : Calls Tryz.prog 44 #[.string ⟨s.toArray⟩] w (Pur w (.int .i64 (Rg.numR s))) := by
  by_cases h0 : s.length = 0
  · rw [show Rg.numR s = -1 by unfold Rg.numR; rw [if_pos (.inl h0)]]
    obtain rfl := List.length_eq_zero_iff.1 h0
    clear h0
    go_enter Tryz.func44, Tryz.ntmps44
    go_wp2
    go_ret
    exact ⟨rfl, rfl⟩
  by_cases h7 : 7 < s.length
  · rw [show Rg.numR s = -1 by unfold Rg.numR; rw [if_pos (.inr h7)]]
    have z : ((s.length : Int) == 0) = false := by rw [beq_eq_false_iff_ne]; omega
    go_enter Tryz.func44, Tryz.ntmps44
    go_wp2
    go_ret
    exact ⟨rfl, rfl⟩
  have hE : Rg.numF 0 (s.drop 0) = Rg.numR s := by unfold Rg.numR; rw [if_neg (by omega)]; rfl
  generalize Rg.numR s = E at *
  have z : ((s.length : Int) == 0) = false := by rw [beq_eq_false_iff_ne]; omega
  have HE := Lib.hid hE
  have h7' : s.length ≤ 7 := by omega
  have h7i : ¬ (7 < (s.length : Int)) := by omega
  clear hE h0
  go_enter Tryz.func44, Tryz.ntmps44
  go_wp2_with fail
  go_loop [3, 4] (fun sn si => ∃ (n : Int) (i : Nat), sn = .int .i64 n ∧ si = .int .i64 (i : Int) ∧ i ≤ s.length ∧ 0 ≤ n ∧ n < 10 ^ i ∧ Hid (Rg.numF n (s.drop i) = E)) (fun _ si => s.length - (intOf si).toNat)
  case atStart => exact ⟨0, 0, rfl, rfl, Nat.zero_le _, by decide, by decide, HE.out⟩
  case round =>
    obtain ⟨n, i, rfl, rfl, hi, hn0, hn, hc⟩ := hrel
    by_cases hlt : i < s.length
    · have hstep := hc.out
      rw [numF_step hlt] at hstep
      have hd := Rg.digB_iff' s[i]
      have hby := s[i].toNat_lt
      have hp : (10 : Int) ^ i ≤ 10 ^ 6 := by
        have : (10 : Nat) ^ i ≤ 10 ^ 6 := Nat.pow_le_pow_right (by decide) (by omega)
        exact_mod_cast this
      have hn6 : n < 1000000 := by have : (10 : Int) ^ 6 = 1000000 := by decide
                                   omega
      have HP := Lib.hid (show ∀ d : Int, 0 ≤ d → d ≤ 9 → 10 * n + d < 10 ^ (i + 1) from fun d _ _ => by rw [Int.pow_succ]; omega)
      clear hc HE hp hn
      rcases (by omega : s[i].toNat < 48 ∨ 57 < s[i].toNat ∨ (48 ≤ s[i].toNat ∧ s[i].toNat ≤ 57)) with h | h | ⟨ha, hb⟩
      · obtain rfl : -1 = E := by
          rw [if_neg (fun q => by have := hd.1 q; omega)] at hstep; exact hstep
        clear hstep hd
        go_wp2
        go_ret
        exact ⟨rfl, rfl⟩
      · obtain rfl : -1 = E := by
          rw [if_neg (fun q => by have := hd.1 q; omega)] at hstep; exact hstep
        clear hstep hd
        go_wp2
        go_ret
        exact ⟨rfl, rfl⟩
      · rw [if_pos (hd.2 ⟨ha, hb⟩)] at hstep
        have HS := Lib.hid hstep
        clear hstep hd
        go_wp2
        go_round
        case rel => exact ⟨_, i + 1, rfl, by go_num, by omega, by omega, HP.out _ (by omega) (by omega), HS.out⟩
        case measure => simp [intOf]; omega
    · obtain rfl : i = s.length := by omega
      have hfin := hc.out
      rw [List.drop_length] at hfin
      obtain rfl : n = E := hfin
      clear hc HE
      go_wp2
      go_ret
      exact ⟨rfl, rfl⟩
theorem info_str : (Tryz.prog.info? 9).map (fun i => (i.zero, i.size, i.bytes)) = some (some (.string ⟨#[]⟩), 1, 16) := by kernel_rfl
/-- The last text of a list that a call made: it may be written. -/
theorem OwT.last {e : TypeId} {w : World} {base : Nat} {v : Value} {a : List Txt} {u : Txt} (h : OwT e w base v (a ++ [u])) :
    ∃ g cap, v = .slice (some ⟨g, 0, none⟩) (a.length + 1) cap ∧ base ≤ g ∧ g < w.heap.size ∧ w.cell? ⟨g, a.length, none⟩ = some (txt u) ∧ (∀ j, w.frozen? ⟨g, j, none⟩ = false) ∧
      ∀ u', OwT e (w.setCell ⟨g, a.length, none⟩ (txt u')) base v (a ++ [u']) := by
  obtain ⟨h1, h2⟩ := h
  rcases h2 with ⟨rfl, h2⟩ | ⟨g, cap, cur, rfl, e2, e3, e4, e5, e6, e7⟩
  · simp at h2
  · simp only [List.length_append, List.length_singleton, Nat.mul_one] at e4 e7 e6 ⊢
    have hlt : a.length < cur.toList.length := by simp only [Array.length_toList]; omega
    have ec : cur.toList[a.length]? = some (txt u) := by
      have : (cur.toList.take (a.length + 1))[a.length]? = ((a ++ [u]).map txt)[a.length]? := by rw [e7]
      rw [List.getElem?_take, if_pos (by omega)] at this
      rw [this]; simp
    refine ⟨g, cap, rfl, e2, (Array.getElem?_eq_some_iff.1 e3).1, ?_, fun j => frozen_of_row w g j _ _ e3, fun u' => ?_⟩
    · rw [cell_of_row w g a.length _ _ _ e3]
      simpa using ec
    · have hs := heap_setCell_same w g a.length _ _ (txt u') e3
      refine ⟨by simp, .inr ⟨g, cap, cur.setIfInBounds a.length (txt u'), by simp, e2, hs, by simpa using e4, e5, by simpa using e6, ?_⟩⟩
      simp only [List.length_append, List.length_singleton, Nat.mul_one, Array.toList_setIfInBounds]
      have e8 : cur.toList.take a.length = a.map txt := by
        have := congrArg (List.take a.length) e7
        rw [List.take_take, Nat.min_eq_left (by omega), List.map_append, List.take_left' (by simp)] at this
        exact this
      rw [List.take_succ_eq_append_getElem (by simpa using hlt), List.take_set, e8, List.map_append]
      simp [List.set_eq_of_length_le]
theorem Below.dr {B : Nat} {w0 w : World} (h : Below B w0 w) : Below B w0 w.drew := ⟨h.os, h.tape, h.output, h.size, h.block⟩
/-- A slice of words. -/
def WordsW (w : World) (ls : List Txt) (e : Ending) (w' : World) : Prop := ∃ v, e = .returned v ∧ SlS w' v ls ∧ Below w.heap.size w w'
theorem spA_step {s : Txt} {a : List Txt} {u : Txt} {i : Nat} (hi : i < s.length) : Rg.spA a u (s.drop i) = if s[i] = 32 then Rg.spA (a ++ [u]) [] (s.drop (i + 1)) else Rg.spA a (u ++ [s[i]]) (s.drop (i + 1)) := by
  rw [List.drop_eq_getElem_cons hi, Rg.spA]
set_option maxRecDepth 100000 in
set_option maxHeartbeats 1000000 in
theorem Split19_c (s : Txt) (w : World) (hl : s.length ≤ 4096) : Calls Tryz.prog 42 #[.string ⟨s.toArray⟩] w (WordsW w (Rg.sp s)) := by
  have hE : Rg.spA [] [] (s.drop 0) = Rg.sp s := Rg.spA_nil s
  generalize Rg.sp s = E at *
  have HE := Lib.hid hE
  have hO := OwT.one 9 w []
  have HO := Lib.hid hO
  have hb0 : Below w.heap.size w (w.alloc (.cells #[txt []] 9)) := (Below.refl _ _).alloc (Nat.le_refl _) _
  have HB := Lib.hid hb0
  have hwl := hb0.size
  clear hE hO hb0
  go_enter Tryz.func42, Tryz.ntmps42
  go_wp2_with fail
  go_loopw [3, 4] (fun sv si wr => ∃ (g cap : Nat) (a : List Txt) (u : Txt) (i : Nat), sv = .slice (some ⟨g, 0, none⟩) (a.length + 1) cap ∧ si = .int .i64 (i : Int) ∧ i ≤ s.length ∧ a.length ≤ i ∧ u.length ≤ i ∧
    Hid (OwT 9 wr w.heap.size (.slice (some ⟨g, 0, none⟩) (a.length + 1) cap) (a ++ [u])) ∧ Hid (Rg.spA a u (s.drop i) = E) ∧ Hid (Below w.heap.size w wr)) (fun _ si _ => s.length - (intOf si).toNat)
  case atStart => exact ⟨w.heap.size, 1, [], [], 0, rfl, rfl, Nat.zero_le _, Nat.le_refl _, Nat.le_refl _, HO.out, HE.out, HB.out⟩
  case round =>
    obtain ⟨g, cap, a, u, i, rfl, rfl, hi, ha, hu, hO, hc, hB⟩ := hrel
    by_cases hlt : i < s.length
    · have hstep := hc.out
      rw [spA_step hlt] at hstep
      obtain ⟨g', cap', e1, hg0, hg1, hcell, hfz, hset⟩ := hO.out.last
      cases e1
      by_cases h32 : s[i] = 32
      · rw [if_pos h32] at hstep
        have hb := u8_eq_yes (d := 32) (k := 32) rfl h32
        have HS := Lib.hid hstep
        have hwb := hB.out.size
        have hsz := alloc_lt wr (.cells #[txt []] 9)
        have hO5 := hO.out.later ((Below.refl _ _).alloc (Nat.le_refl _) (.cells #[txt []] 9))
        have hc5 : (wr.alloc (.cells #[txt []] 9)).cell? ⟨wr.heap.size, 0, none⟩ = some (txt []) := by
          rw [cell_of_row _ _ _ _ _ _ (heap_alloc_new wr _)]; rfl
        have HO5 := Lib.hid hO5; have HC5 := Lib.hid hc5
        have HBS := Lib.hid (show w.heap.size ≤ (wr.alloc (.cells #[txt []] 9)).heap.size by omega)
        have hln : (a ++ [u]).length ≤ 1000000 := by rw [List.length_append, List.length_singleton]; omega
        have HLN := Lib.hid hln
        have hll : (a ++ [u]).length = a.length + 1 := by simp
        have HLL := Lib.hid hll
        clear hstep hc hO hset hcell hfz hO5 hc5 hln hll h32 hsz hg0 hg1
        go_wp2_with (at_builtin; refine wpList_app_txt rfl _ _ 78 9 rfl Tryz.underlying78 info_str w.heap.size _ (a ++ [u]) rfl HO5.out wr.heap.size [] rfl HC5.out HLN.out HBS.out ?_)
        intro v' w6 hO6 hb6
        replace hO6 : OwT 9 w6 w.heap.size v' ((a ++ [u]) ++ [[]]) := by simpa using hO6
        obtain ⟨g6, cap6, rfl, -, -, -⟩ := hO6.last
        have HO6 := Lib.hid hO6
        have hB6 := Lib.hid (hB.out.trans (((Below.refl w.heap.size wr).alloc hwb (.cells #[txt []] 9)).trans hb6))
        clear hO6 hb6
        go_wp2
        go_roundw
        case rel => exact ⟨g6, cap6, a ++ [u], [], i + 1, rfl, by go_num, by omega, by rw [HLL.out]; omega, Nat.zero_le _, HO6.out, HS.out, hB6.out⟩
        case measure => simp [intOf]; omega
      · rw [if_neg h32] at hstep
        have hb := u8_eq_no (d := 32) (k := 32) rfl h32
        have HS := Lib.hid hstep
        have HSET := Lib.hid (hset (u ++ [s[i]]))
        have hcut : List.take 1 (List.drop i s) = [s[i]] := by rw [List.drop_eq_getElem_cons hlt]; rfl
        have g1 : ∀ W, (Op.stringOp .add ⟨u.toArray⟩ ⟨(List.take 1 (List.drop i s)).toArray⟩).run Tryz.prog W = .ok (.string ⟨(u ++ [s[i]]).toArray⟩) W := fun W => by rw [hcut]; exact cat_run u [s[i]] (by simp only [List.length_singleton]; omega) W
        have hlast : ((u ++ [s[i]]).length) ≤ i + 1 := by rw [List.length_append, List.length_singleton]; omega
        have HU := Lib.hid hlast
        generalize hK : a.length = K at *
        have hfr := hfz K
        obtain ⟨U, hU⟩ : ∃ U : Txt, u ++ [s[i]] = U := ⟨_, rfl⟩
        rw [hU] at g1 HSET HS HU
        have HK := Lib.hid hK
        have d1 : IntKind.i64.wrap ((i : Int) + 1) = (i : Int) + 1 := IntWalk.i64_in _ (by omega)
        have d2 : (0 : Int) ≤ (i : Int) + 1 := by omega
        have d3 : ((i : Int) + 1).toNat = i + 1 := by omega
        have d4 : (i : Int) + 1 ≤ (s.length : Int) := by omega
        clear hstep hc hO hset h32 hcut hlast hU hK hfz
        go_wp2_with fail
        go_region
        all_goals
          have hb6 : Below w.heap.size w (wr.setCell ⟨g, K, none⟩ (txt U)) := Below.cellP hB.out hg0 _
          have HB6 := Lib.hid (Below.dr hb6)
          clear hb6
          go_wp2
          go_roundw
          case rel => exact ⟨g, cap, a, U, i + 1, by rw [HK.out], by go_num, by omega, by rw [HK.out]; omega, HU.out, by rw [HK.out]; exact (HSET.out).later (Below.refl _ _).drew, HS.out, HB6.out⟩
          case measure => simp [intOf]; omega
    · obtain rfl : i = s.length := by omega
      have hfin := hc.out
      rw [List.drop_length, Rg.spA] at hfin
      obtain rfl : a ++ [u] = E := hfin
      clear hc HE HO HB
      go_wp2
      go_ret
      exact ⟨_, rfl, hO.out.sl, hB.out⟩
end Go.Proofs.Wk
/- REGISTERS OF LOTS: the reference's Text and Read. -/
namespace Rg
/-- The kind that was found among the first words. -/
def kF (w : Txt) (i : Nat) : Int := if kindW w < (i : Int) then kindW w else -1
theorem kF_yes {w : Txt} {i : Nat} (hi : i < 7) (h : wordK (i : Int) = w) : kF w (i + 1) = (i : Int) := by
  have := kind_at hi h
  unfold kF; rw [this, if_pos (by omega)]
theorem wordK_kind {w : Txt} (h : kindW w ≠ -1) : wordK (kindW w) = w := by
  have hk := kindW_le w
  by_cases q : ∃ j : Nat, j < 7 ∧ wordK (j : Int) = w
  · obtain ⟨j, hj, e⟩ := q
    rw [kind_at hj e]; exact e
  · exact absurd (kind_none fun j hj e => q ⟨j, hj, e⟩) h
theorem kF_no {w : Txt} {i : Nat} (h : wordK (i : Int) ≠ w) : kF w (i + 1) = kF w i := by
  have hk := kindW_le w
  have : kindW w ≠ (i : Int) := fun e => h (by rw [← e]; exact wordK_kind (by omega))
  unfold kF
  by_cases q : kindW w < (i : Int)
  · rw [if_pos q, if_pos (by omega)]
  · rw [if_neg q, if_neg (by omega)]
theorem kF_all (w : Txt) : kF w 7 = kindW w := by
  have hk := kindW_le w
  unfold kF; rw [if_pos (by omega)]
theorem kF_none (w : Txt) : kF w 0 = -1 := by
  have hk := kindW_le w
  unfold kF
  split <;> omega
end Rg
namespace Go.Proofs.Wk
open Go.RowKit Mt

set_option maxRecDepth 100000 in
theorem rText_c (x : Rg.En) (w : World) (hl : x.lot.length ≤ 140737488355328) : Calls Tryz.prog 10 #[entV x] w (Ret w (ans2 (Rg.textL x))) := by
  have HR := Lib.hid (fun W => rRight_g x W hl)
  have J := BX.new w #[.int .i64 x.k, .string ⟨x.lot.toArray⟩, .int .i64 x.n] 30
  obtain ⟨d0, d1, d2⟩ := cell3 J.c
  have HJ := Lib.hid J
  by_cases hr : Rg.rightE x = 0
  · rw [show Rg.textL x = (Rg.writ x, 0) by unfold Rg.textL; rw [if_neg (Decidable.not_not.2 hr)]]
    have HW := Lib.hid (fun W => Written_c x W hr)
    rw [hr] at HR
    generalize Rg.writ x = U at *
    obtain ⟨k, lot, n⟩ := x
    simp only at d0 d1 d2
    clear hr J
    go_enter Tryz.func10, Tryz.ntmps10
    go_wp2_with fail
    ((with_reducible refine (HR.out _).mono ?_); rintro e w1 ⟨rfl, hb1⟩)
    have J1 := HJ.out.later hb1
    obtain ⟨f0, f1, f2⟩ := cell3 J1.c
    have HJ1 := Lib.hid J1
    clear J1 hb1 d0 d1 d2
    go_wp2_with fail
    ((with_reducible refine (HW.out _).mono ?_); rintro e w2 ⟨rfl, hb2⟩)
    have J2 := HJ1.out.later hb2
    have HB := Lib.hid J2.w
    clear J2 hb2
    go_wp2
    go_ret2
    exact ⟨rfl, HB.out⟩
  · rw [show Rg.textL x = ([], Rg.rightE x) by unfold Rg.textL; rw [if_pos hr]]
    generalize Rg.rightE x = c at *
    obtain ⟨k, lot, n⟩ := x
    simp only at d0 d1 d2
    have y1 : (c != 0) = true := bne_iff_ne.2 hr
    clear hr J
    go_enter Tryz.func10, Tryz.ntmps10
    go_wp2_with fail
    ((with_reducible refine (HR.out _).mono ?_); rintro e w1 ⟨rfl, hb1⟩)
    have J1 := HJ.out.later hb1
    go_wp2
    go_ret2
    exact ⟨rfl, J1.w⟩
end Go.Proofs.Wk
/- REGISTERS OF LOTS: the reference's Read. -/
namespace Go.Proofs.Wk
open Go.RowKit Mt

/-- The result's block, the entry's block, the words, and what was there before. -/
structure RqE (T : TypeId) (w0 : World) (b g off : Nat) (e : Array Value) (ws : List Txt) (w : World) : Prop where
  r : w.heap[w0.heap.size]? = some (.cells #[.int .i64 0, .string ⟨#[]⟩, .int .i64 0] T (0, 0))
  x : w.heap[b]? = some (.cells e T (0, 0))
  t : RS w g off ws
  w : Below w0.heap.size w0 w
  l : w0.heap.size < b
  l3 : g < b
theorem RqE.later {T : TypeId} {w0 w w' : World} {b g off : Nat} {e : Array Value} {ws : List Txt} (j : RqE T w0 b g off e ws w) (hb : Below w.heap.size w w') : RqE T w0 b g off e ws w' :=
  have hbl := (Array.getElem?_eq_some_iff.1 j.x).1
  ⟨by rw [hb.block _ (Array.getElem?_eq_some_iff.1 j.r).1]; exact j.r, by rw [hb.block _ hbl]; exact j.x, j.t.later hb (Nat.lt_trans j.l3 hbl), j.w.trans (hb.mono j.w.size), j.l, j.l3⟩
theorem RqE.set {T : TypeId} {w0 w : World} {b g off : Nat} {e e' : Array Value} {ws : List Txt} (j : RqE T w0 b g off e ws w) (i : Nat) (v : Value) (he : e.setIfInBounds i v = e') : RqE T w0 b g off e' ws (w.setCell ⟨b, i, none⟩ v) := by
  subst he
  refine ⟨by rw [heap_setCell_other w ⟨b, i, none⟩ _ v (by have := j.l; simp; omega)]; exact j.r, heap_setCell_same w b i _ _ v j.x, fun k hk => ?_, Below.cellP j.w (Nat.le_of_lt j.l) _, j.l, j.l3⟩
  rw [World.cell?_setCell_other _ _ _ _ (by have := j.l3; intro e; cases e; omega)]
  exact j.t k hk
set_option maxRecDepth 100000 in
set_option maxHeartbeats 4000000 in
theorem rread_m1 (s : Txt) (w : World) (h4 : s.length ≤ 4096) (w0 : Txt) (hws : Rg.sp s = w0 :: []) : Calls Tryz.prog 12 #[.string ⟨s.toArray⟩] w (ReadP w (Rg.readL Rg.numR s)) := by
  have hE : Rg.readL Rg.numR s = if (Rg.textL ⟨Rg.kindW w0, [], 0⟩).2 = 0 ∧ (Rg.textL ⟨Rg.kindW w0, [], 0⟩).1 = s then (⟨Rg.kindW w0, [], 0⟩, 0) else (⟨0, [], 0⟩, 4) := by
    unfold Rg.readL; rw [if_neg (by omega), hws]; rfl
  have hlen := Rg.sp_word_len s
  rw [hws] at hlen
  obtain ⟨n, hn⟩ : ∃ n, (w0 :: []).length = n := ⟨_, rfl⟩
  have hS := fun W => Split19_c s W h4
  rw [hws] at hS
  have HS := Lib.hid hS
  have HW := Lib.hid (fun W => words_c W)
  have HC := Lib.hid (fun (i : Nat) (hi : i < 7) (W : World) (b : Nat) (T : TypeId) (fr : Nat × Nat) (h : W.heap[b]? = some (.cells wordsC T fr)) => words_cell h hi)
  have J := BX.new w #[.int .i64 0, .string ⟨#[]⟩, .int .i64 0] 30
  have HJ := Lib.hid J
  simp only [List.length_cons, List.length_nil] at hn
  have q1 : ¬ (1 : Int) < (n : Int) := by omega
  have q2 : ¬ (2 : Int) < (n : Int) := by omega
  have HT := Lib.hid (fun W => rText_c ⟨Rg.kindW w0, [], 0⟩ W (Nat.zero_le _))
  generalize Rg.readL Rg.numR s = R at *
  generalize Rg.textL ⟨Rg.kindW w0, [], 0⟩ = T at *
  obtain ⟨tt, tc⟩ := T
  simp only at hE
  have HE := Lib.hid hE
  have h4i : ¬ (4096 : Int) < (s.length : Int) := by omega
  have hk0 := Rg.kF_none w0
  have hk7 := Rg.kF_all w0
  have HYES := Lib.hid (fun (i : Nat) (hi : i < 7) (h : Rg.wordK (i : Int) = w0) => Rg.kF_yes hi h)
  have HNO := Lib.hid (fun (i : Nat) (h : Rg.wordK (i : Int) ≠ w0) => Rg.kF_no h)
  generalize Rg.kindW w0 = K at *
  generalize Rg.kF w0 = kf at *
  have HK7 := Lib.hid hk7
  have hn0 : 0 < n := by omega
  clear hws J hE hlen h4 hS hk7
  go_enter Tryz.func12, Tryz.ntmps12
  go_wp2_with fail
  ((with_reducible refine (HS.out _).mono ?_); rintro e w1 ⟨v1, rfl, hs1, hb1⟩)
  have J1 := HJ.out.later hb1
  rcases hs1 with ⟨_, _, -, q⟩ | ⟨g, off, cap, e1, hRS, hgl⟩
  · cases q
  rw [show (w0 :: []).length = n from by simp only [List.length_cons, List.length_nil]; exact hn] at e1
  subst e1
  have j1 : RqE 30 w w1.heap.size g off #[.int .i64 (kf 0), .string ⟨#[]⟩, .int .i64 0] (w0 :: []) (w1.alloc (.cells #[.int .i64 (kf 0), .string ⟨#[]⟩, .int .i64 0] 30)) := by
    have hb : Below w1.heap.size w1 (w1.alloc (.cells #[.int .i64 (kf 0), .string ⟨#[]⟩, .int .i64 0] 30)) := (Below.refl _ _).alloc (Nat.le_refl _) _
    exact ⟨(J1.later hb).c, heap_alloc_new _ _, hRS.later hb hgl, (J1.later hb).w, (Array.getElem?_eq_some_iff.1 J1.c).1, hgl⟩
  rw [hk0] at j1
  have HJ1 := Lib.hid j1
  clear j1 J1 hb1 HJ HS hRS hgl hn
  go_upto_region 5 with fail
  generalize w1.alloc (.cells #[.int .i64 (-1), .string ⟨#[]⟩, .int .i64 0] 30) = W4 at *
  generalize w1.heap.size = b at *
  go_wp2_with fail
  go_loopw [6] (fun s6 wr => ∃ i : Nat, s6 = .int .i64 (i : Int) ∧ i ≤ 7 ∧ Hid (RqE 30 w b g off #[.int .i64 (kf i), .string ⟨#[]⟩, .int .i64 0] (w0 :: []) wr)) (fun s6 _ => 7 - (intOf s6).toNat)
  case atStart => exact ⟨0, rfl, Nat.zero_le _, by rw [hk0]; exact HJ1.out⟩
  clear HJ1 hk0
  case round =>
  obtain ⟨i, rfl, hi, hj⟩ := hrel
  by_cases hlt : i < 7
  · have hcell := HC.out i hlt
    have hyes := HYES.out i hlt
    have hno := HNO.out i
    have k0 : wr.cell? ⟨g, off, none⟩ = some (.string ⟨w0.toArray⟩) := hj.out.t 0 (by simp)
    generalize Rg.wordK (i : Int) = U at *
    have HCI := Lib.hid hcell
    by_cases hu : U = w0
    · have y1 : (U == w0) = true := beq_iff_eq.2 hu
      have HKF := Lib.hid (hyes hu)
      clear hcell hyes hno HYES HNO HC HE HT hu
      go_wp2_with fail
      go_region_with (first
        | (go_at_call 43; (with_reducible refine (HW.out _).mono ?_); rintro e w2 ⟨rfl, hwc, hb2⟩; have hb2' : Below wr.heap.size wr w2 := ⟨hb2.os, hb2.tape, hb2.output, hb2.size, hb2.block⟩; have kk : w2.cell? ⟨wr.heap.size, i, none⟩ = some (.string ⟨U.toArray⟩) := HCI.out w2 _ _ _ hwc; have hjx := Lib.hid (hj.out.later hb2'); have k1 : w2.cell? ⟨g, off, none⟩ = some (.string ⟨w0.toArray⟩) := hjx.out.t 0 (by simp); clear hwc hb2 hb2')
        | fail)
      all_goals
        obtain ⟨d0, d1, d2⟩ := cell3 hjx.out.x
        have z0 := frozen_of_row w2 b 0 _ _ hjx.out.x
        have HN := Lib.hid (hjx.out.set 0 (.int .i64 (i : Int)) (e' := #[.int .i64 (i : Int), .string ⟨#[]⟩, .int .i64 0]) rfl)
        go_wp2
        go_roundw
        case rel => exact ⟨i + 1, by go_num, by omega, by rw [HKF.out]; exact HN.out⟩
        case measure => simp [intOf]; omega
    · have y1 : (U == w0) = false := beq_eq_false_iff_ne.2 hu
      have HKF := Lib.hid (hno hu)
      clear hcell hyes hno HYES HNO HC HE HT hu
      go_wp2_with fail
      go_region_with (first
        | (go_at_call 43; (with_reducible refine (HW.out _).mono ?_); rintro e w2 ⟨rfl, hwc, hb2⟩; have hb2' : Below wr.heap.size wr w2 := ⟨hb2.os, hb2.tape, hb2.output, hb2.size, hb2.block⟩; have kk : w2.cell? ⟨wr.heap.size, i, none⟩ = some (.string ⟨U.toArray⟩) := HCI.out w2 _ _ _ hwc; have hjx := Lib.hid (hj.out.later hb2'); have k1 : w2.cell? ⟨g, off, none⟩ = some (.string ⟨w0.toArray⟩) := hjx.out.t 0 (by simp); clear hwc hb2 hb2')
        | fail)
      all_goals
        go_wp2
        go_roundw
        case rel => exact ⟨i + 1, by go_num, by omega, by rw [HKF.out]; exact hjx.out⟩
        case measure => simp [intOf]; omega
  · obtain rfl : i = 7 := by omega
    have j7 := hj.out
    rw [HK7.out] at j7
    have HJ7 := Lib.hid j7
    obtain ⟨d0, d1, d2⟩ := cell3 j7.x
    have z1 := frozen_of_row wr b 1 _ _ j7.x
    have z2 := frozen_of_row wr b 2 _ _ j7.x

    clear j7 hj HYES HNO HC HW
    have HJ5 := HJ7
    go_wp2_with fail
    ((with_reducible refine (HT.out _).mono ?_); rintro e w5 ⟨rfl, hb5⟩)
    have J5 := HJ5.out.later hb5
    obtain ⟨d0, d1, d2⟩ := cell3 J5.x
    obtain ⟨r0, r1, r2⟩ := cell3 J5.r
    have z0 := frozen_of_row w5 w.heap.size 0 _ _ J5.r
    have z1 := frozen_of_row w5 w.heap.size 1 _ _ J5.r
    have z2 := frozen_of_row w5 w.heap.size 2 _ _ J5.r
    have HJ6 := Lib.hid J5
    clear J5 HJ5 hb5 HT
    by_cases hc : tc = 0
    · subst hc
      by_cases ht : tt = s
      · have hR := HE.out
        rw [if_pos ⟨rfl, ht⟩] at hR
        have y1 : (tt == s) = true := beq_iff_eq.2 ht
        have y2 : (tt != s) = false := by rw [bne, y1]; rfl
        have HRR := Lib.hid hR
        clear HE hR ht
        go_wp2
        rw [HRR.out]
        refine bodyPost_ret (results_cell_row_tmp rfl _ _ w.heap.size 30 _ _ _ (by kernel_rfl) (put3 HJ6.out.r) Tryz.underlying30 rfl (by kernel_rfl)) rfl ?_
        exact ⟨rfl, put3b HJ6.out.w (Nat.le_refl _)⟩
      · have hR := HE.out
        rw [if_neg (fun q => ht q.2)] at hR
        have y1 : (tt == s) = false := beq_eq_false_iff_ne.2 ht
        have y2 : (tt != s) = true := by rw [bne, y1]; rfl
        have HRR := Lib.hid hR
        clear HE hR ht
        go_wp2
        rw [HRR.out]
        refine bodyPost_ret (results_cell_row_tmp rfl _ _ w.heap.size 30 _ _ _ (by kernel_rfl) (put3 HJ6.out.r) Tryz.underlying30 rfl (by kernel_rfl)) rfl ?_
        exact ⟨rfl, put3b HJ6.out.w (Nat.le_refl _)⟩
    · have hR := HE.out
      rw [if_neg (fun q => hc q.1)] at hR
      have y1 : (tc != 0) = true := bne_iff_ne.2 hc
      have HRR := Lib.hid hR
      clear HE hR hc
      go_wp2
      rw [HRR.out]
      refine bodyPost_ret (results_cell_row_tmp rfl _ _ w.heap.size 30 _ _ _ (by kernel_rfl) (put3 HJ6.out.r) Tryz.underlying30 rfl (by kernel_rfl)) rfl ?_
      exact ⟨rfl, put3b HJ6.out.w (Nat.le_refl _)⟩

set_option maxRecDepth 100000 in
set_option maxHeartbeats 4000000 in
theorem rread_m2 (s : Txt) (w : World) (h4 : s.length ≤ 4096) (w0 : Txt) (l : Txt) (hws : Rg.sp s = w0 :: [l]) : Calls Tryz.prog 12 #[.string ⟨s.toArray⟩] w (ReadP w (Rg.readL Rg.numR s)) := by
  have hE : Rg.readL Rg.numR s = if (Rg.textL ⟨Rg.kindW w0, l, 0⟩).2 = 0 ∧ (Rg.textL ⟨Rg.kindW w0, l, 0⟩).1 = s then (⟨Rg.kindW w0, l, 0⟩, 0) else (⟨0, [], 0⟩, 4) := by
    unfold Rg.readL; rw [if_neg (by omega), hws]; rfl
  have hlen := Rg.sp_word_len s
  rw [hws] at hlen
  obtain ⟨n, hn⟩ : ∃ n, (w0 :: [l]).length = n := ⟨_, rfl⟩
  have hS := fun W => Split19_c s W h4
  rw [hws] at hS
  have HS := Lib.hid hS
  have HW := Lib.hid (fun W => words_c W)
  have HC := Lib.hid (fun (i : Nat) (hi : i < 7) (W : World) (b : Nat) (T : TypeId) (fr : Nat × Nat) (h : W.heap[b]? = some (.cells wordsC T fr)) => words_cell h hi)
  have J := BX.new w #[.int .i64 0, .string ⟨#[]⟩, .int .i64 0] 30
  have HJ := Lib.hid J
  simp only [List.length_cons, List.length_nil] at hn
  have hl := hlen l (by simp)
  have q1 : (1 : Int) < (n : Int) := by omega
  have q2 : ¬ (2 : Int) < (n : Int) := by omega
  have q3 : 1 < n := by omega
  have HT := Lib.hid (fun W => rText_c ⟨Rg.kindW w0, l, 0⟩ W (show l.length ≤ 140737488355328 by omega))
  generalize Rg.readL Rg.numR s = R at *
  generalize Rg.textL ⟨Rg.kindW w0, l, 0⟩ = T at *
  obtain ⟨tt, tc⟩ := T
  simp only at hE
  have HE := Lib.hid hE
  have h4i : ¬ (4096 : Int) < (s.length : Int) := by omega
  have hk0 := Rg.kF_none w0
  have hk7 := Rg.kF_all w0
  have HYES := Lib.hid (fun (i : Nat) (hi : i < 7) (h : Rg.wordK (i : Int) = w0) => Rg.kF_yes hi h)
  have HNO := Lib.hid (fun (i : Nat) (h : Rg.wordK (i : Int) ≠ w0) => Rg.kF_no h)
  generalize Rg.kindW w0 = K at *
  generalize Rg.kF w0 = kf at *
  have HK7 := Lib.hid hk7
  have hn0 : 0 < n := by omega
  clear hws J hE hlen h4 hS hk7
  go_enter Tryz.func12, Tryz.ntmps12
  go_wp2_with fail
  ((with_reducible refine (HS.out _).mono ?_); rintro e w1 ⟨v1, rfl, hs1, hb1⟩)
  have J1 := HJ.out.later hb1
  rcases hs1 with ⟨_, _, -, q⟩ | ⟨g, off, cap, e1, hRS, hgl⟩
  · cases q
  rw [show (w0 :: [l]).length = n from by simp only [List.length_cons, List.length_nil]; exact hn] at e1
  subst e1
  have j1 : RqE 30 w w1.heap.size g off #[.int .i64 (kf 0), .string ⟨#[]⟩, .int .i64 0] (w0 :: [l]) (w1.alloc (.cells #[.int .i64 (kf 0), .string ⟨#[]⟩, .int .i64 0] 30)) := by
    have hb : Below w1.heap.size w1 (w1.alloc (.cells #[.int .i64 (kf 0), .string ⟨#[]⟩, .int .i64 0] 30)) := (Below.refl _ _).alloc (Nat.le_refl _) _
    exact ⟨(J1.later hb).c, heap_alloc_new _ _, hRS.later hb hgl, (J1.later hb).w, (Array.getElem?_eq_some_iff.1 J1.c).1, hgl⟩
  rw [hk0] at j1
  have HJ1 := Lib.hid j1
  clear j1 J1 hb1 HJ HS hRS hgl hn
  go_upto_region 5 with fail
  generalize w1.alloc (.cells #[.int .i64 (-1), .string ⟨#[]⟩, .int .i64 0] 30) = W4 at *
  generalize w1.heap.size = b at *
  go_wp2_with fail
  go_loopw [6] (fun s6 wr => ∃ i : Nat, s6 = .int .i64 (i : Int) ∧ i ≤ 7 ∧ Hid (RqE 30 w b g off #[.int .i64 (kf i), .string ⟨#[]⟩, .int .i64 0] (w0 :: [l]) wr)) (fun s6 _ => 7 - (intOf s6).toNat)
  case atStart => exact ⟨0, rfl, Nat.zero_le _, by rw [hk0]; exact HJ1.out⟩
  clear HJ1 hk0
  case round =>
  obtain ⟨i, rfl, hi, hj⟩ := hrel
  by_cases hlt : i < 7
  · have hcell := HC.out i hlt
    have hyes := HYES.out i hlt
    have hno := HNO.out i
    have k0 : wr.cell? ⟨g, off, none⟩ = some (.string ⟨w0.toArray⟩) := hj.out.t 0 (by simp)
    generalize Rg.wordK (i : Int) = U at *
    have HCI := Lib.hid hcell
    by_cases hu : U = w0
    · have y1 : (U == w0) = true := beq_iff_eq.2 hu
      have HKF := Lib.hid (hyes hu)
      clear hcell hyes hno HYES HNO HC HE HT hu
      go_wp2_with fail
      go_region_with (first
        | (go_at_call 43; (with_reducible refine (HW.out _).mono ?_); rintro e w2 ⟨rfl, hwc, hb2⟩; have hb2' : Below wr.heap.size wr w2 := ⟨hb2.os, hb2.tape, hb2.output, hb2.size, hb2.block⟩; have kk : w2.cell? ⟨wr.heap.size, i, none⟩ = some (.string ⟨U.toArray⟩) := HCI.out w2 _ _ _ hwc; have hjx := Lib.hid (hj.out.later hb2'); have k1 : w2.cell? ⟨g, off, none⟩ = some (.string ⟨w0.toArray⟩) := hjx.out.t 0 (by simp); clear hwc hb2 hb2')
        | fail)
      all_goals
        obtain ⟨d0, d1, d2⟩ := cell3 hjx.out.x
        have z0 := frozen_of_row w2 b 0 _ _ hjx.out.x
        have HN := Lib.hid (hjx.out.set 0 (.int .i64 (i : Int)) (e' := #[.int .i64 (i : Int), .string ⟨#[]⟩, .int .i64 0]) rfl)
        go_wp2
        go_roundw
        case rel => exact ⟨i + 1, by go_num, by omega, by rw [HKF.out]; exact HN.out⟩
        case measure => simp [intOf]; omega
    · have y1 : (U == w0) = false := beq_eq_false_iff_ne.2 hu
      have HKF := Lib.hid (hno hu)
      clear hcell hyes hno HYES HNO HC HE HT hu
      go_wp2_with fail
      go_region_with (first
        | (go_at_call 43; (with_reducible refine (HW.out _).mono ?_); rintro e w2 ⟨rfl, hwc, hb2⟩; have hb2' : Below wr.heap.size wr w2 := ⟨hb2.os, hb2.tape, hb2.output, hb2.size, hb2.block⟩; have kk : w2.cell? ⟨wr.heap.size, i, none⟩ = some (.string ⟨U.toArray⟩) := HCI.out w2 _ _ _ hwc; have hjx := Lib.hid (hj.out.later hb2'); have k1 : w2.cell? ⟨g, off, none⟩ = some (.string ⟨w0.toArray⟩) := hjx.out.t 0 (by simp); clear hwc hb2 hb2')
        | fail)
      all_goals
        go_wp2
        go_roundw
        case rel => exact ⟨i + 1, by go_num, by omega, by rw [HKF.out]; exact hjx.out⟩
        case measure => simp [intOf]; omega
  · obtain rfl : i = 7 := by omega
    have j7 := hj.out
    rw [HK7.out] at j7
    have HJ7 := Lib.hid j7
    obtain ⟨d0, d1, d2⟩ := cell3 j7.x
    have z1 := frozen_of_row wr b 1 _ _ j7.x
    have z2 := frozen_of_row wr b 2 _ _ j7.x
    have k1 : wr.cell? ⟨g, off + 1, none⟩ = some (.string ⟨l.toArray⟩) := HJ7.out.t 1 (by simp)
    clear j7 hj HYES HNO HC HW
    have HJ5 := Lib.hid (HJ7.out.set 1 (.string ⟨l.toArray⟩) (e' := #[.int .i64 K, .string ⟨l.toArray⟩, .int .i64 0]) rfl)
    go_wp2_with fail
    clear d0 d1 d2 z1 z2
    ((with_reducible refine (HT.out _).mono ?_); rintro e w5 ⟨rfl, hb5⟩)
    have J5 := HJ5.out.later hb5
    obtain ⟨d0, d1, d2⟩ := cell3 J5.x
    obtain ⟨r0, r1, r2⟩ := cell3 J5.r
    have z0 := frozen_of_row w5 w.heap.size 0 _ _ J5.r
    have z1 := frozen_of_row w5 w.heap.size 1 _ _ J5.r
    have z2 := frozen_of_row w5 w.heap.size 2 _ _ J5.r
    have HJ6 := Lib.hid J5
    clear J5 HJ5 hb5 HT
    by_cases hc : tc = 0
    · subst hc
      by_cases ht : tt = s
      · have hR := HE.out
        rw [if_pos ⟨rfl, ht⟩] at hR
        have y1 : (tt == s) = true := beq_iff_eq.2 ht
        have y2 : (tt != s) = false := by rw [bne, y1]; rfl
        have HRR := Lib.hid hR
        clear HE hR ht
        go_wp2
        rw [HRR.out]
        refine bodyPost_ret (results_cell_row_tmp rfl _ _ w.heap.size 30 _ _ _ (by kernel_rfl) (put3 HJ6.out.r) Tryz.underlying30 rfl (by kernel_rfl)) rfl ?_
        exact ⟨rfl, put3b HJ6.out.w (Nat.le_refl _)⟩
      · have hR := HE.out
        rw [if_neg (fun q => ht q.2)] at hR
        have y1 : (tt == s) = false := beq_eq_false_iff_ne.2 ht
        have y2 : (tt != s) = true := by rw [bne, y1]; rfl
        have HRR := Lib.hid hR
        clear HE hR ht
        go_wp2
        rw [HRR.out]
        refine bodyPost_ret (results_cell_row_tmp rfl _ _ w.heap.size 30 _ _ _ (by kernel_rfl) (put3 HJ6.out.r) Tryz.underlying30 rfl (by kernel_rfl)) rfl ?_
        exact ⟨rfl, put3b HJ6.out.w (Nat.le_refl _)⟩
    · have hR := HE.out
      rw [if_neg (fun q => hc q.1)] at hR
      have y1 : (tc != 0) = true := bne_iff_ne.2 hc
      have HRR := Lib.hid hR
      clear HE hR hc
      go_wp2
      rw [HRR.out]
      refine bodyPost_ret (results_cell_row_tmp rfl _ _ w.heap.size 30 _ _ _ (by kernel_rfl) (put3 HJ6.out.r) Tryz.underlying30 rfl (by kernel_rfl)) rfl ?_
      exact ⟨rfl, put3b HJ6.out.w (Nat.le_refl _)⟩

set_option maxRecDepth 100000 in
set_option maxHeartbeats 4000000 in
theorem rread_m3 (s : Txt) (w : World) (h4 : s.length ≤ 4096) (w0 : Txt) (l c : Txt) (r : List Txt) (hws : Rg.sp s = w0 :: (l :: c :: r)) : Calls Tryz.prog 12 #[.string ⟨s.toArray⟩] w (ReadP w (Rg.readL Rg.numR s)) := by
  have hE : Rg.readL Rg.numR s = if (Rg.textL ⟨Rg.kindW w0, l, Rg.numR c⟩).2 = 0 ∧ (Rg.textL ⟨Rg.kindW w0, l, Rg.numR c⟩).1 = s then (⟨Rg.kindW w0, l, Rg.numR c⟩, 0) else (⟨0, [], 0⟩, 4) := by
    unfold Rg.readL; rw [if_neg (by omega), hws]; rfl
  have hlen := Rg.sp_word_len s
  rw [hws] at hlen
  obtain ⟨n, hn⟩ : ∃ n, (w0 :: (l :: c :: r)).length = n := ⟨_, rfl⟩
  have hS := fun W => Split19_c s W h4
  rw [hws] at hS
  have HS := Lib.hid hS
  have HW := Lib.hid (fun W => words_c W)
  have HC := Lib.hid (fun (i : Nat) (hi : i < 7) (W : World) (b : Nat) (T : TypeId) (fr : Nat × Nat) (h : W.heap[b]? = some (.cells wordsC T fr)) => words_cell h hi)
  have J := BX.new w #[.int .i64 0, .string ⟨#[]⟩, .int .i64 0] 30
  have HJ := Lib.hid J
  simp only [List.length_cons] at hn
  have hl := hlen l (by simp)
  have hl2 := hlen c (by simp)
  have q1 : (1 : Int) < (n : Int) := by omega
  have q2 : (2 : Int) < (n : Int) := by omega
  have q3 : 1 < n := by omega
  have q4 : 2 < n := by omega
  have HA := Lib.hid (fun W => number_c c W (by omega))
  have HT := Lib.hid (fun W => rText_c ⟨Rg.kindW w0, l, Rg.numR c⟩ W (show l.length ≤ 140737488355328 by omega))
  generalize Rg.readL Rg.numR s = R at *
  generalize Rg.textL ⟨Rg.kindW w0, l, Rg.numR c⟩ = T at *
  obtain ⟨tt, tc⟩ := T
  simp only at hE
  have HE := Lib.hid hE
  have h4i : ¬ (4096 : Int) < (s.length : Int) := by omega
  have hk0 := Rg.kF_none w0
  have hk7 := Rg.kF_all w0
  have HYES := Lib.hid (fun (i : Nat) (hi : i < 7) (h : Rg.wordK (i : Int) = w0) => Rg.kF_yes hi h)
  have HNO := Lib.hid (fun (i : Nat) (h : Rg.wordK (i : Int) ≠ w0) => Rg.kF_no h)
  generalize Rg.kindW w0 = K at *
  generalize Rg.kF w0 = kf at *
  have HK7 := Lib.hid hk7
  have hn0 : 0 < n := by omega
  clear hws J hE hlen h4 hS hk7
  go_enter Tryz.func12, Tryz.ntmps12
  go_wp2_with fail
  ((with_reducible refine (HS.out _).mono ?_); rintro e w1 ⟨v1, rfl, hs1, hb1⟩)
  have J1 := HJ.out.later hb1
  rcases hs1 with ⟨_, _, -, q⟩ | ⟨g, off, cap, e1, hRS, hgl⟩
  · cases q
  rw [show (w0 :: (l :: c :: r)).length = n from by simp only [List.length_cons]; exact hn] at e1
  subst e1
  have j1 : RqE 30 w w1.heap.size g off #[.int .i64 (kf 0), .string ⟨#[]⟩, .int .i64 0] (w0 :: (l :: c :: r)) (w1.alloc (.cells #[.int .i64 (kf 0), .string ⟨#[]⟩, .int .i64 0] 30)) := by
    have hb : Below w1.heap.size w1 (w1.alloc (.cells #[.int .i64 (kf 0), .string ⟨#[]⟩, .int .i64 0] 30)) := (Below.refl _ _).alloc (Nat.le_refl _) _
    exact ⟨(J1.later hb).c, heap_alloc_new _ _, hRS.later hb hgl, (J1.later hb).w, (Array.getElem?_eq_some_iff.1 J1.c).1, hgl⟩
  rw [hk0] at j1
  have HJ1 := Lib.hid j1
  clear j1 J1 hb1 HJ HS hRS hgl hn
  go_upto_region 5 with fail
  generalize w1.alloc (.cells #[.int .i64 (-1), .string ⟨#[]⟩, .int .i64 0] 30) = W4 at *
  generalize w1.heap.size = b at *
  go_wp2_with fail
  go_loopw [6] (fun s6 wr => ∃ i : Nat, s6 = .int .i64 (i : Int) ∧ i ≤ 7 ∧ Hid (RqE 30 w b g off #[.int .i64 (kf i), .string ⟨#[]⟩, .int .i64 0] (w0 :: (l :: c :: r)) wr)) (fun s6 _ => 7 - (intOf s6).toNat)
  case atStart => exact ⟨0, rfl, Nat.zero_le _, by rw [hk0]; exact HJ1.out⟩
  clear HJ1 hk0
  case round =>
  obtain ⟨i, rfl, hi, hj⟩ := hrel
  by_cases hlt : i < 7
  · have hcell := HC.out i hlt
    have hyes := HYES.out i hlt
    have hno := HNO.out i
    have k0 : wr.cell? ⟨g, off, none⟩ = some (.string ⟨w0.toArray⟩) := hj.out.t 0 (by simp)
    generalize Rg.wordK (i : Int) = U at *
    have HCI := Lib.hid hcell
    by_cases hu : U = w0
    · have y1 : (U == w0) = true := beq_iff_eq.2 hu
      have HKF := Lib.hid (hyes hu)
      clear hcell hyes hno HYES HNO HC HE HT hu
      go_wp2_with fail
      go_region_with (first
        | (go_at_call 43; (with_reducible refine (HW.out _).mono ?_); rintro e w2 ⟨rfl, hwc, hb2⟩; have hb2' : Below wr.heap.size wr w2 := ⟨hb2.os, hb2.tape, hb2.output, hb2.size, hb2.block⟩; have kk : w2.cell? ⟨wr.heap.size, i, none⟩ = some (.string ⟨U.toArray⟩) := HCI.out w2 _ _ _ hwc; have hjx := Lib.hid (hj.out.later hb2'); have k1 : w2.cell? ⟨g, off, none⟩ = some (.string ⟨w0.toArray⟩) := hjx.out.t 0 (by simp); clear hwc hb2 hb2')
        | fail)
      all_goals
        obtain ⟨d0, d1, d2⟩ := cell3 hjx.out.x
        have z0 := frozen_of_row w2 b 0 _ _ hjx.out.x
        have HN := Lib.hid (hjx.out.set 0 (.int .i64 (i : Int)) (e' := #[.int .i64 (i : Int), .string ⟨#[]⟩, .int .i64 0]) rfl)
        go_wp2
        go_roundw
        case rel => exact ⟨i + 1, by go_num, by omega, by rw [HKF.out]; exact HN.out⟩
        case measure => simp [intOf]; omega
    · have y1 : (U == w0) = false := beq_eq_false_iff_ne.2 hu
      have HKF := Lib.hid (hno hu)
      clear hcell hyes hno HYES HNO HC HE HT hu
      go_wp2_with fail
      go_region_with (first
        | (go_at_call 43; (with_reducible refine (HW.out _).mono ?_); rintro e w2 ⟨rfl, hwc, hb2⟩; have hb2' : Below wr.heap.size wr w2 := ⟨hb2.os, hb2.tape, hb2.output, hb2.size, hb2.block⟩; have kk : w2.cell? ⟨wr.heap.size, i, none⟩ = some (.string ⟨U.toArray⟩) := HCI.out w2 _ _ _ hwc; have hjx := Lib.hid (hj.out.later hb2'); have k1 : w2.cell? ⟨g, off, none⟩ = some (.string ⟨w0.toArray⟩) := hjx.out.t 0 (by simp); clear hwc hb2 hb2')
        | fail)
      all_goals
        go_wp2
        go_roundw
        case rel => exact ⟨i + 1, by go_num, by omega, by rw [HKF.out]; exact hjx.out⟩
        case measure => simp [intOf]; omega
  · obtain rfl : i = 7 := by omega
    have j7 := hj.out
    rw [HK7.out] at j7
    have HJ7 := Lib.hid j7
    obtain ⟨d0, d1, d2⟩ := cell3 j7.x
    have z1 := frozen_of_row wr b 1 _ _ j7.x
    have z2 := frozen_of_row wr b 2 _ _ j7.x
    have k1 : wr.cell? ⟨g, off + 1, none⟩ = some (.string ⟨l.toArray⟩) := HJ7.out.t 1 (by simp)
    have k2 : (wr.setCell ⟨b, 1, none⟩ (.string ⟨l.toArray⟩)).cell? ⟨g, off + 2, none⟩ = some (.string ⟨c.toArray⟩) := (HJ7.out.set 1 (.string ⟨l.toArray⟩) (e' := #[.int .i64 K, .string ⟨l.toArray⟩, .int .i64 0]) rfl).t 2 (by simp)
    clear j7 hj HYES HNO HC HW
    have HJ5 := Lib.hid ((HJ7.out.set 1 (.string ⟨l.toArray⟩) (e' := #[.int .i64 K, .string ⟨l.toArray⟩, .int .i64 0]) rfl).set 2 (.int .i64 (Rg.numR c)) (e' := #[.int .i64 K, .string ⟨l.toArray⟩, .int .i64 (Rg.numR c)]) rfl)
    generalize Rg.numR c = N at *
    go_wp2_with fail
    ((with_reducible refine (HA.out _).mono ?_); rintro e w4 ⟨rfl, rfl⟩)
    go_wp2_with fail
    clear d0 d1 d2 z1 z2 k1 k2
    ((with_reducible refine (HT.out _).mono ?_); rintro e w5 ⟨rfl, hb5⟩)
    have J5 := HJ5.out.later hb5
    obtain ⟨d0, d1, d2⟩ := cell3 J5.x
    obtain ⟨r0, r1, r2⟩ := cell3 J5.r
    have z0 := frozen_of_row w5 w.heap.size 0 _ _ J5.r
    have z1 := frozen_of_row w5 w.heap.size 1 _ _ J5.r
    have z2 := frozen_of_row w5 w.heap.size 2 _ _ J5.r
    have HJ6 := Lib.hid J5
    clear J5 HJ5 hb5 HT
    by_cases hc : tc = 0
    · subst hc
      by_cases ht : tt = s
      · have hR := HE.out
        rw [if_pos ⟨rfl, ht⟩] at hR
        have y1 : (tt == s) = true := beq_iff_eq.2 ht
        have y2 : (tt != s) = false := by rw [bne, y1]; rfl
        have HRR := Lib.hid hR
        clear HE hR ht
        go_wp2
        rw [HRR.out]
        refine bodyPost_ret (results_cell_row_tmp rfl _ _ w.heap.size 30 _ _ _ (by kernel_rfl) (put3 HJ6.out.r) Tryz.underlying30 rfl (by kernel_rfl)) rfl ?_
        exact ⟨rfl, put3b HJ6.out.w (Nat.le_refl _)⟩
      · have hR := HE.out
        rw [if_neg (fun q => ht q.2)] at hR
        have y1 : (tt == s) = false := beq_eq_false_iff_ne.2 ht
        have y2 : (tt != s) = true := by rw [bne, y1]; rfl
        have HRR := Lib.hid hR
        clear HE hR ht
        go_wp2
        rw [HRR.out]
        refine bodyPost_ret (results_cell_row_tmp rfl _ _ w.heap.size 30 _ _ _ (by kernel_rfl) (put3 HJ6.out.r) Tryz.underlying30 rfl (by kernel_rfl)) rfl ?_
        exact ⟨rfl, put3b HJ6.out.w (Nat.le_refl _)⟩
    · have hR := HE.out
      rw [if_neg (fun q => hc q.1)] at hR
      have y1 : (tc != 0) = true := bne_iff_ne.2 hc
      have HRR := Lib.hid hR
      clear HE hR hc
      go_wp2
      rw [HRR.out]
      refine bodyPost_ret (results_cell_row_tmp rfl _ _ w.heap.size 30 _ _ _ (by kernel_rfl) (put3 HJ6.out.r) Tryz.underlying30 rfl (by kernel_rfl)) rfl ?_
      exact ⟨rfl, put3b HJ6.out.w (Nat.le_refl _)⟩

set_option maxRecDepth 100000 in
set_option maxHeartbeats 2000000 in
theorem rread_long (s : Txt) (w : World) (hl : s.length ≤ 140737488355328) (h4 : 4096 < s.length) : Calls Tryz.prog 12 #[.string ⟨s.toArray⟩] w (ReadP w (⟨0, [], 0⟩, 17)) := by
  have J := BX.new w #[.int .i64 0, .string ⟨#[]⟩, .int .i64 0] 30
  have hJ := Lib.hid J
  clear J
  have h4i : (4096 : Int) < (s.length : Int) := by omega
  go_enter Tryz.func12, Tryz.ntmps12
  go_wp2
  refine bodyPost_ret (results_cell_row_tmp rfl _ _ w.heap.size 30 _ _ _ (by kernel_rfl) hJ.out.c Tryz.underlying30 rfl (by kernel_rfl)) rfl ?_
  exact ⟨rfl, hJ.out.w⟩
theorem rRead_c (s : Txt) (w : World) (hl : s.length ≤ 140737488355328) : Calls Tryz.prog 12 #[.string ⟨s.toArray⟩] w (ReadP w (Rg.readL Rg.numR s)) := by
  by_cases h4 : 4096 < s.length
  · rw [show Rg.readL Rg.numR s = (⟨0, [], 0⟩, 17) by unfold Rg.readL; rw [if_pos h4]]
    exact rread_long s w hl h4
  · cases hws : Rg.sp s with
    | nil => exact absurd hws (Rg.sp_ne s)
    | cons w0 ws =>
      match ws, hws with
      | [], hws => exact rread_m1 s w (by omega) w0 hws
      | [l], hws => exact rread_m2 s w (by omega) w0 l hws
      | l :: c :: r, hws => exact rread_m3 s w (by omega) w0 l c r hws
end Go.Proofs.Wk
