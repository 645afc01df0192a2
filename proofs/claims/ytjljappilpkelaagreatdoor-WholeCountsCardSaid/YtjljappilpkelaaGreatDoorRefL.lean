/- THE REFERENCE's WHOLE NUMBERS: binomials by the triangle of Pascal. -/
import Derived.Test.YtjljappilpkelaaGreatDoorRefK
import Derived.Test.YtjljappilpkelaaGreatDoorApp
import Derived.Test.YtjljappilpkelaaGreatDoorMathU
import Derived.Deep.RegionHeld3
import Derived.Deep.AppendLies
namespace Go.Proofs.Wk
open Go.RowKit Mt

theorem OwT.parts {e : TypeId} {w : World} {base : Nat} {v : Value} {ls : List Txt} (h : OwT e w base v ls) (h0 : 0 < ls.length) :
    ∃ g cap, v = .slice (some ⟨g, 0, none⟩) ls.length cap ∧ base ≤ g ∧ g < w.heap.size ∧ RS w g 0 ls := by
  have h' := h
  obtain ⟨h1, h2⟩ := h
  rcases h2 with ⟨rfl, h2⟩ | ⟨g, cap, cur, rfl, e2, e3, e4, e5, e6, e7⟩
  · omega
  · refine ⟨g, cap, rfl, e2, (Array.getElem?_eq_some_iff.1 e3).1, fun j hj => ?_⟩
    rw [Nat.zero_add, cell_of_row w g j _ _ _ e3]
    have : (cur.toList.take (ls.length * 1))[j]? = (ls.map txt)[j]? := by rw [e7]
    rw [List.getElem?_take, if_pos (by omega)] at this
    simpa [hj] using this

/-- The first k texts of row m of the triangle. -/
def crow (m k : Nat) : List Txt := (List.range k).map fun j => Lib.itoa (cho m j)
theorem crow_len (m k : Nat) : (crow m k).length = k := by simp [crow]
theorem crow_succ (m k : Nat) : crow m (k + 1) = crow m k ++ [Lib.itoa (cho m k)] := by unfold crow; rw [List.range_succ, List.map_append]; rfl
theorem crow_at (m k j : Nat) (h : j < (crow m k).length) : (crow m k)[j] = Lib.itoa (cho m j) := by simp [crow]
theorem crow_one (m : Nat) : crow m 1 = [[49]] := by
  unfold crow
  rw [show List.range 1 = [0] from rfl]
  simp [cho_zero]
  exact itoa_one
theorem lng_cho {m k : Nat} (h : m ≤ 4096) : lng (cho m k : Int) ≤ 4097 := by
  refine Nat.le_trans (lng_mono (n := (2 : Int) ^ m) ?_) ?_
  · rw [Int.natAbs_pow]
    exact cho_le_pow m k
  · have := lng_pow (a := 2) (k := 1) ((lng_le 2 (by omega)).2 (by decide)) m
    omega
theorem info_IntR : (Tryz.prog.info? 22).map (fun i => (i.zero, i.size, i.bytes)) = some (some (.string ⟨#[]⟩), 1, 16) := by kernel_rfl

set_option maxRecDepth 100000 in
set_option maxHeartbeats 4000000 in
theorem Chosen_in (n k : Nat) (w : World) (hn : n ≤ 4096) (hk : k ≤ n) : Calls Tryz.prog 53 #[.int .i64 (n : Int), .int .i64 (k : Int)] w (Ret w (.string ⟨(Lib.itoa (cho n k : Int)).toArray⟩)) := by
  obtain ⟨i0, hi0, hz0, hz1, hz2⟩ := info_parts info_IntR
  have hk0 : ¬ (k : Int) < 0 := by omega
  have hk1 : ¬ (n : Int) < (k : Int) := by omega
  have HO1 := Lib.hid (OwT.one 22 w [49])
  go_enter Tryz.func53, Tryz.ntmps53
  go_wp2_with fail
  go_loopw [5, 6] (fun v5 v6 wr => ∃ (i b5 c5 : Nat), v6 = .int .i64 ((i : Int) + 1) ∧ i ≤ n ∧ v5 = .slice (some ⟨b5, 0, none⟩) (i + 1) c5 ∧ Hid (RS wr b5 0 (crow i (i + 1))) ∧ w.heap.size ≤ b5 ∧ b5 < wr.heap.size ∧ Below w.heap.size w wr) (fun _ v6 _ => n + 1 - (intOf v6).toNat)
  case atStart =>
    have h1 := HO1.out
    rw [← crow_one 0] at h1
    obtain ⟨g, cap, e, hg, hgl, hR⟩ := h1.parts (by rw [crow_len]; omega)
    rw [crow_len] at e
    obtain ⟨rfl, rfl⟩ : w.heap.size = g ∧ 1 = cap := by simpa using e
    exact ⟨0, w.heap.size, 1, rfl, by omega, rfl, hR, hg, hgl, (Below.refl _ _).alloc (Nat.le_refl _) _⟩
  case round =>
    obtain ⟨i, b5, c5, rfl, hi, rfl, hR, hb5, hb5l, hB⟩ := hrel
    by_cases hlt : i < n
    · have HON := Lib.hid (OwT.one 22 wr [49])
      have hdd : decide ((i : Int) + 1 ≤ (n : Int)) = true := decide_eq_true (by omega)
      go_wp2_with fail
      obtain ⟨wo, rfl⟩ : ∃ wo : World, wo = wr := ⟨_, rfl⟩
      go_loopw [7, 8] (fun v7 v8 wr => ∃ j : Nat, v8 = .int .i64 ((j : Int) + 1) ∧ j ≤ i ∧ Hid (OwT 22 wr wo.heap.size v7 (crow (i + 1) (j + 1))) ∧ Below wo.heap.size wo wr ∧ wo.heap.size ≤ wr.heap.size) (fun _ v8 _ => i + 1 - (intOf v8).toNat)
      case atStart =>
        refine ⟨0, rfl, by omega, ?_, (Below.refl _ _).alloc (Nat.le_refl _) _, Nat.le_of_lt (alloc_lt wo _)⟩
        show OwT _ _ _ _ _
        rw [crow_one]; exact HON.out
      case round =>
        obtain ⟨j, rfl, hj, hO, hBo, hws⟩ := hrel
        by_cases hlj : j < i
        · have hRj := hR.out.later hBo hb5l
          have c1 := hRj j (by rw [crow_len]; omega)
          have c2 := hRj (j + 1) (by rw [crow_len]; omega)
          rw [crow_at, Nat.zero_add] at c1 c2
          have HP := Lib.hid (fun W => show Calls Tryz.prog 65 #[.string ⟨(Lib.itoa (cho i j : Int)).toArray⟩, .string ⟨(Lib.itoa (cho i (j + 1) : Int)).toArray⟩] W (Ret W (.string ⟨(Lib.itoa (cho (i + 1) (j + 1) : Int)).toArray⟩)) from by
            rw [cho_succ, Int.natCast_add]
            exact Plus_c _ _ W (by have := lng_cho (m := i) (k := j) (by omega); omega) (by have := lng_cho (m := i) (k := j + 1) (by omega); omega))
          have hcs := crow_succ (i + 1) (j + 1)
          have HCS := Lib.hid hcs
          have hcl := crow_len (i + 1) (j + 1)
          have HCL := Lib.hid hcl
          generalize Lib.itoa (cho i j : Int) = x1 at *
          generalize Lib.itoa (cho i (j + 1) : Int) = x2 at *
          generalize Lib.itoa (cho (i + 1) (j + 1) : Int) = x3 at *
          clear hRj hcs hcl
          have hbw : b5 < wr.heap.size := Nat.lt_of_lt_of_le hb5l hws
          have hj1 : (j : Int) + 1 < (i : Int) + 1 := by omega
          have hj0 : (0 : Int) ≤ (j : Int) := by omega
          have hj2 : (0 : Int) ≤ (j : Int) + 1 := by omega
          have hj3 : (j : Int) < (i : Int) + 1 := by omega
          have hw1 : IntKind.i64.wrap (j : Int) = (j : Int) := IntWalk.i64_in _ (by omega)
          have hw2 : ((j : Int) + 1).toNat = j + 1 := by omega
          go_wp2_with fail
          go_region_held3 (fun w' => w'.cell? ⟨b5, j, none⟩ = some (txt x1) ∧ w'.cell? ⟨b5, j + 1, none⟩ = some (txt x2)) (go_keep)
            (first | (go_at_call 65; refine (HP.out _).mono ?_; rintro e w2 ⟨rfl, hb2⟩; have k1 := hb2.cell (p := ⟨b5, j, none⟩) hbw; have k2 := hb2.cell (p := ⟨b5, j + 1, none⟩) hbw) | (refine step_app_txt _ (by rfl) _ _ 38 22 (by rfl) Tryz.underlying38 info_IntR wo.heap.size _ (crow (i + 1) (j + 1)) (by rfl) (((hO.out.later ((Below.refl _ _).drew)).later hb2).later ((Below.refl _ _).alloc (Nat.le_refl _) _)) w2.heap.size x3 (by rfl) (by rw [cell_of_row _ _ _ _ _ _ (heap_alloc_new w2 _)]; rfl) (by rw [crow_len]; omega) (Nat.le_trans hws (Nat.le_trans hb2.size (Nat.le_of_lt (alloc_lt w2 _)))) ?_; intro gg cap w1 hO1 hb1; have k3 := hb1.cell (p := ⟨b5, j, none⟩) hb5l; have k4 := hb1.cell (p := ⟨b5, j + 1, none⟩) hb5l))
          have hB1 : Below wo.heap.size wo w1 := ((((hBo.drew).trans (hb2.mono hws)).alloc (Nat.le_trans hws hb2.size) (.cells #[txt x3] 22)).trans hb1)
          rw [← HCS.out] at hO1
          have hcl2 := crow_len (i + 1) (j + 1)
          rw [hcl2] at hO1 ⊢
          clear hcl2
          have HO1' := Lib.hid hO1
          have hws1 := hb1.size
          have hws2 := hb2.size
          have hws3 := alloc_lt w2 (.cells #[txt x3] 22)
          have HW := Lib.hid (Nat.le_trans hws (Nat.le_trans hws2 (Nat.le_trans (Nat.le_of_lt hws3) hws1)))
          clear hO1 hw1 hw2 k1 k2 k3 k4 hws1 hws2 hws3
          go_wp2
          go_roundw
          case rel => exact ⟨j + 1, by go_num, by omega, HO1'.out, hB1, HW.out⟩
          case measure => simp [intOf]; omega
        · obtain rfl : j = i := by omega
          have hO5 := (hO.out).later ((Below.refl _ _).alloc (Nat.le_refl _) (.cells #[txt [49]] 22))
          have hc5 : (wr.alloc (.cells #[txt [49]] 22)).cell? ⟨wr.heap.size, 0, none⟩ = some (txt [49]) := by
            rw [cell_of_row _ _ _ _ _ _ (heap_alloc_new wr _)]; rfl
          have hsz := alloc_lt wr (.cells #[txt [49]] 22)
          have hbs : wo.heap.size ≤ (wr.alloc (.cells #[txt [49]] 22)).heap.size := Nat.le_trans hws (Nat.le_of_lt hsz)
          have hlast : crow (j + 1) (j + 1 + 1) = crow (j + 1) (j + 1) ++ [[49]] := by
            rw [crow_succ, cho_self, ← itoa_one]; rfl
          have HBS := Lib.hid hbs; have HO5 := Lib.hid hO5; have HC5 := Lib.hid hc5; have HLA := Lib.hid hlast
          clear hO5 hc5 hsz hbs hlast
          go_wp2_with (at_builtin; refine wpList_app_txt rfl _ _ 38 22 rfl Tryz.underlying38 info_IntR wo.heap.size _ (crow (j + 1) (j + 1)) rfl HO5.out wr.heap.size [49] rfl HC5.out (by rw [crow_len]; omega) HBS.out ?_)
          intro v' w6 hO6 hb6
          rw [← HLA.out] at hO6
          obtain ⟨g6, cap6, rfl, hg6, hg6l, hR6⟩ := hO6.parts (by rw [crow_len]; omega)
          rw [crow_len]
          have hB6 := hB.trans ((hBo.trans (((Below.refl wo.heap.size wr).alloc hws (.cells #[txt [49]] 22)).trans hb6)).mono hB.size)
          have HR6 := Lib.hid hR6
          have hwb := hB.size
          clear hR6 hO6
          go_wp2
          go_roundw
          case rel => exact ⟨j + 1, g6, cap6, by go_num, by omega, rfl, HR6.out, by omega, hg6l, hB6⟩
          case measure => simp [intOf]; omega
    · obtain rfl : i = n := by omega
      have hc := hR.out k (by rw [crow_len]; omega)
      rw [crow_at, Nat.zero_add] at hc
      go_wp2
      go_ret
      exact ⟨rfl, hB⟩
end Go.Proofs.Wk
