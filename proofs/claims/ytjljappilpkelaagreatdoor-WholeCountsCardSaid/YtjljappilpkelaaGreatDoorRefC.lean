/- THE REFERENCE's PRODUCTS ON PAPER. -/
import Derived.Test.YtjljappilpkelaaGreatDoorRefA
namespace Go.Proofs.Wk
open Go.RowKit Mt

/-- How great the columns are, after i rows and k places. -/
def ColBd (l : List Int) (i k : Nat) : Prop := ∀ (j : Nat) (v : Int), l[j]? = some v → 0 ≤ v ∧ v ≤ 81 * (i + 1) ∧ (i + k + 1 ≤ j → v ≤ 81 * i)
theorem colbd_start (N : Nat) : ColBd (List.replicate N 0) 0 0 := by
  intro j v h
  rw [List.getElem?_replicate] at h
  split at h
  · injection h with h; subst h; omega
  · cases h
theorem colbd_step {l : List Int} {i k : Nat} (h : ColBd l i k) {v : Int} (hv : l[i + k + 1]? = some v) {e : Int} (h0 : 0 ≤ e) (h1 : e ≤ 81) : ColBd (l.set (i + k + 1) (v + e)) i (k + 1) := by
  intro j u hu
  obtain ⟨a, b, c⟩ := h _ _ hv
  have hlt := (List.getElem?_eq_some_iff.1 hv).1
  by_cases hj : i + k + 1 = j
  · subst hj
    rw [List.getElem?_set_self hlt] at hu
    injection hu with hu
    have := c (Nat.le_refl _)
    omega
  · rw [List.getElem?_set_ne hj] at hu
    obtain ⟨a', b', c'⟩ := h _ _ hu
    exact ⟨a', b', fun h => c' (by omega)⟩
theorem colbd_row {l : List Int} {i k : Nat} (h : ColBd l i k) : ColBd l (i + 1) 0 := by
  intro j u hu
  obtain ⟨a', b', c'⟩ := h _ _ hu
  exact ⟨a', by omega, fun _ => by omega⟩

set_option maxRecDepth 100000 in
set_option maxHeartbeats 4000000 in
theorem product_c (m n : Nat) (w : World) (hla : (Lib.decDigits m).length ≤ 20000) (hlb : (Lib.decDigits n).length ≤ 20000) :
    Calls Tryz.prog 73 #[.string ⟨(Lib.decDigits m).toArray⟩, .string ⟨(Lib.decDigits n).toArray⟩] w (Ret w (.string ⟨(Lib.decDigits (m * n)).toArray⟩)) := by
  have pa := dec_len_pos m
  have pb := dec_len_pos n
  have da := allD_dec m
  have db := allD_dec n
  have na := nat_dec m
  have nb := nat_dec n
  generalize Lib.decDigits m = a at *
  generalize Lib.decDigits n = b at *
  subst na nb
  have DA := Lib.hid da; have DB := Lib.hid db; clear da db
  have hmk := run_make_ints (a.length + b.length) (by omega)
  have hmk2 := run_make_bytes (a.length + b.length) (by omega)
  rw [Int.natCast_add] at hmk hmk2
  go_enter Tryz.func73, Tryz.ntmps73
  go_wp2
  clear hmk
  have H2 := Lib.hid hmk2; clear hmk2
  go_loopw [6, 7] (fun si sk wr => ∃ (i : Nat) (l : List Int), si = .int .i64 i ∧ i ≤ a.length ∧ Hid (l.length = a.length + b.length) ∧ Hid (ColAt a b l i 0) ∧ Hid (ColBd l i 0) ∧ RI wr w.heap.size l ∧ Below w.heap.size w wr) (fun si _ _ => a.length - (intOf si).toNat)
  case atStart => exact ⟨0, List.replicate (a.length + b.length) 0, rfl, Nat.zero_le _, by simp [Hid], col_start a b _, colbd_start _, RI.made w _, (Below.refl _ _).alloc (Nat.le_refl _) _⟩
  case round =>
    obtain ⟨i, l, rfl, hi, hl, hcol, hbd, hR, hB⟩ := hrel
    by_cases hlt : i < a.length
    · obtain ⟨wo, rfl⟩ : ∃ wo : World, wo = wr := ⟨_, rfl⟩
      go_wp2
      go_loopw [7] (fun sk wr => ∃ (k : Nat) (l : List Int), sk = .int .i64 k ∧ k ≤ b.length ∧ Hid (l.length = a.length + b.length) ∧ Hid (ColAt a b l i k) ∧ Hid (ColBd l i k) ∧ RI wr w.heap.size l ∧ Below w.heap.size w wr) (fun sk _ => b.length - (intOf sk).toNat)
      case atStart => exact ⟨0, l, rfl, Nat.zero_le _, hl, hcol, hbd, hR, hB⟩
      case round =>
        clear hl hcol hbd hR hB
        obtain ⟨k, l, rfl, hk, hl, hcol, hbd, hR, hB⟩ := hrel
        by_cases hlt2 : k < b.length
        · have hj : i + k + 1 < l.length := by have := hl.out; omega
          obtain ⟨v, hv⟩ : ∃ v, l[i + k + 1] = v := ⟨_, rfl⟩
          obtain ⟨hv0, hv1, _⟩ := hbd.out (i + k + 1) v (by rw [List.getElem?_eq_getElem hj, hv])
          have hc := hR.cell hj
          have hf := hR.free (i + k + 1)
          rw [hv] at hc
          have HV := Lib.hid hv; clear hv
          have hda := (isD_iff _).1 (allD_at DA.out hlt)
          have hdb := (isD_iff _).1 (allD_at DB.out hlt2)
          obtain ⟨p, hp⟩ : ∃ p, a[i].toNat = p + 48 := ⟨a[i].toNat - 48, by omega⟩
          obtain ⟨q, hq⟩ : ∃ q, b[k].toNat = q + 48 := ⟨b[k].toNat - 48, by omega⟩
          have hp9 : p ≤ 9 := by omega
          have hq9 : q ≤ 9 := by omega
          clear hda hdb
          have hm1 : (p : Int) * (q : Int) ≤ 81 := by
            have : p * q ≤ 9 * 9 := Nat.mul_le_mul hp9 hq9
            have : ((p * q : Nat) : Int) ≤ 81 := by omega
            rwa [Int.natCast_mul] at this
          have hm0 : 0 ≤ (p : Int) * (q : Int) := Int.mul_nonneg (by omega) (by omega)
          have hix : ((i : Int) + (k : Int) + 1).toNat = i + k + 1 := by omega
          have hls : l.length ≤ 40000 := by have := hl.out; omega
          go_upto_block 3 with fail
          go_cut [7] (fun s7 wx => s7 = .int .i64 k ∧ RI wx w.heap.size (l.set (i + k + 1) (v + (p : Int) * (q : Int))) ∧ Below w.heap.size w wx)
          case first =>
            go_wp2_with fail
            go_region
            all_goals (go_wp2_with fail; go_meet)
            all_goals exact ⟨rfl, RI.set (w := wr.drew) hR _ _ rfl, hB.drew.setCell (Nat.le_refl _) _⟩
          case rest =>
            obtain ⟨rfl, hR2, hB2⟩ := hcut
            go_wp2
            go_round
            case rel =>
              have ep : (dv a[i] : Int) = p := by unfold dv; omega
              have eq : (dv b[k] : Int) = q := by unfold dv; omega
              refine ⟨k + 1, _, by go_num, by omega, by show _ = _; rw [List.length_set]; exact hl.out, ?_, ?_, hR2, hB2⟩
              · have := col_step hl.out hlt hlt2 hcol.out hj
                rw [HV.out, ep, eq] at this
                exact this
              · exact colbd_step hbd.out (by rw [List.getElem?_eq_getElem hj, HV.out]) hm0 hm1
            case measure => simp [intOf]; omega
        · obtain rfl : k = b.length := by omega
          have hcol2 := Lib.hid (col_row hlt hcol.out)
          have hbd2 := Lib.hid (colbd_row hbd.out)
          clear hcol hbd
          go_wp2
          go_roundw
          case rel => exact ⟨i + 1, l, by go_num, by omega, hl, hcol2, hbd2, hR, hB⟩
          case measure => simp [intOf]; omega
    · obtain rfl : i = a.length := by omega
      obtain ⟨wp, rfl⟩ : ∃ wp : World, wp = wr := ⟨_, rfl⟩
      have hcs := Lib.hid (col_end hcol.out)
      have hbd2 : ∀ (j : Nat) (v : Int), l[j]? = some v → 0 ≤ v ∧ v ≤ 81 * ((a.length : Int) + 1) := fun j v h => ⟨(hbd.out j v h).1, (hbd.out j v h).2.1⟩
      have HB := Lib.hid hbd2
      have hlp : 1 ≤ a.length + b.length := by omega
      clear hcol hbd hbd2
      have hmk2 := H2.out
      go_wp2
      clear hmk2
      obtain ⟨N, hN⟩ : ∃ N, a.length + b.length = N := ⟨_, rfl⟩
      rw [show ((a.length : Int) + (b.length : Int)) = ((a.length + b.length : Nat) : Int) by omega, hN]
      have HN := Lib.hid hN
      clear hN
      have hN0 : 1 ≤ N := by have := HN.out; omega
      have hN1 : N ≤ 40000 := by have := HN.out; omega
      have hgl : w.heap.size < wp.heap.size := hR.lt
      go_loopw [9, 10] (fun c si wq => ∃ (k : Nat) (cc : Int) (o : Txt), c = .int .i64 cc ∧ si = .int .i64 ((k : Int) - 1) ∧ k ≤ N ∧ 0 ≤ cc ∧ cc ≤ 81 * ((a.length : Int) + 1) ∧ Hid (o.length = N) ∧ Hid (CarAt l o k cc) ∧ RB wq wp.heap.size o ∧ RI wq w.heap.size l ∧ Below w.heap.size w wq) (fun _ si _ => (intOf si + 1).toNat)
      case atStart =>
        refine ⟨N, 0, List.replicate N 0, rfl, by go_num, Nat.le_refl _, by omega, by omega, by simp [Hid], car_start _ _ N (by have := hl.out; have := HN.out; omega) (by simp), ?_, hR.later ((Below.refl _ _).alloc (Nat.le_refl _) _), hB.alloc hB.size _⟩
        exact RB.made wp N
      case round =>
        clear hR hB
        obtain ⟨k, cc, o, rfl, rfl, hk, hc0, hc1, hol, hcar, hR, hRI, hB⟩ := hrel
        by_cases h0 : 1 ≤ k
        · obtain ⟨i, rfl⟩ : ∃ i, k = i + 1 := ⟨k - 1, by omega⟩
          rw [show (((i + 1 : Nat) : Int) - 1) = (i : Int) by omega]
          have hil : i < l.length := by have := hl.out; have := HN.out; omega
          have hio : i < o.length := by have := hol.out; omega
          have hls : l.length ≤ 40000 := by have := hl.out; have := HN.out; omega
          obtain ⟨v, hv⟩ : ∃ v, l[i] = v := ⟨_, rfl⟩
          obtain ⟨hv0, hv1⟩ := HB.out i v (by rw [List.getElem?_eq_getElem hil, hv])
          have hc := hRI.cell hil
          rw [hv] at hc
          have HV := Lib.hid hv; clear hv
          have hco := hR.cell hio
          have hfo := hR.free i
          have hin : i < a.length + b.length := by have := HN.out; omega
          go_wp2
          go_roundw
          case rel =>
            have hcar2 := car_step (N := N) (by have := hl.out; have := HN.out; omega) hol.out (by omega) hcar.out (cc + v) (by rw [HV.out])
            refine ⟨i, (cc + v) / 10, o.set i (ch ((cc + v) % 10).toNat), rfl, by go_num, by omega, by omega, by omega, by show _ = _; rw [List.length_set]; exact hol.out, hcar2, hR.set i _ ?_, ?_, hB.setCell (Nat.le_of_lt hgl) _⟩
            · rw [ch_toNat (by omega)]
              go_num
            · unfold RI; rw [Below.heap_setCell _ _ _ _ (by simp; omega)]; exact hRI
          case measure => simp [intOf]
        · obtain rfl : k = 0 := by omega
          have hsr := run_string_row hR (n := N) (by have := hol.out; omega) N
          have hne : o ≠ [] := by intro e; have := hol.out; rw [e] at this; simp at this; omega
          have hlt3 : nat a * nat b < 10 ^ N := by
            rw [← HN.out, Nat.pow_add]
            have e1 := nat_lt a DA.out
            have e2 := nat_lt b DB.out
            exact Nat.mul_lt_mul'' e1 e2
          obtain ⟨ho1, ho2⟩ := car_end (v := nat a * nat b) hol.out hcar.out (by rw [hcs.out, Int.natCast_mul]) hlt3 hc0
          have ho3 := Lib.hid (show bare o = Lib.decDigits (nat a * nat b) by rw [bare_spec o hne ho1, ho2])
          clear ho1 ho2 hlt3
          go_wp2_with fail
          refine (bare_c o _).mono ?_
          rintro e w' ⟨rfl, rfl⟩
          go_wp2
          go_ret
          exact ⟨ret_str ho3.out, hB⟩
end Go.Proofs.Wk
