/- STRAIGHTNESS: the width across a line, in the program and in the reference. -/
import Derived.Test.YtjopphkhpmoedaaGreatDoorNH
namespace Go.Proofs.Wk
open Go.RowKit Mt

theorem lo_drop {ls : List St.Pt} {k : Nat} (hk : k < ls.length) (a b : St.Pt) (n : Int) : St.loF a b (ls.drop k) n = St.loF a b (ls.drop (k + 1)) (min n (St.left a b (St.at_ ls k))) := by
  rw [List.drop_eq_getElem_cons hk, St.loF, St.at_get hk]
theorem hi_drop {ls : List St.Pt} {k : Nat} (hk : k < ls.length) (a b : St.Pt) (n : Int) : St.hiF a b (ls.drop k) n = St.hiF a b (ls.drop (k + 1)) (max n (St.left a b (St.at_ ls k))) := by
  rw [List.drop_eq_getElem_cons hk, St.hiF, St.at_get hk]
theorem acr_bd {ls : List St.Pt} (hin : ∀ p ∈ ls, St.InP p) (h0 : 0 < ls.length) {a b : St.Pt} (ha : St.InP a) (hb : St.InP b) : -160000000000 ≤ St.acr ls a b ∧ St.acr ls a b ≤ 160000000000 := by
  obtain ⟨-, x, hx, y, hy, e⟩ := St.acr_spec (l := ls) a b (List.length_pos_iff.1 h0)
  have h1 := (St.left_bd ha hb (hin x hx)).2.2
  have h2 := (St.left_bd ha hb (hin y hy)).2.2
  omega
set_option maxRecDepth 100000 in
set_option maxHeartbeats 4000000 in
theorem across_c {v : Value} (ls : List St.Pt) (a c : St.Pt) (w : World) (hg : Good w) (S : SlX w v ls) (hin : ∀ p ∈ ls, St.InP p) (h0 : 0 < ls.length) (hn : ls.length ≤ 64) (hpa : St.InP a) (hpc : St.InP c) (hne : a ≠ c) :
    Calls Tryz.prog 55 #[v, ptV a, ptV c] w (Ret w (.string ⟨(rtoa (St.wq (St.acr ls a c) a c)).toArray⟩)) := by
  refine S.cases _ ?_ ?_
  · rintro a cap rfl rfl
    simp at h0
  rintro b off cap rfl hp hR hb
  have hbd := acr_bd hin h0 hpa hpc
  have HSQ := Lib.hid (fun W (h : Below w.heap.size w W) => squared_g (St.acr ls a c) a c W (hg.later h) (by omega) hpa hpc hne)
  have hL : St.loF a c (ls.drop 0) (St.left a c (St.at_ ls 0)) = St.loF a c ls (St.left a c (St.at_ ls 0)) := rfl
  have hH : St.hiF a c (ls.drop 0) (St.left a c (St.at_ ls 0)) = St.hiF a c ls (St.left a c (St.at_ ls 0)) := rfl
  have hw : IntKind.i64.wrap (St.hiF a c ls (St.left a c (St.at_ ls 0)) - St.loF a c ls (St.left a c (St.at_ ls 0))) = St.acr ls a c := wr rfl (by unfold St.acr at hbd; omega)
  have hx := Bx2.mk' w a c 37
  have HL := Lib.hid (fun (p : St.Pt) (hp : St.InP p) (W : World) => left_g a c p W hpa hpc hp)
  have HL0 := Lib.hid (fun W => left_g a c (St.at_ ls 0) W hpa hpc (St.at_in hin h0))
  have HR := Lib.hid (fun (W : World) (h : Below w.heap.size w W) (k : Nat) (hk : k < ls.length) => (hR.later h hb).ptAt hk)
  have HIN := Lib.hid (fun (k : Nat) (hk : k < ls.length) => St.at_in hin hk)
  generalize St.acr ls a c = A at *
  generalize rtoa (St.wq A a c) = T at *
  generalize St.loF a c ls (St.left a c (St.at_ ls 0)) = L at *
  generalize St.hiF a c ls (St.left a c (St.at_ ls 0)) = H at *
  have HLL := Lib.hid hL
  have HHH := Lib.hid hH
  have HW := Lib.hid hw
  clear hpa hpc hR hin hne hL hH hbd hw hg S
  obtain ⟨ax, ay⟩ := a
  obtain ⟨cx, cy⟩ := c
  simp only at hx
  go_enter Tryz.func55, Tryz.ntmps55
  go_wp2_with fail
  generalize ((w.alloc (.cells #[.int .i64 ax, .int .i64 ay] 37)).alloc (.cells #[.int .i64 cx, .int .i64 cy] 37)) = W at *
  have hr0 : FaR w W b off ⟨ax, ay⟩ ⟨cx, cy⟩ (St.at_ ls 0) := ⟨hx, by have := HR.out W hx.w 0 h0; rwa [Nat.zero_mul, Nat.add_zero] at this⟩
  generalize St.at_ ls 0 = p0 at *
  generalize St.left ⟨ax, ay⟩ ⟨cx, cy⟩ p0 = n0 at *
  obtain ⟨p0x, p0y⟩ := p0
  have HR0 := Lib.hid hr0
  have hl0 : (0 : Int) < (ls.length : Int) := by omega
  clear hr0 hx
  go_region_held3 (fun w' => w'.cell? ⟨w.heap.size, 0, none⟩ = some (.int .i64 ax) ∧ w'.cell? ⟨w.heap.size, 1, none⟩ = some (.int .i64 ay) ∧ w'.cell? ⟨w.heap.size + 1, 0, none⟩ = some (.int .i64 cx) ∧ w'.cell? ⟨w.heap.size + 1, 1, none⟩ = some (.int .i64 cy) ∧
      w'.cell? ⟨b, off, none⟩ = some (.int .i64 p0x) ∧ w'.cell? ⟨b, off + 1, none⟩ = some (.int .i64 p0y) ∧ FaR w w' b off ⟨ax, ay⟩ ⟨cx, cy⟩ ⟨p0x, p0y⟩)
    (first | exact J2.t | exact J1.t | exact HR0.out.t | exact HR0.out.drew.t)
    (first
      | (go_at_call 80; (with_reducible refine (HL0.out _).mono ?_); rintro e w1 ⟨rfl, hb1⟩; (first | have J2 := J1.later hb1 | have J1 := HR0.out.drew.later hb1 | have J1 := HR0.out.later hb1))
      | fail)
  all_goals
    have HX := Lib.hid J2.x
    clear J2 J1 HR0 HL0
    go_wp2_with fail
    go_loopw [7, 8, 26] (fun sl sh sk wr => ∃ (k : Nat) (lo hi : Int), sl = .int .i64 lo ∧ sh = .int .i64 hi ∧ sk = .int .i64 (k : Int) ∧ k ≤ ls.length ∧ Hid (St.loF ⟨ax, ay⟩ ⟨cx, cy⟩ (ls.drop k) lo = L) ∧ Hid (St.hiF ⟨ax, ay⟩ ⟨cx, cy⟩ (ls.drop k) hi = H) ∧ Hid (Bx2 w wr ⟨ax, ay⟩ ⟨cx, cy⟩))
      (fun _ _ sk _ => ls.length - (intOf sk).toNat)
    case atStart => exact ⟨0, n0, n0, rfl, rfl, rfl, Nat.zero_le _, HLL.out, HHH.out, HX.out⟩
    case round =>
      obtain ⟨k, lo, hi, rfl, rfl, rfl, hk, hlo, hhi, hB⟩ := hrel
      clear HLL HHH HX
      by_cases hlt : k < ls.length
      · have hlo2 := hlo.out
        have hhi2 := hhi.out
        rw [lo_drop hlt] at hlo2
        rw [hi_drop hlt] at hhi2
        have hip := HIN.out k hlt
        have hpp := HR.out _ hB.out.w k hlt
        generalize St.at_ ls k = p at *
        have hl := fun W => HL.out p hip W
        generalize St.left ⟨ax, ay⟩ ⟨cx, cy⟩ p = n at *
        obtain ⟨px, py⟩ := p
        have HN := Lib.hid hl
        have HLO := Lib.hid hlo2
        have HHI := Lib.hid hhi2
        clear hl hlo hhi hlo2 hhi2 hip
        have hAl := below_al wr (.cells #[.int .i64 px, .int .i64 py] 37)
        have hB1 := hB.out.later hAl
        have c0 := hB1.a.c0
        have c1 := hB1.a.c1
        have c2 := hB1.b.c0
        have c3 := hB1.b.c1
        have hpn := PtAt.new wr ⟨px, py⟩ 37
        have c4 := hpn.c0
        have c5 := hpn.c1
        obtain ⟨m0, m1⟩ := hpp
        have HB1 := Lib.hid hB1
        clear hB hB1 hpn hAl
        go_wp2_with fail
        ((with_reducible refine (HN.out _).mono ?_); rintro e w2 ⟨rfl, hb2⟩)
        have HB2 := Lib.hid (HB1.out.later hb2)
        clear c0 c1 c2 c3 c4 c5 m0 m1 HB1 hb2
        go_wp2
        go_roundw
        case rel => exact ⟨k + 1, _, _, rfl, rfl, by go_num, by omega, HLO.out, HHI.out, HB2.out⟩
        case measure => simp [intOf]; omega
      · obtain rfl : k = ls.length := by omega
        have hlo2 := hlo.out
        have hhi2 := hhi.out
        rw [List.drop_length] at hlo2 hhi2
        obtain rfl : lo = L := hlo2
        obtain rfl : hi = H := hhi2
        have hw := HW.out
        have c0 := hB.out.a.c0
        have c1 := hB.out.a.c1
        have c2 := hB.out.b.c0
        have c3 := hB.out.b.c1
        have hBW := hB.out.w
        clear hlo hhi HW HL
        go_wp2_with fail
        ((with_reducible refine (HSQ.out _ hBW).mono ?_); rintro e w2 ⟨rfl, hb2⟩)
        have hB3 := hBW.nx hb2
        clear hB c0 c1 c2 c3
        go_wp2
        go_ret
        exact ⟨rfl, hB3⟩
set_option maxRecDepth 100000 in
set_option maxHeartbeats 4000000 in
theorem rWide_c {v : Value} (ls : List St.Pt) (a c : St.Pt) (w : World) (S : SlX w v ls) (hin : ∀ p ∈ ls, St.InP p) (h0 : 0 < ls.length) (hn : ls.length ≤ 64) (hpa : St.InP a) (hpc : St.InP c) (hne : a ≠ c) :
    Calls Tryz.prog 56 #[v, ptV a, ptV c] w (Ret w (.string ⟨(rtoa (St.wq (St.acr ls a c) a c)).toArray⟩)) := by
  refine S.cases _ ?_ ?_
  · rintro a cap rfl rfl
    simp at h0
  rintro b off cap rfl hp hR hb
  have hbd := acr_bd hin h0 hpa hpc
  have hfb := (St.far_bd hpa hpc).2.2
  have hfp := St.far_pos hne
  have hRT := fun W => rRatio_c (St.acr ls a c) (St.far a c) W (by omega) (by omega)
  rw [show Rat.divInt (St.acr ls a c * St.acr ls a c) (St.far a c) = St.wq (St.acr ls a c) a c from rfl] at hRT
  have HRT := Lib.hid hRT
  have HFR := Lib.hid (fun W => rFar_c a c W hpa hpc)
  clear hfb hfp hRT
  have hL : St.loF a c (ls.drop 0) (St.left a c (St.at_ ls 0)) = St.loF a c ls (St.left a c (St.at_ ls 0)) := rfl
  have hH : St.hiF a c (ls.drop 0) (St.left a c (St.at_ ls 0)) = St.hiF a c ls (St.left a c (St.at_ ls 0)) := rfl
  have hw : IntKind.i64.wrap (St.hiF a c ls (St.left a c (St.at_ ls 0)) - St.loF a c ls (St.left a c (St.at_ ls 0))) = St.acr ls a c := wr rfl (by unfold St.acr at hbd; omega)
  have hx := Bx2.mk' w a c 37
  have HL := Lib.hid (fun (p : St.Pt) (hp : St.InP p) (W : World) => rLeft_c a c p W hpa hpc hp)
  have HL0 := Lib.hid (fun W => rLeft_c a c (St.at_ ls 0) W hpa hpc (St.at_in hin h0))
  have HR := Lib.hid (fun (W : World) (h : Below w.heap.size w W) (k : Nat) (hk : k < ls.length) => (hR.later h hb).ptAt hk)
  have HIN := Lib.hid (fun (k : Nat) (hk : k < ls.length) => St.at_in hin hk)
  generalize St.acr ls a c = A at *
  generalize rtoa (St.wq A a c) = T at *
  generalize St.far a c = F at *
  generalize St.loF a c ls (St.left a c (St.at_ ls 0)) = L at *
  generalize St.hiF a c ls (St.left a c (St.at_ ls 0)) = H at *
  have HLL := Lib.hid hL
  have HHH := Lib.hid hH
  have HW := Lib.hid hw
  clear hpa hpc hR hin hne hL hH hbd hw S
  obtain ⟨ax, ay⟩ := a
  obtain ⟨cx, cy⟩ := c
  simp only at hx
  go_enter Tryz.func56, Tryz.ntmps56
  go_wp2_with fail
  generalize ((w.alloc (.cells #[.int .i64 ax, .int .i64 ay] 37)).alloc (.cells #[.int .i64 cx, .int .i64 cy] 37)) = W at *
  have hr0 : FaR w W b off ⟨ax, ay⟩ ⟨cx, cy⟩ (St.at_ ls 0) := ⟨hx, by have := HR.out W hx.w 0 h0; rwa [Nat.zero_mul, Nat.add_zero] at this⟩
  generalize St.at_ ls 0 = p0 at *
  generalize St.left ⟨ax, ay⟩ ⟨cx, cy⟩ p0 = n0 at *
  obtain ⟨p0x, p0y⟩ := p0
  have HR0 := Lib.hid hr0
  have hl0 : (0 : Int) < (ls.length : Int) := by omega
  clear hr0 hx
  go_region_held3 (fun w' => w'.cell? ⟨w.heap.size, 0, none⟩ = some (.int .i64 ax) ∧ w'.cell? ⟨w.heap.size, 1, none⟩ = some (.int .i64 ay) ∧ w'.cell? ⟨w.heap.size + 1, 0, none⟩ = some (.int .i64 cx) ∧ w'.cell? ⟨w.heap.size + 1, 1, none⟩ = some (.int .i64 cy) ∧
      w'.cell? ⟨b, off, none⟩ = some (.int .i64 p0x) ∧ w'.cell? ⟨b, off + 1, none⟩ = some (.int .i64 p0y) ∧ FaR w w' b off ⟨ax, ay⟩ ⟨cx, cy⟩ ⟨p0x, p0y⟩)
    (first | exact J2.t | exact J1.t | exact HR0.out.t | exact HR0.out.drew.t)
    (first
      | (go_at_call 24; (with_reducible refine (HL0.out _).mono ?_); rintro e w1 ⟨rfl, hb1⟩; (first | have J2 := J1.later hb1 | have J1 := HR0.out.drew.later hb1 | have J1 := HR0.out.later hb1))
      | fail)
  all_goals
    have HX := Lib.hid J2.x
    clear J2 J1 HR0 HL0
    go_wp2_with fail
    go_loopw [7, 8, 9] (fun sl sh sk wr => ∃ (k : Nat) (lo hi : Int), sl = .int .i64 lo ∧ sh = .int .i64 hi ∧ sk = .int .i64 (k : Int) ∧ k ≤ ls.length ∧ Hid (St.loF ⟨ax, ay⟩ ⟨cx, cy⟩ (ls.drop k) lo = L) ∧ Hid (St.hiF ⟨ax, ay⟩ ⟨cx, cy⟩ (ls.drop k) hi = H) ∧ Hid (Bx2 w wr ⟨ax, ay⟩ ⟨cx, cy⟩))
      (fun _ _ sk _ => ls.length - (intOf sk).toNat)
    case atStart => exact ⟨0, n0, n0, rfl, rfl, rfl, Nat.zero_le _, HLL.out, HHH.out, HX.out⟩
    case round =>
      obtain ⟨k, lo, hi, rfl, rfl, rfl, hk, hlo, hhi, hB⟩ := hrel
      clear HLL HHH HX
      by_cases hlt : k < ls.length
      · have hlo2 := hlo.out
        have hhi2 := hhi.out
        rw [lo_drop hlt] at hlo2
        rw [hi_drop hlt] at hhi2
        have hip := HIN.out k hlt
        have hpp := HR.out _ hB.out.w k hlt
        generalize St.at_ ls k = p at *
        have hl := fun W => HL.out p hip W
        generalize St.left ⟨ax, ay⟩ ⟨cx, cy⟩ p = n at *
        obtain ⟨px, py⟩ := p
        have HN := Lib.hid hl
        have HLO := Lib.hid hlo2
        have HHI := Lib.hid hhi2
        clear hl hlo hhi hlo2 hhi2 hip
        have hr1 : FaR w wr b (off + k * 2) ⟨ax, ay⟩ ⟨cx, cy⟩ ⟨px, py⟩ := ⟨hB.out, hpp⟩
        have HR1 := Lib.hid hr1
        clear hB hpp hr1
        go_wp2_with fail
        go_region_held3 (fun w' => w'.cell? ⟨w.heap.size, 0, none⟩ = some (.int .i64 ax) ∧ w'.cell? ⟨w.heap.size, 1, none⟩ = some (.int .i64 ay) ∧ w'.cell? ⟨w.heap.size + 1, 0, none⟩ = some (.int .i64 cx) ∧ w'.cell? ⟨w.heap.size + 1, 1, none⟩ = some (.int .i64 cy) ∧
            w'.cell? ⟨b, off + k * 2, none⟩ = some (.int .i64 px) ∧ w'.cell? ⟨b, off + k * 2 + 1, none⟩ = some (.int .i64 py) ∧ FaR w w' b (off + k * 2) ⟨ax, ay⟩ ⟨cx, cy⟩ ⟨px, py⟩)
          (first | exact JJ.t | exact HR1.out.t | exact HR1.out.drew.t)
          (first
            | (go_at_call 24; (with_reducible refine (HN.out _).mono ?_); rintro e w2 ⟨rfl, hb2⟩; (first | have JJ := HR1.out.drew.later hb2 | have JJ := HR1.out.later hb2))
            | fail)
        have HB2 := Lib.hid JJ.x
        clear JJ HR1
        go_wp2
        go_roundw
        case rel => exact ⟨k + 1, _, _, rfl, rfl, by go_num, by omega, HLO.out, HHI.out, HB2.out⟩
        case measure => simp [intOf]; omega
      · obtain rfl : k = ls.length := by omega
        have hlo2 := hlo.out
        have hhi2 := hhi.out
        rw [List.drop_length] at hlo2 hhi2
        obtain rfl : lo = L := hlo2
        obtain rfl : hi = H := hhi2
        have hw := HW.out
        have c0 := hB.out.a.c0
        have c1 := hB.out.a.c1
        have c2 := hB.out.b.c0
        have c3 := hB.out.b.c1
        have hBW := hB.out.w
        clear hlo hhi HW HL
        go_wp2_with fail
        ((with_reducible refine (HFR.out _).mono ?_); rintro e w2 ⟨rfl, hb2⟩)
        have hB3 := hBW.nx hb2
        go_wp2_with fail
        ((with_reducible refine (HRT.out _).mono ?_); rintro e w3 ⟨rfl, hb3⟩)
        have hB4 := hB3.nx hb3
        clear hB c0 c1 c2 c3
        go_wp2
        go_ret
        exact ⟨rfl, hB4⟩
end Go.Proofs.Wk
/- STRAIGHTNESS: whether all points are equal; slices.ContainsFunc over points. -/
namespace Go.Proofs.Wk
open Go.RowKit Mt

def IxP (w : World) (B : Bool) (e : Ending) (w' : World) : Prop := ∃ n : Int, e = .returned (.int .i64 n) ∧ decide (0 ≤ n) = B ∧ Below w.heap.size w w'
theorem any_step {ls : List St.Pt} {P : St.Pt → Bool} {i : Nat} (hi : i < ls.length) (h : (ls.take i).any P = false) (h2 : P (St.at_ ls i) = false) : (ls.take (i + 1)).any P = false := by
  rw [List.take_succ_eq_append_getElem hi, List.any_append, h, ← St.at_get hi]
  simp [h2]
theorem any_yes {ls : List St.Pt} {P : St.Pt → Bool} {i : Nat} (hi : i < ls.length) (h2 : P (St.at_ ls i) = true) : ls.any P = true := List.any_eq_true.2 ⟨_, St.at_mem hi, h2⟩
set_option maxRecDepth 100000 in
set_option maxHeartbeats 1000000 in
theorem ixf_s {v : Value} (ls : List St.Pt) (P : St.Pt → Bool) (w : World) (S : SlX w v ls) (hln : ls.length ≤ 140737488355328) (g : Nat)
    (HF0 : ∀ p ∈ ls, ∀ W, Below w.heap.size w W → Calls Tryz.prog 116 #[ptV p, .pointer (some ⟨g, 0, none⟩)] W (Ret W (.bool (P p)))) :
    Calls Tryz.prog 64 #[v, .func (.func 116) #[] #[.pointer (some ⟨g, 0, none⟩)]] w (IxP w (ls.any P)) := by
  refine S.cases _ ?_ ?_
  · rintro a cap rfl rfl
    go_enter Tryz.func64, Tryz.ntmps64
    go_wp2_with fail
    refine wp_loop_rounds 1 ?_
    rw [rounds_succ]
    go_wp2
    go_ret
    exact ⟨_, rfl, rfl, Below.refl _ _⟩
  rintro b off cap rfl hp hR hb
  have HBAD := Lib.hid (fun i hi h => any_yes (ls := ls) (P := P) (i := i) hi h)
  have HR := Lib.hid hR
  have HF := Lib.hid (fun i (hi : i < ls.length) => HF0 _ (St.at_mem hi))
  have HFIN := Lib.hid (show (ls.take ls.length).any P = false → ls.any P = false from fun h => by rwa [List.take_length] at h)
  generalize ls.any P = B at *
  clear hR HF0
  go_enter Tryz.func64, Tryz.ntmps64
  go_wp2_with fail
  go_loopw [8] (fun si wr => ∃ i : Nat, si = .int .i64 (i : Int) ∧ i ≤ ls.length ∧ Hid ((ls.take i).any P = false) ∧ Below w.heap.size w wr) (fun si _ => ls.length - (intOf si).toNat)
  case atStart => exact ⟨0, rfl, Nat.zero_le _, rfl, Below.refl _ _⟩
  case round =>
    obtain ⟨i, rfl, hi, ha, hB⟩ := hrel
    by_cases hlt : i < ls.length
    · obtain ⟨k0, k1⟩ := (HR.out.later hB hb).pt hlt
      have hf := HF.out i hlt
      have hbad := HBAD.out i hlt
      have hstep := any_step hlt ha.out
      generalize St.at_ ls i = p at *
      obtain ⟨x, y⟩ := p
      simp only at k0 k1
      generalize P ⟨x, y⟩ = q at *
      have HF1 := Lib.hid hf
      clear hf
      cases q with
      | true =>
        obtain rfl : B = true := hbad rfl
        clear hbad hstep HBAD HFIN
        go_wp2_with fail
        ((with_reducible refine (HF1.out _ hB).mono ?_); rintro e w1 ⟨rfl, hb1⟩)
        go_wp2
        go_ret
        exact ⟨_, rfl, decide_eq_true (by omega), hB.nx hb1⟩
      | false =>
        have HS := Lib.hid (hstep rfl)
        clear hbad hstep
        go_wp2_with fail
        ((with_reducible refine (HF1.out _ hB).mono ?_); rintro e w1 ⟨rfl, hb1⟩)
        go_wp2
        go_roundw
        case rel => exact ⟨i + 1, by go_num, by omega, HS.out, hB.nx hb1⟩
        case measure => simp [intOf]; omega
    · obtain rfl : i = ls.length := by omega
      obtain rfl : B = false := HFIN.out ha.out
      clear ha HBAD HFIN
      go_wp2
      go_ret
      exact ⟨_, rfl, rfl, hB⟩
set_option maxRecDepth 100000 in
set_option maxHeartbeats 1000000 in
theorem cnf_s {v : Value} (ls : List St.Pt) (P : St.Pt → Bool) (w : World) (S : SlX w v ls) (hln : ls.length ≤ 140737488355328) (g : Nat)
    (HF0 : ∀ p ∈ ls, ∀ W, Below w.heap.size w W → Calls Tryz.prog 116 #[ptV p, .pointer (some ⟨g, 0, none⟩)] W (Ret W (.bool (P p)))) :
    Calls Tryz.prog 29 #[v, .func (.func 116) #[] #[.pointer (some ⟨g, 0, none⟩)]] w (Ret w (.bool (ls.any P))) := by
  have HI := Lib.hid (ixf_s ls P w S hln g HF0)
  obtain ⟨sa, cap, rfl⟩ := S.len
  generalize ls.any P = B at *
  clear HF0 S
  go_enter Tryz.func29, Tryz.ntmps29
  go_wp2_with fail
  ((with_reducible refine (HI.out).mono ?_); rintro e w1 ⟨n, rfl, hn, hb1⟩)
  subst hn
  go_wp2
  go_ret
  exact ⟨rfl, hb1⟩
set_option maxRecDepth 100000 in
set_option maxHeartbeats 1000000 in
theorem ixf_l {v : Value} (ls : List St.Pt) (P : St.Pt → Bool) (w : World) (S : SlX w v ls) (hln : ls.length ≤ 140737488355328) (g : Nat)
    (HF0 : ∀ p ∈ ls, ∀ W, Below w.heap.size w W → Calls Tryz.prog 44 #[ptV p, .pointer (some ⟨g, 0, none⟩)] W (Ret W (.bool (P p)))) :
    Calls Tryz.prog 64 #[v, .func (.func 44) #[] #[.pointer (some ⟨g, 0, none⟩)]] w (IxP w (ls.any P)) := by
  refine S.cases _ ?_ ?_
  · rintro a cap rfl rfl
    go_enter Tryz.func64, Tryz.ntmps64
    go_wp2_with fail
    refine wp_loop_rounds 1 ?_
    rw [rounds_succ]
    go_wp2
    go_ret
    exact ⟨_, rfl, rfl, Below.refl _ _⟩
  rintro b off cap rfl hp hR hb
  have HBAD := Lib.hid (fun i hi h => any_yes (ls := ls) (P := P) (i := i) hi h)
  have HR := Lib.hid hR
  have HF := Lib.hid (fun i (hi : i < ls.length) => HF0 _ (St.at_mem hi))
  have HFIN := Lib.hid (show (ls.take ls.length).any P = false → ls.any P = false from fun h => by rwa [List.take_length] at h)
  generalize ls.any P = B at *
  clear hR HF0
  go_enter Tryz.func64, Tryz.ntmps64
  go_wp2_with fail
  go_loopw [8] (fun si wr => ∃ i : Nat, si = .int .i64 (i : Int) ∧ i ≤ ls.length ∧ Hid ((ls.take i).any P = false) ∧ Below w.heap.size w wr) (fun si _ => ls.length - (intOf si).toNat)
  case atStart => exact ⟨0, rfl, Nat.zero_le _, rfl, Below.refl _ _⟩
  case round =>
    obtain ⟨i, rfl, hi, ha, hB⟩ := hrel
    by_cases hlt : i < ls.length
    · obtain ⟨k0, k1⟩ := (HR.out.later hB hb).pt hlt
      have hf := HF.out i hlt
      have hbad := HBAD.out i hlt
      have hstep := any_step hlt ha.out
      generalize St.at_ ls i = p at *
      obtain ⟨x, y⟩ := p
      simp only at k0 k1
      generalize P ⟨x, y⟩ = q at *
      have HF1 := Lib.hid hf
      clear hf
      cases q with
      | true =>
        obtain rfl : B = true := hbad rfl
        clear hbad hstep HBAD HFIN
        go_wp2_with fail
        ((with_reducible refine (HF1.out _ hB).mono ?_); rintro e w1 ⟨rfl, hb1⟩)
        go_wp2
        go_ret
        exact ⟨_, rfl, decide_eq_true (by omega), hB.nx hb1⟩
      | false =>
        have HS := Lib.hid (hstep rfl)
        clear hbad hstep
        go_wp2_with fail
        ((with_reducible refine (HF1.out _ hB).mono ?_); rintro e w1 ⟨rfl, hb1⟩)
        go_wp2
        go_roundw
        case rel => exact ⟨i + 1, by go_num, by omega, HS.out, hB.nx hb1⟩
        case measure => simp [intOf]; omega
    · obtain rfl : i = ls.length := by omega
      obtain rfl : B = false := HFIN.out ha.out
      clear ha HBAD HFIN
      go_wp2
      go_ret
      exact ⟨_, rfl, rfl, hB⟩
set_option maxRecDepth 100000 in
set_option maxHeartbeats 1000000 in
theorem cnf_l {v : Value} (ls : List St.Pt) (P : St.Pt → Bool) (w : World) (S : SlX w v ls) (hln : ls.length ≤ 140737488355328) (g : Nat)
    (HF0 : ∀ p ∈ ls, ∀ W, Below w.heap.size w W → Calls Tryz.prog 44 #[ptV p, .pointer (some ⟨g, 0, none⟩)] W (Ret W (.bool (P p)))) :
    Calls Tryz.prog 29 #[v, .func (.func 44) #[] #[.pointer (some ⟨g, 0, none⟩)]] w (Ret w (.bool (ls.any P))) := by
  have HI := Lib.hid (ixf_l ls P w S hln g HF0)
  obtain ⟨sa, cap, rfl⟩ := S.len
  generalize ls.any P = B at *
  clear HF0 S
  go_enter Tryz.func29, Tryz.ntmps29
  go_wp2_with fail
  ((with_reducible refine (HI.out).mono ?_); rintro e w1 ⟨n, rfl, hn, hb1⟩)
  subst hn
  go_wp2
  go_ret
  exact ⟨rfl, hb1⟩
set_option maxRecDepth 100000 in
set_option maxHeartbeats 1000000 in
theorem ixf_k {v : Value} (ls : List St.Pt) (P : St.Pt → Bool) (w : World) (S : SlX w v ls) (hln : ls.length ≤ 140737488355328)
    (HF0 : ∀ p ∈ ls, ∀ W, Below w.heap.size w W → Calls Tryz.prog 31 #[ptV p] W (Ret W (.bool (P p)))) :
    Calls Tryz.prog 64 #[v, .func (.func 31) #[] #[]] w (IxP w (ls.any P)) := by
  refine S.cases _ ?_ ?_
  · rintro a cap rfl rfl
    go_enter Tryz.func64, Tryz.ntmps64
    go_wp2_with fail
    refine wp_loop_rounds 1 ?_
    rw [rounds_succ]
    go_wp2
    go_ret
    exact ⟨_, rfl, rfl, Below.refl _ _⟩
  rintro b off cap rfl hp hR hb
  have HBAD := Lib.hid (fun i hi h => any_yes (ls := ls) (P := P) (i := i) hi h)
  have HR := Lib.hid hR
  have HF := Lib.hid (fun i (hi : i < ls.length) => HF0 _ (St.at_mem hi))
  have HFIN := Lib.hid (show (ls.take ls.length).any P = false → ls.any P = false from fun h => by rwa [List.take_length] at h)
  generalize ls.any P = B at *
  clear hR HF0
  go_enter Tryz.func64, Tryz.ntmps64
  go_wp2_with fail
  go_loopw [8] (fun si wr => ∃ i : Nat, si = .int .i64 (i : Int) ∧ i ≤ ls.length ∧ Hid ((ls.take i).any P = false) ∧ Below w.heap.size w wr) (fun si _ => ls.length - (intOf si).toNat)
  case atStart => exact ⟨0, rfl, Nat.zero_le _, rfl, Below.refl _ _⟩
  case round =>
    obtain ⟨i, rfl, hi, ha, hB⟩ := hrel
    by_cases hlt : i < ls.length
    · obtain ⟨k0, k1⟩ := (HR.out.later hB hb).pt hlt
      have hf := HF.out i hlt
      have hbad := HBAD.out i hlt
      have hstep := any_step hlt ha.out
      generalize St.at_ ls i = p at *
      obtain ⟨x, y⟩ := p
      simp only at k0 k1
      generalize P ⟨x, y⟩ = q at *
      have HF1 := Lib.hid hf
      clear hf
      cases q with
      | true =>
        obtain rfl : B = true := hbad rfl
        clear hbad hstep HBAD HFIN
        go_wp2_with fail
        ((with_reducible refine (HF1.out _ hB).mono ?_); rintro e w1 ⟨rfl, hb1⟩)
        go_wp2
        go_ret
        exact ⟨_, rfl, decide_eq_true (by omega), hB.nx hb1⟩
      | false =>
        have HS := Lib.hid (hstep rfl)
        clear hbad hstep
        go_wp2_with fail
        ((with_reducible refine (HF1.out _ hB).mono ?_); rintro e w1 ⟨rfl, hb1⟩)
        go_wp2
        go_roundw
        case rel => exact ⟨i + 1, by go_num, by omega, HS.out, hB.nx hb1⟩
        case measure => simp [intOf]; omega
    · obtain rfl : i = ls.length := by omega
      obtain rfl : B = false := HFIN.out ha.out
      clear ha HBAD HFIN
      go_wp2
      go_ret
      exact ⟨_, rfl, rfl, hB⟩
set_option maxRecDepth 100000 in
set_option maxHeartbeats 1000000 in
theorem cnf_k {v : Value} (ls : List St.Pt) (P : St.Pt → Bool) (w : World) (S : SlX w v ls) (hln : ls.length ≤ 140737488355328)
    (HF0 : ∀ p ∈ ls, ∀ W, Below w.heap.size w W → Calls Tryz.prog 31 #[ptV p] W (Ret W (.bool (P p)))) :
    Calls Tryz.prog 29 #[v, .func (.func 31) #[] #[]] w (Ret w (.bool (ls.any P))) := by
  have HI := Lib.hid (ixf_k ls P w S hln HF0)
  obtain ⟨sa, cap, rfl⟩ := S.len
  generalize ls.any P = B at *
  clear HF0 S
  go_enter Tryz.func29, Tryz.ntmps29
  go_wp2_with fail
  ((with_reducible refine (HI.out).mono ?_); rintro e w1 ⟨n, rfl, hn, hb1⟩)
  subst hn
  go_wp2
  go_ret
  exact ⟨rfl, hb1⟩
/-- 'p != l[0]'. -/
def neP (ls : List St.Pt) (p : St.Pt) : Bool := !decide (p = St.at_ ls 0)
theorem any_ne (ls : List St.Pt) : ls.any (neP ls) = !St.same ls := by
  unfold St.same neP
  rw [← List.not_all_eq_any_not]
set_option maxRecDepth 100000 in
set_option maxHeartbeats 1000000 in
theorem ne_s {v : Value} (ls : List St.Pt) (p : St.Pt) (bl : Nat) (W : World) (S : SlX W v ls) (h0 : 0 < ls.length) (hl : W.heap[bl]? = some (.cells #[v] 22 (0, 0))) :
    Calls Tryz.prog 116 #[ptV p, .pointer (some ⟨bl, 0, none⟩)] W (Ret W (.bool (neP ls p))) := by
  refine S.cases _ ?_ ?_
  · rintro a cap rfl rfl
    simp at h0
  rintro b off cap rfl hp hR hb
  have hA := below_al W (.cells #[.int .i64 p.x, .int .i64 p.y] 37)
  have hpt := PtAt.new W p 37
  have hl2 : (W.alloc (.cells #[.int .i64 p.x, .int .i64 p.y] 37)).heap[bl]? = some (.cells #[.slice (some ⟨b, off, none⟩) ls.length cap] 22 (0, 0)) := by
    rw [hA.block _ (Array.getElem?_eq_some_iff.1 hl).1]; exact hl
  have l0 := c1row hl2
  have hq := (hR.later hA hb).ptAt h0
  rw [Nat.zero_mul, Nat.add_zero] at hq
  have hne : neP ls p = !(p.x == (St.at_ ls 0).x && p.y == (St.at_ ls 0).y) := by rw [pt_beq]; rfl
  have hl0 : (0 : Int) < (ls.length : Int) := by omega
  rw [hne]
  generalize St.at_ ls 0 = q at *
  obtain ⟨px, py⟩ := p
  obtain ⟨qx, qy⟩ := q
  have k0 := hq.c0
  have k1 := hq.c1
  have m0 := hpt.c0
  have m1 := hpt.c1
  have pe := fun W => pt_neq px py qx qy W
  simp only at l0 k0 k1 m0 m1 hA ⊢
  generalize (px == qx && py == qy) = bb at *
  clear hR hl hl2 hq hpt hne
  go_enter Tryz.func116, Tryz.ntmps116
  go_wp2_with fail
  generalize W.alloc (.cells #[.int .i64 px, .int .i64 py] 37) = W1 at *
  go_quiet (fail)
  go_wp2
  go_ret
  exact ⟨rfl, ⟨hA.os, hA.tape, hA.output, hA.size, hA.block⟩⟩
set_option maxRecDepth 100000 in
set_option maxHeartbeats 1000000 in
theorem ne_l {v : Value} (ls : List St.Pt) (p : St.Pt) (bl : Nat) (W : World) (S : SlX W v ls) (h0 : 0 < ls.length) (hl : W.heap[bl]? = some (.cells #[v] 22 (0, 0))) :
    Calls Tryz.prog 44 #[ptV p, .pointer (some ⟨bl, 0, none⟩)] W (Ret W (.bool (neP ls p))) := by
  refine S.cases _ ?_ ?_
  · rintro a cap rfl rfl
    simp at h0
  rintro b off cap rfl hp hR hb
  have hA := below_al W (.cells #[.int .i64 p.x, .int .i64 p.y] 37)
  have hpt := PtAt.new W p 37
  have hl2 : (W.alloc (.cells #[.int .i64 p.x, .int .i64 p.y] 37)).heap[bl]? = some (.cells #[.slice (some ⟨b, off, none⟩) ls.length cap] 22 (0, 0)) := by
    rw [hA.block _ (Array.getElem?_eq_some_iff.1 hl).1]; exact hl
  have l0 := c1row hl2
  have hq := (hR.later hA hb).ptAt h0
  rw [Nat.zero_mul, Nat.add_zero] at hq
  have hne : neP ls p = !(p.x == (St.at_ ls 0).x && p.y == (St.at_ ls 0).y) := by rw [pt_beq]; rfl
  have hl0 : (0 : Int) < (ls.length : Int) := by omega
  rw [hne]
  generalize St.at_ ls 0 = q at *
  obtain ⟨px, py⟩ := p
  obtain ⟨qx, qy⟩ := q
  have k0 := hq.c0
  have k1 := hq.c1
  have m0 := hpt.c0
  have m1 := hpt.c1
  have pe := fun W => pt_neq px py qx qy W
  simp only at l0 k0 k1 m0 m1 hA ⊢
  generalize (px == qx && py == qy) = bb at *
  clear hR hl hl2 hq hpt hne
  go_enter Tryz.func44, Tryz.ntmps44
  go_wp2_with fail
  generalize W.alloc (.cells #[.int .i64 px, .int .i64 py] 37) = W1 at *
  go_quiet (fail)
  go_wp2
  go_ret
  exact ⟨rfl, ⟨hA.os, hA.tape, hA.output, hA.size, hA.block⟩⟩
set_option maxRecDepth 100000 in
set_option maxHeartbeats 1000000 in
theorem same_c {v : Value} (ls : List St.Pt) (w : World) (S : SlX w v ls) (h0 : 0 < ls.length) (hln : ls.length ≤ 140737488355328) : Calls Tryz.prog 77 #[v] w (Ret w (.bool (St.same ls))) := by
  obtain ⟨sa, cap, rfl⟩ := S.len
  have hA := below_al w (.cells #[.slice sa ls.length cap] 22)
  have hl := heap_alloc_new w (.cells #[.slice sa ls.length cap] 22)
  have HC := Lib.hid (show Calls Tryz.prog 29 #[.slice sa ls.length cap, .func (.func 116) #[] #[.pointer (some ⟨w.heap.size, 0, none⟩)]] (w.alloc (.cells #[.slice sa ls.length cap] 22))
      (Ret (w.alloc (.cells #[.slice sa ls.length cap] 22)) (.bool (!St.same ls))) by
    rw [← any_ne]
    exact cnf_s ls (neP ls) _ (S.later hA) hln _ fun p hp W hW => ne_s ls p _ W ((S.later hA).later hW) h0 (by rw [hW.block _ (Array.getElem?_eq_some_iff.1 hl).1]; exact hl))
  have l0 := c1row hl
  generalize St.same ls = B at *
  clear S hl
  go_enter Tryz.func77, Tryz.ntmps77
  go_wp2_with fail
  ((with_reducible refine (HC.out).mono ?_); rintro e w1 ⟨rfl, hb1⟩)
  go_wp2
  go_ret
  exact ⟨ret_bool (by simp), hA.nx hb1⟩
theorem same_bad {ls : List St.Pt} {i : Nat} (hi : i < ls.length) (h : St.at_ ls i ≠ St.at_ ls 0) : St.same ls = false := by
  unfold St.same
  exact List.all_eq_false.2 ⟨_, St.at_mem hi, by simpa using h⟩
set_option maxRecDepth 100000 in
set_option maxHeartbeats 1000000 in
theorem rsame_c {v : Value} (ls : List St.Pt) (w : World) (S : SlX w v ls) (h0 : 0 < ls.length) (hln : ls.length ≤ 140737488355328) : Calls Tryz.prog 84 #[v] w (Ret w (.bool (St.same ls))) := by
  refine S.cases _ ?_ ?_
  · rintro a cap rfl rfl
    simp at h0
  rintro b off cap rfl hp hR hb
  have HBAD := Lib.hid (fun i hi h => same_bad (ls := ls) (i := i) hi h)
  have HOK := Lib.hid (show (∀ k, k < ls.length → St.at_ ls k = St.at_ ls 0) → St.same ls = true from fun h => St.same_iff.2 fun x hx y hy => by
    obtain ⟨i, hi, rfl⟩ := St.mem_at hx
    obtain ⟨j, hj, rfl⟩ := St.mem_at hy
    rw [h i hi, h j hj])
  have HR := Lib.hid (fun (W : World) (h : Below w.heap.size w W) (k : Nat) (hk : k < ls.length) => (hR.later h hb).ptAt hk)
  generalize St.same ls = B at *
  have hl0 : (0 : Int) < (ls.length : Int) := by omega
  clear hR S
  go_enter Tryz.func84, Tryz.ntmps84
  go_wp2_with fail
  go_loopw [3] (fun si wr => ∃ i : Nat, si = .int .i64 (i : Int) ∧ i ≤ ls.length ∧ Hid (∀ k, k < i → St.at_ ls k = St.at_ ls 0) ∧ Below w.heap.size w wr) (fun si _ => ls.length - (intOf si).toNat)
  case atStart => exact ⟨0, rfl, Nat.zero_le _, fun k hk => absurd hk (Nat.not_lt_zero _), Below.refl _ _⟩
  case round =>
    obtain ⟨i, rfl, hi, ha, hB⟩ := hrel
    by_cases hlt : i < ls.length
    · have hp1 := HR.out _ hB i hlt
      have hp0 := HR.out _ hB 0 h0
      rw [Nat.zero_mul, Nat.add_zero] at hp0
      have hbad := HBAD.out i hlt
      have hstep : St.at_ ls i = St.at_ ls 0 → ∀ k, k < i + 1 → St.at_ ls k = St.at_ ls 0 := fun e k hk => by
        by_cases q : k = i
        · subst q; exact e
        · exact ha.out k (by omega)
      have HSTEP := Lib.hid hstep
      clear hstep
      generalize St.at_ ls i = p at *
      have ha2 := ha.out
      generalize hz : St.at_ ls 0 = z at *
      have HZ := Lib.hid hz
      clear hz ha2
      obtain ⟨px, py⟩ := p
      obtain ⟨zx, zy⟩ := z
      have k0 := hp1.c0
      have k1 := hp1.c1
      have m0 := hp0.c0
      have m1 := hp0.c1
      have pe := fun W => pt_neq px py zx zy W
      rw [show (px == zx && py == zy) = decide ((⟨px, py⟩ : St.Pt) = ⟨zx, zy⟩) from pt_beq ⟨px, py⟩ ⟨zx, zy⟩] at pe
      simp only at k0 k1 m0 m1
      by_cases hpz : (⟨px, py⟩ : St.Pt) = ⟨zx, zy⟩
      · rw [decide_eq_true hpz] at pe
        have HST := Lib.hid (HSTEP.out hpz)
        clear hbad HSTEP hp1 hp0 hpz
        go_wp2_with fail
        go_quiet (fail)
        go_wp2
        go_roundw
        case rel => exact ⟨i + 1, by go_num, by omega, HST.out, ⟨hB.os, hB.tape, hB.output, hB.size, hB.block⟩⟩
        case measure => simp [intOf]; omega
      · rw [decide_eq_false hpz] at pe
        obtain rfl : B = false := hbad hpz
        clear hbad HSTEP hp1 hp0 hpz HBAD HOK
        go_wp2_with fail
        go_quiet (fail)
        go_wp2
        go_ret
        exact ⟨rfl, ⟨hB.os, hB.tape, hB.output, hB.size, hB.block⟩⟩
    · obtain rfl : i = ls.length := by omega
      obtain rfl : B = true := HOK.out ha.out
      clear ha HBAD HOK
      go_wp2
      go_ret
      exact ⟨rfl, hB⟩
end Go.Proofs.Wk
