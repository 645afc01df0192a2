/- POSITION: the statement Selects. -/
import Derived.Test.YtphbikfkeinmnaaGreatDoorPT
import Derived.Test.YtphbikfkeinmnaaGreatDoorPP
import Derived.Deep.RegionHeld3
namespace Go.Proofs.Wk
open Go.RowKit Mt Po

theorem fit_out {c : Ca} {t : TQ} {ls : List Sp} (hp : 0 < ls.length) (s : Int) : fitB (wsQ c t ls) s = decide (outI (fC c t ls) s ls.length < 0) := by
  unfold fitB
  refine decide_eq_decide.2 ?_
  rw [wsQ_fits hp]
  rcases outI_cases (fC c t ls) s ls.length with ⟨h1, h2⟩ | ⟨i, h1, h2, h3⟩
  · rw [h1]; exact ⟨fun _ => by decide, fun _ => h2⟩
  · rw [h1]; exact ⟨fun h => absurd (h i h2) h3, fun h => absurd h (by omega)⟩
theorem firstR_map : ∀ {l : List Rat}, (∀ q ∈ l, okQ q) → firstR (l.map rtoa) = 0
  | [], _ => rfl
  | q :: l, h => by
    show (if rchk (rtoa q) = 0 then firstR (l.map rtoa) else rchk (rtoa q)) = 0
    rw [if_pos (rchk_rtoa (h q (List.mem_cons_self ..)))]
    exact firstR_map fun p hp => h p (List.mem_cons_of_mem _ hp)
theorem rnum_is {v : Value} (l : List Rat) (hsh : ShL l) (hp : 0 < l.length) (W : World) (S : SlS W v (l.map rtoa)) : Calls Tryz.prog 32 #[v] W (Ret W (.int .i64 0)) := by
  have hok : ∀ q ∈ l, okQ q := fun q hq => (hsh.2 q hq).okq (by omega)
  rcases S with ⟨a, cp, rfl, h0⟩ | ⟨b, off, cap, rfl, hR, hl⟩
  · exfalso
    have := congrArg List.length h0
    rw [List.length_map] at this
    simp only [List.length_nil] at this
    omega
  · have := r4numbers_c b off cap (l.map rtoa) W hR hl (by rw [List.length_map]; have := hsh.1; omega) (fun x hx => by
      obtain ⟨q, hq, rfl⟩ := List.mem_map.1 hx
      exact tlen (hok q hq))
    rwa [firstR_map hok] at this
theorem least_neg (o : Nat → Int) : ∀ n : Nat, (∃ i, i < n ∧ o i < 0) → ∃ i0, i0 < n ∧ o i0 < 0 ∧ ∀ k, k < i0 → 0 ≤ o k
  | 0, ⟨i, hi, _⟩ => absurd hi (Nat.not_lt_zero _)
  | n + 1, ⟨i, hi, hneg⟩ => by
    by_cases h : ∃ i, i < n ∧ o i < 0
    · obtain ⟨i0, h1, h2, h3⟩ := least_neg o n h
      exact ⟨i0, by omega, h2, h3⟩
    · refine ⟨i, hi, hneg, fun k hk => Int.not_lt.1 fun q => h ⟨k, by omega, q⟩⟩
theorem SlS.frm {w : World} {v : Value} {ls : List Txt} (S : SlS w v ls) : ∃ a cap, v = .slice a ls.length cap := by
  rcases S with ⟨a, cap, rfl, rfl⟩ | ⟨b, off, cap, rfl, -, -⟩
  · exact ⟨a, cap, rfl⟩
  · exact ⟨_, cap, rfl⟩
/-- A choice: the first placement; for each one a point. -/
def SelA (w : World) (i0 : Nat) (e : Ending) (w' : World) : Prop := ∃ a cap, e = .returned (.tuple #[.int .i64 (i0 : Int), .slice a 0 cap, .bool true, .int .i64 0]) ∧ Below w.heap.size w w'
def SelB (w : World) (n : Nat) (kF : Nat → Nat) (e : Ending) (w' : World) : Prop := ∃ a cap, e = .returned (.tuple #[.int .i64 0, .slice a n cap, .bool false, .int .i64 0]) ∧ (∀ i, i < n → ∃ b off, a = some ⟨b, off, none⟩ ∧ ∀ W, Below w'.heap.size w' W → W.cell? ⟨b, off + i, none⟩ = some (.int .i64 (kF i : Int))) ∧ Below w.heap.size w w'
theorem sel_two {v : Value} (c : Ca) (fv dv sv : Value) (ts : List TT) (ds : List Dt) (ls : List Sp) (w : World) (hg : Good w) (S : CaS w c fv dv sv ds ls) (T : SlX w v ts) (hl : ∀ t ∈ ts, ∀ l ∈ t.l, l.length ≤ 140737488355328) (hR : RtP c ds ls ts) (hn0 : 0 < ts.length) (hn6 : ts.length ≤ 6) :
    (∃ i0, i0 < ts.length ∧ (∀ W, Below w.heap.size w W → Calls Tryz.prog 31 #[caV c fv dv sv, v] W (SelA W i0)) ∧ ∀ i, i < ts.length → ∃ B : Bool, (i ≤ i0 → B = decide (i = i0)) ∧ ∀ W, Below w.heap.size w W → Calls Tryz.prog 16 #[caV c fv dv sv, ttV (tA ts i)] W (Ret W (.tuple #[.bool B, .int .i64 0]))) ∨
    (∃ kF : Nat → Nat, (0 ≤ c.x.tol ∧ c.x.tol ≤ 100000) ∧ (0 ≤ c.b ∧ c.b ≤ 100000) ∧ (∀ W, Below w.heap.size w W → Calls Tryz.prog 31 #[caV c fv dv sv, v] W (SelB W ts.length kF)) ∧ ∀ i, i < ts.length → (∀ W, Below w.heap.size w W → Calls Tryz.prog 16 #[caV c fv dv sv, ttV (tA ts i)] W (Ret W (.tuple #[.bool false, .int .i64 0]))) ∧
      ∃ l : List Rat, l.length ≤ 3 ∧ (∀ W, Below w.heap.size w W → Calls Tryz.prog 21 #[caV c fv dv sv, ttV (tA ts i), .int .i64 (kF i : Int)] W (OffR W (l.map rtoa))) ∧
        ∃ TX : Txt, ∀ v W, SlS W v (l.map rtoa) → Calls Tryz.prog 32 #[v] W (Ret W (.int .i64 0)) ∧ Calls Tryz.prog 34 #[v, .bool c.x.disc] W (Ret W (.string ⟨TX.toArray⟩)) ∧ ∀ W', Calls Tryz.prog 33 #[.string ⟨TX.toArray⟩, .int .i64 (c.x.tol + c.b)] W' (Ret W' (.bool false))) := by
  have hmem : ∀ i, i < ts.length → tA ts i ∈ ts := fun i hi => by rw [tA_get hi]; exact List.getElem_mem hi
  have : ∀ i : Nat, ∃ q : TQ, i < ts.length → tA ts i = tqT q ∧ RtC c q ds ls := fun i => by
    by_cases h : i < ts.length
    · obtain ⟨q, e, hq⟩ := hR.rt (hmem i h) (hl _ (hmem i h))
      exact ⟨q, fun _ => ⟨e, hq⟩⟩
    · exact ⟨⟨0, 0, 0, 0, 0, 0⟩, fun q => absurd q h⟩
  obtain ⟨f, hf⟩ := Classical.axiomOfChoice this
  obtain ⟨hE, hm, hB⟩ := hR
  have hts : tsE ts = 0 := tsE_zero.2 fun t ht => (badT_ok (hB t ht)).2
  have HC1 := fun W (h : Below w.heap.size w W) => poCheck_c c fv dv sv ds ls W (S.later h)
  rw [hE] at HC1
  have HT1 := fun i (hi : i < ts.length) W (h : Below w.heap.size w W) => torCheck_c (tA ts i) W (hg.later h) (hl _ (hmem i hi))
  obtain ⟨o, ho⟩ : ∃ o : Nat → Int, ∀ i, o i = outI (fC c (f i) ls) (c.x.tol + c.b) ls.length := ⟨_, fun _ => rfl⟩
  have HOU : ∀ i, i < ts.length → ∀ W, Below w.heap.size w W → Calls Tryz.prog 67 #[caV c fv dv sv, ttV (tA ts i)] W (Ret W (.tuple #[.int .i64 (o i), .int .i64 0])) := fun i hi W h => by
    obtain ⟨hk, h64, hin, ht, hb⟩ := (hf i hi).2.ok
    rw [(hf i hi).1, ho i]
    exact outside_c c fv dv sv (f i) ls W (hg.later h) hk (S.sp.later h) h64 hin ht hb
  have HW : ∀ i, i < ts.length → ∀ W, Below w.heap.size w W → Calls Tryz.prog 16 #[caV c fv dv sv, ttV (tA ts i)] W (Ret W (.tuple #[.bool (decide (o i < 0)), .int .i64 0])) := fun i hi W h => by
    have := within_is hg S (hf i hi).2 W h
    rw [fit_out hm, ← ho i] at this
    rw [(hf i hi).1]
    exact this
  obtain ⟨sc, kc, rfl⟩ := S.sp.lenS
  have HCH := fun W (h : Below w.heap.size w W) => choose_ok c fv dv sc ls.length kc W (fun W' h' => HC1 W' (h.nx h')) v ts (T.later h) (by omega) (fun i hi W' h' => HT1 i hi W' (h.nx h')) o hts hn0 hm fun i hi W' h' => HOU i hi W' (h.nx h')
  by_cases hex : ∃ i, i < ts.length ∧ o i < 0
  · left
    obtain ⟨i0, hi0, hneg, hmin⟩ := least_neg o _ hex
    refine ⟨i0, hi0, fun W h => (HCH W h).mono ?_, fun i hi => ⟨_, fun hle => ?_, HW i hi⟩⟩
    · rintro e w' ⟨va, rfl, hS, hb⟩
      obtain ⟨e1, e2, e3⟩ := ch_some hi0 hmin hneg
      rw [e2] at hS
      rw [e1, e3]
      rcases hS with ⟨a, cap, rfl, -⟩ | ⟨b, off, cap, rfl, -, -⟩
      · exact ⟨a, cap, rfl, hb⟩
      · exact ⟨_, cap, rfl, hb⟩
    · by_cases q : i = i0
      · subst q; simp [hneg]
      · have := hmin i (by omega)
        rw [decide_eq_false (by omega : ¬ o i < 0), decide_eq_false q]
  · right
    have hpos : ∀ k, k < ts.length → 0 ≤ o k := fun k hk => Int.not_lt.1 fun q => hex ⟨k, hk, q⟩
    obtain ⟨-, -, -, htol, hbb⟩ := (hf 0 hn0).2.ok
    refine ⟨fun i => (o i).toNat, htol, hbb, fun W h => (HCH W h).mono ?_, fun i hi => ⟨fun W h => ?_, ?_⟩⟩
    · rintro e w' ⟨va, rfl, hS, hb⟩
      obtain ⟨e1, e2, e3⟩ := ch_none hpos
      rw [e2] at hS
      rw [e1, e3]
      rcases hS with ⟨a, cap, rfl, h0⟩ | ⟨b, off, cap, rfl, hR, hlt⟩
      · exfalso
        have := chT_len o ts.length
        rw [h0] at this
        simp at this
        omega
      · rw [chT_len]
        refine ⟨_, cap, rfl, fun i hi => ⟨b, off, rfl, fun W h => ?_⟩, hb⟩
        have := (hR.later h hlt).nat (i := i) (by rw [chT_len]; exact hi)
        rw [this]
        simp [chT]
    · have := HW i hi W h
      rwa [decide_eq_false (by have := hpos i hi; omega)] at this
    · rcases outI_cases (fC c (f i) ls) (c.x.tol + c.b) ls.length with ⟨h1, -⟩ | ⟨k, h1, h2, h3⟩
      · have := hpos i hi
        rw [ho i, h1] at this
        exact absurd this (by decide)
      · have hR := (hf i hi).2
        obtain ⟨hk, h64, hin, ht, hb⟩ := hR.ok
        have hsh := dvC_sh hk (hin _ (Po.at_mem h2))
        refine ⟨dvC c (f i) (Po.at_ ls k), hsh.1, fun W h => ?_, rtoa (fC c (f i) ls k), fun v W hS => ⟨rnum_is _ hsh (dvC_pos hk _) W hS, rFar_c _ _ W hsh hS (dvC_pos hk _), fun W' => ?_⟩⟩
        · have := dev_is hg S hR k h2 W h
          rw [(hf i hi).1, show (((o i).toNat : Nat) : Int) = (k : Int) by rw [ho i, h1]; rfl]
          exact this
        · have := rFits_c (fC c (f i) ls k) (c.x.tol + c.b) W' (fC_sz hk hin h2) (by omega)
          rwa [show fitB (fC c (f i) ls k) (c.x.tol + c.b) = false from decide_eq_false h3] at this
set_option maxRecDepth 100000 in
set_option maxHeartbeats 8000000 in
theorem selects_z {v : Value} (c : Ca) (fv dv sv : Value) (ts : List TT) (ds : List Dt) (ls : List Sp) (w : World) (hg : Good w) (S : CaS w c fv dv sv ds ls) (T : SlX w v ts) (hn : ts.length ≤ 140737488355328) (hl : ∀ t ∈ ts, ∀ l ∈ t.l, l.length ≤ 140737488355328) (HZ : ∀ W, Calls Tryz.prog 28 #[] W (Ret W (ttV zTT'))) :
    Calls Tryz.prog 9 #[caV c fv dv sv, v] w (Ret w (.bool true)) := by
  have HR : Hid (∀ W, Below w.heap.size w W → Calls Tryz.prog 20 #[caV c fv dv sv, v] W (fun e w' => ∃ b : Bool, e = .returned (.bool b) ∧ (b = true → RtP c ds ls ts) ∧ Below W.heap.size W w')) := Lib.hid (fun W h => right_c c fv dv sv ds ls ts W (S.later h) (T.later h) hn hl)
  have HA := Lib.hid (fun W (h : Below w.heap.size w W) => awake_z W (hg.later h) HZ)
  have HW := Lib.hid (sel_two c fv dv sv ts ds ls w hg S T hl)
  obtain ⟨sa, cap, rfl, h1⟩ := T.ttF
  have H1 := Lib.hid h1
  generalize RtP c ds ls ts = PR at *
  generalize tA ts = tF at *
  generalize ts.length = n at *
  have hJ := On.new w (caC c fv dv sv).toList 34
  obtain ⟨⟨nm, kind, axis, ⟨ax, ay, az⟩, lo, fhi⟩, ⟨xk, disc, tol, mat⟩, b0⟩ := c
  simp only at hJ HR HW
  clear S T hn hg hl HZ h1
  go_enter Tryz.func9, Tryz.ntmps9
  go_upto_region 1 with fail
  generalize hW0 : w.alloc (.cells #[.string ⟨nm.toArray⟩, .int .i64 kind, .int .i64 axis, .int .i64 ax, .int .i64 ay, .int .i64 az, .int .i64 lo, .int .i64 fhi, fv, .int .i64 xk, .bool disc, .int .i64 tol, .int .i64 mat, dv, sv, .int .i64 b0] 34) = W0 at *
  clear hW0
  obtain ⟨c0, c1, c2, c3, c4, c5, c6, c7, c8, c9, ca, cb, cc, cd, ce, cf⟩ := c16row hJ.a
  go_wp2_with fail
  ((with_reducible refine (HR.out _ hJ.w).mono ?_); rintro e w1 ⟨b, rfl, hr, hb1⟩)
  have hJ1 := hJ.later hb1
  have hw1 := hJ1.w
  have HRR := Lib.hid hr
  clear c0 c1 c2 c3 c4 c5 c6 c7 c8 c9 ca cb cc cd ce cf hb1 hJ HR hr
  cases b with
  | false =>
    clear hJ1 HRR HW H1
    go_wp2_with fail
    ((with_reducible refine (HA.out _ hw1).mono ?_); rintro e wz ⟨rfl, hbz⟩)
    have hwz := (hw1).nx hbz
    go_wp2
    go_ret
    exact ⟨rfl, hwz⟩
  | true =>
    by_cases hn0 : n = 0
    · have z1 : ((n : Int) == 0) = true := by rw [hn0]; rfl
      clear hJ1 HRR HW H1 hn0
      go_wp2_with fail
      ((with_reducible refine (HA.out _ hw1).mono ?_); rintro e wz ⟨rfl, hbz⟩)
      have hwz := (hw1).nx hbz
      go_wp2
      go_ret
      exact ⟨rfl, hwz⟩
    have z1 : ((n : Int) == 0) = false := beq_eq_false_iff_ne.2 (by omega)
    by_cases hn6 : 6 < n
    · have z2 : (6 : Int) < (n : Int) := by omega
      clear hJ1 HRR HW H1 hn0 hn6
      go_wp2_with fail
      ((with_reducible refine (HA.out _ hw1).mono ?_); rintro e wz ⟨rfl, hbz⟩)
      have hwz := (hw1).nx hbz
      go_wp2
      go_ret
      exact ⟨rfl, hwz⟩
    have z2 : ¬ (6 : Int) < (n : Int) := by omega
    have HJ1 := Lib.hid hJ1
    obtain ⟨CS, hCS⟩ : ∃ X : Array Value, #[.string ⟨nm.toArray⟩, .int .i64 kind, .int .i64 axis, .int .i64 ax, .int .i64 ay, .int .i64 az, .int .i64 lo, .int .i64 fhi, fv, .int .i64 xk, .bool disc, .int .i64 tol, .int .i64 mat, dv, sv, .int .i64 b0] = X := ⟨_, rfl⟩
    have HSA : Hid ((Tryz.prog.info? 34).map (·.size) = some CS.size) := Lib.hid (by subst hCS; kernel_rfl)
    have HRA1 : Hid (w1.heap[w.heap.size]? = some (.cells CS 34 (0, 0))) := Lib.hid (by subst hCS; exact hJ1.a)
    clear hJ1
    rcases HW.out (HRR.out rfl) (by omega) (by omega) with ⟨i0, hi0, G1, G2⟩ | ⟨kF, ht, hb, G1, G2⟩
    · have HC : Hid (∀ W, Below w.heap.size w W → Calls Tryz.prog 31 #[.agg CS, .slice sa n cap] W (SelA W i0)) := Lib.hid (by subst hCS; exact G1)
      have HI : Hid (∀ i, i < n → ∃ B : Bool, (i ≤ i0 → B = decide (i = i0)) ∧ ∀ W, Below w.heap.size w W → Calls Tryz.prog 16 #[.agg CS, ttV (tF i)] W (Ret W (.tuple #[.bool B, .int .i64 0]))) := Lib.hid (by subst hCS; exact G2)
      clear G1 G2 HRR HW hCS
      go_wp2_with (with_reducible refine wpList_load_row rfl 34 _ rfl w.heap.size (by kernel_rfl) _ CS _ _ HRA1.out Tryz.underlying34 rfl HSA.out ?_)
      ((with_reducible refine (HC.out _ hw1).mono ?_); rintro e w2 ⟨oa, ocap, rfl, hb2⟩)
      have hw2 := hw1.nx hb2
      have HRA2 := Lib.hid (keepD HRA1.out hb2)
      have HW2 := Lib.hid hw2
      have q1 : ¬ (i0 : Int) < 0 := by omega
      have q2 : ¬ (n : Int) ≤ (i0 : Int) := by omega
      clear HRA1 HC hb2 hw1 hw2 HJ1
      go_upto_region 4 with fail
      go_cut [69] from 28 (fun s wx => s = .bool false ∧ w2 = wx)
      case first =>
        go_wp2
        go_meet
        refine ⟨?_, rfl⟩
        rw [show decide ((i0 : Int) < 0) = false from decide_eq_false (by omega), show decide (n ≤ i0) = false from decide_eq_false (by omega)]
        rfl
      case rest =>
      obtain ⟨rfl, rfl⟩ := hcut
      clear z1 z2 q1 q2
      go_wp2_with fail
      go_loopw [72] (fun si wr => ∃ i : Nat, si = .int .i64 (i : Int) ∧ i ≤ n ∧ Hid (Below w2.heap.size w2 wr)) (fun si _ => n - (intOf si).toNat)
      case atStart => exact ⟨0, rfl, Nat.zero_le _, Below.refl _ _⟩
      case round =>
      obtain ⟨i, rfl, hi, hB⟩ := hrel
      by_cases hlt : i < n
      · obtain ⟨b, off, rfl, f1⟩ := H1.out i hlt
        obtain ⟨k0, k1, k2, k3, k4, k5⟩ := f1 _ (HW2.out.nx hB.out)
        obtain ⟨B, hBe, hCB⟩ := HI.out i hlt
        have HC1 := Lib.hid hCB
        clear f1 H1 HI hCB
        generalize tF i = t at *
        obtain ⟨ta, tb, tc, td, te, tf⟩ := t
        simp only at k0 k1 k2 k3 k4 k5 HC1
        have j0 : (i : Int) < (n : Int) := by omega
        have j1 : (0 : Int) ≤ (i : Int) := by omega
        have hal := below_al wr (.cells #[.string ⟨ta.toArray⟩, .string ⟨tb.toArray⟩, .string ⟨tc.toArray⟩, .string ⟨td.toArray⟩, .string ⟨te.toArray⟩, .string ⟨tf.toArray⟩] 38)
        have HB1 := Lib.hid (hB.out.nx hal)
        have hnew := heap_alloc_new wr (.cells #[.string ⟨ta.toArray⟩, .string ⟨tb.toArray⟩, .string ⟨tc.toArray⟩, .string ⟨td.toArray⟩, .string ⟨te.toArray⟩, .string ⟨tf.toArray⟩] 38)
        have HBE := Lib.hid hBe
        clear hBe
        go_upto_region 9 with fail
        generalize wr.alloc (.cells #[.string ⟨ta.toArray⟩, .string ⟨tb.toArray⟩, .string ⟨tc.toArray⟩, .string ⟨td.toArray⟩, .string ⟨te.toArray⟩, .string ⟨tf.toArray⟩] 38) = W3 at *
        obtain ⟨p0, p1, p2, p3, p4, p5⟩ := c6row hnew
        have HRA3 := Lib.hid (keepD HRA2.out HB1.out)
        clear k0 k1 k2 k3 k4 k5 hnew hal hB
        go_wp2_with (with_reducible refine wpList_load_row rfl 34 _ rfl w.heap.size (by kernel_rfl) _ CS _ _ HRA3.out Tryz.underlying34 rfl HSA.out ?_)
        ((with_reducible refine (HC1.out _ (HW2.out.nx HB1.out)).mono ?_); rintro e w4 ⟨rfl, hb4⟩)
        have HB3 := Lib.hid (HB1.out.nx hb4)
        clear p0 p1 p2 p3 p4 p5 hb4 HB1 HC1 HRA3
        by_cases hle : i ≤ i0
        · have y1 : (i : Int) ≤ (i0 : Int) := by omega
          by_cases he : i = i0
          · obtain rfl : B = true := by rw [HBE.out hle]; exact decide_eq_true he
            have y2 : ((i : Int) == (i0 : Int)) = true := beq_iff_eq.2 (by omega)
            clear HBE hle he
            go_wp2
            go_roundw
            case rel => exact ⟨i + 1, by go_num, by omega, HB3.out⟩
            case measure => simp [intOf]; omega
          · obtain rfl : B = false := by rw [HBE.out hle]; exact decide_eq_false he
            have y2 : ((i : Int) == (i0 : Int)) = false := beq_eq_false_iff_ne.2 (by omega)
            clear HBE hle he
            go_wp2
            go_roundw
            case rel => exact ⟨i + 1, by go_num, by omega, HB3.out⟩
            case measure => simp [intOf]; omega
        · have y1 : ¬ (i : Int) ≤ (i0 : Int) := by omega
          clear HBE hle
          cases B
          all_goals
            go_wp2
            go_roundw
            case rel => exact ⟨i + 1, by go_num, by omega, HB3.out⟩
            case measure => simp [intOf]; omega
      · obtain rfl : i = n := by omega
        have hw3 := HW2.out.nx hB.out
        clear hB H1 HI
        go_wp2_with fail
        ((with_reducible refine (HA.out _ hw3).mono ?_); rintro e wz ⟨rfl, hbz⟩)
        have hwz := (hw3).nx hbz
        go_wp2
        go_ret
        exact ⟨rfl, hwz⟩
    · have HC : Hid (∀ W, Below w.heap.size w W → Calls Tryz.prog 31 #[.agg CS, .slice sa n cap] W (SelB W n kF)) := Lib.hid (by subst hCS; exact G1)
      have hw : IntKind.i64.wrap (tol + b0) = tol + b0 := IntWalk.i64_in _ (by omega)
      obtain ⟨s, hs⟩ : ∃ s, tol + b0 = s := ⟨_, rfl⟩
      replace hw := hw.trans hs
      have HWR := Lib.hid hw
      have HI : Hid (∀ i, i < n → (∀ W, Below w.heap.size w W → Calls Tryz.prog 16 #[.agg CS, ttV (tF i)] W (Ret W (.tuple #[.bool false, .int .i64 0]))) ∧ ∃ l : List Rat, l.length ≤ 3 ∧ (∀ W, Below w.heap.size w W → Calls Tryz.prog 21 #[.agg #[.string ⟨nm.toArray⟩, .int .i64 kind, .int .i64 axis, .int .i64 ax, .int .i64 ay, .int .i64 az, .int .i64 lo, .int .i64 fhi, fv, .int .i64 xk, .bool disc, .int .i64 tol, .int .i64 mat, dv, sv, .int .i64 b0], ttV (tF i), .int .i64 (kF i : Int)] W (OffR W (l.map rtoa))) ∧
        ∃ TX : Txt, ∀ v W, SlS W v (l.map rtoa) → Calls Tryz.prog 32 #[v] W (Ret W (.int .i64 0)) ∧ Calls Tryz.prog 34 #[v, .bool disc] W (Ret W (.string ⟨TX.toArray⟩)) ∧ ∀ W', Calls Tryz.prog 33 #[.string ⟨TX.toArray⟩, .int .i64 s] W' (Ret W' (.bool false))) := Lib.hid (by subst hCS hs; exact G2)
      clear G1 G2 HRR HW hCS ht hb hw hs
      go_wp2_with (with_reducible refine wpList_load_row rfl 34 _ rfl w.heap.size (by kernel_rfl) _ CS _ _ HRA1.out Tryz.underlying34 rfl HSA.out ?_)
      ((with_reducible refine (HC.out _ hw1).mono ?_); rintro e w2 ⟨oa, ocap, rfl, hO, hb2⟩)
      have hw2 := hw1.nx hb2
      have HRA2 := Lib.hid (keepD HRA1.out hb2)
      have HJ2 := Lib.hid (HJ1.out.later hb2)
      have HW2 := Lib.hid hw2
      have HO := Lib.hid hO
      have q1 : ((n : Int) != (n : Int)) = false := by simp
      clear HRA1 HC hb2 hw1 hw2 HJ1 hO
      go_upto_region 4 with fail
      go_cut [69] from 28 (fun s wx => s = .bool false ∧ w2 = wx)
      case first =>
        go_wp2
        go_meet
        exact ⟨rfl, rfl⟩
      case rest =>
      obtain ⟨rfl, rfl⟩ := hcut
      clear z1 z2 q1
      go_wp2_with fail
      go_loopw [72] (fun si wr => ∃ i : Nat, si = .int .i64 (i : Int) ∧ i ≤ n ∧ Hid (Below w2.heap.size w2 wr)) (fun si _ => n - (intOf si).toNat)
      case atStart => exact ⟨0, rfl, Nat.zero_le _, Below.refl _ _⟩
      case round =>
      obtain ⟨i, rfl, hi, hB⟩ := hrel
      by_cases hlt : i < n
      · obtain ⟨b, off, rfl, f1⟩ := H1.out i hlt
        obtain ⟨b2, off2, rfl, f2⟩ := HO.out i hlt
        obtain ⟨k0, k1, k2, k3, k4, k5⟩ := f1 _ (HW2.out.nx hB.out)
        obtain ⟨hCB, l, hl3, hD, TX, hNF⟩ := HI.out i hlt
        have HC1 := Lib.hid hCB
        have HD := Lib.hid hD
        have HNF := Lib.hid hNF
        have HF2 := Lib.hid f2
        clear f1 f2 H1 HI hCB HO hD hNF
        generalize tF i = t at *
        generalize kF i = ki at *
        obtain ⟨ta, tb, tc, td, te, tf⟩ := t
        simp only at k0 k1 k2 k3 k4 k5 HC1 HD
        have j0 : (i : Int) < (n : Int) := by omega
        have j1 : (0 : Int) ≤ (i : Int) := by omega
        have hal := below_al wr (.cells #[.string ⟨ta.toArray⟩, .string ⟨tb.toArray⟩, .string ⟨tc.toArray⟩, .string ⟨td.toArray⟩, .string ⟨te.toArray⟩, .string ⟨tf.toArray⟩] 38)
        have HB1 := Lib.hid (hB.out.nx hal)
        have hnew := heap_alloc_new wr (.cells #[.string ⟨ta.toArray⟩, .string ⟨tb.toArray⟩, .string ⟨tc.toArray⟩, .string ⟨td.toArray⟩, .string ⟨te.toArray⟩, .string ⟨tf.toArray⟩] 38)
        go_upto_region 9 with fail
        generalize wr.alloc (.cells #[.string ⟨ta.toArray⟩, .string ⟨tb.toArray⟩, .string ⟨tc.toArray⟩, .string ⟨td.toArray⟩, .string ⟨te.toArray⟩, .string ⟨tf.toArray⟩] 38) = W3 at *
        generalize wr.heap.size = gn at *
        obtain ⟨p0, p1, p2, p3, p4, p5⟩ := c6row hnew
        have HRA3 := Lib.hid (keepD HRA2.out HB1.out)
        clear k0 k1 k2 k3 k4 k5 hal hB
        go_wp2_with (with_reducible refine wpList_load_row rfl 34 _ rfl w.heap.size (by kernel_rfl) _ CS _ _ HRA3.out Tryz.underlying34 rfl HSA.out ?_)
        ((with_reducible refine (HC1.out _ (HW2.out.nx HB1.out)).mono ?_); rintro e w4 ⟨rfl, hb4⟩)
        have HB3 := Lib.hid (HB1.out.nx hb4)
        have HN6 := Lib.hid (keepD hnew hb4)
        have HJ3 := Lib.hid (HJ2.out.later HB3.out)
        have HW4 := Lib.hid (HW2.out.nx HB3.out)
        clear p0 p1 p2 p3 p4 p5 hb4 HB1 HC1 HRA3 hnew
        have HALL := Lib.hid (fun (W : World) (h : Below w4.heap.size w4 W) => by
          obtain ⟨c0, c1, c2, c3, c4, c5, c6, c7, c8, c9, ca, cb, cc, cd, ce, cf⟩ := c16row (HJ3.out.later h).a
          obtain ⟨p0, p1, p2, p3, p4, p5⟩ := c6row (keepD HN6.out h)
          have k0 := HF2.out W (HB3.out.nx h)
          exact (⟨c0, c1, c2, c3, c4, c5, c6, c7, c8, c9, ca, cb, cc, cd, ce, cf, p0, p1, p2, p3, p4, p5, k0, h⟩ : W.cell? ⟨w.heap.size, 0, none⟩ = some (.string ⟨nm.toArray⟩) ∧ W.cell? ⟨w.heap.size, 1, none⟩ = some (.int .i64 kind) ∧ W.cell? ⟨w.heap.size, 2, none⟩ = some (.int .i64 axis) ∧ W.cell? ⟨w.heap.size, 3, none⟩ = some (.int .i64 ax) ∧ W.cell? ⟨w.heap.size, 4, none⟩ = some (.int .i64 ay) ∧ W.cell? ⟨w.heap.size, 5, none⟩ = some (.int .i64 az) ∧ W.cell? ⟨w.heap.size, 6, none⟩ = some (.int .i64 lo) ∧ W.cell? ⟨w.heap.size, 7, none⟩ = some (.int .i64 fhi) ∧ W.cell? ⟨w.heap.size, 8, none⟩ = some (fv) ∧ W.cell? ⟨w.heap.size, 9, none⟩ = some (.int .i64 xk) ∧ W.cell? ⟨w.heap.size, 10, none⟩ = some (.bool disc) ∧ W.cell? ⟨w.heap.size, 11, none⟩ = some (.int .i64 tol) ∧ W.cell? ⟨w.heap.size, 12, none⟩ = some (.int .i64 mat) ∧ W.cell? ⟨w.heap.size, 13, none⟩ = some (dv) ∧ W.cell? ⟨w.heap.size, 14, none⟩ = some (sv) ∧ W.cell? ⟨w.heap.size, 15, none⟩ = some (.int .i64 b0) ∧ W.cell? ⟨gn, 0, none⟩ = some (.string ⟨ta.toArray⟩) ∧ W.cell? ⟨gn, 1, none⟩ = some (.string ⟨tb.toArray⟩) ∧ W.cell? ⟨gn, 2, none⟩ = some (.string ⟨tc.toArray⟩) ∧ W.cell? ⟨gn, 3, none⟩ = some (.string ⟨td.toArray⟩) ∧ W.cell? ⟨gn, 4, none⟩ = some (.string ⟨te.toArray⟩) ∧ W.cell? ⟨gn, 5, none⟩ = some (.string ⟨tf.toArray⟩) ∧ W.cell? ⟨b2, off2 + i, none⟩ = some (.int .i64 (ki : Int)) ∧ Below w4.heap.size w4 W))
        have hB : Below w4.heap.size w4 w4 := Below.refl _ _
        go_upto_region 13 with fail
        go_region_held3 (fun W => W.cell? ⟨w.heap.size, 0, none⟩ = some (.string ⟨nm.toArray⟩) ∧ W.cell? ⟨w.heap.size, 1, none⟩ = some (.int .i64 kind) ∧ W.cell? ⟨w.heap.size, 2, none⟩ = some (.int .i64 axis) ∧ W.cell? ⟨w.heap.size, 3, none⟩ = some (.int .i64 ax) ∧ W.cell? ⟨w.heap.size, 4, none⟩ = some (.int .i64 ay) ∧ W.cell? ⟨w.heap.size, 5, none⟩ = some (.int .i64 az) ∧ W.cell? ⟨w.heap.size, 6, none⟩ = some (.int .i64 lo) ∧ W.cell? ⟨w.heap.size, 7, none⟩ = some (.int .i64 fhi) ∧ W.cell? ⟨w.heap.size, 8, none⟩ = some (fv) ∧ W.cell? ⟨w.heap.size, 9, none⟩ = some (.int .i64 xk) ∧ W.cell? ⟨w.heap.size, 10, none⟩ = some (.bool disc) ∧ W.cell? ⟨w.heap.size, 11, none⟩ = some (.int .i64 tol) ∧ W.cell? ⟨w.heap.size, 12, none⟩ = some (.int .i64 mat) ∧ W.cell? ⟨w.heap.size, 13, none⟩ = some (dv) ∧ W.cell? ⟨w.heap.size, 14, none⟩ = some (sv) ∧ W.cell? ⟨w.heap.size, 15, none⟩ = some (.int .i64 b0) ∧ W.cell? ⟨gn, 0, none⟩ = some (.string ⟨ta.toArray⟩) ∧ W.cell? ⟨gn, 1, none⟩ = some (.string ⟨tb.toArray⟩) ∧ W.cell? ⟨gn, 2, none⟩ = some (.string ⟨tc.toArray⟩) ∧ W.cell? ⟨gn, 3, none⟩ = some (.string ⟨td.toArray⟩) ∧ W.cell? ⟨gn, 4, none⟩ = some (.string ⟨te.toArray⟩) ∧ W.cell? ⟨gn, 5, none⟩ = some (.string ⟨tf.toArray⟩) ∧ W.cell? ⟨b2, off2 + i, none⟩ = some (.int .i64 (ki : Int)) ∧ Below w4.heap.size w4 W)
          (first | with_reducible exact HALL.out _ B1 | with_reducible exact HALL.out _ hB | with_reducible exact HALL.out _ hB.drew)
          (first
            | (go_at_call 21; (first | (with_reducible refine (HD.out _ (HW4.out.nx hB.drew)).mono ?_) | (with_reducible refine (HD.out _ (HW4.out.nx hB)).mono ?_)); rintro e v1 ⟨vd, rfl, hS1, hb1⟩; (first | (with_reducible have B1 := hB.drew.nx hb1) | (with_reducible have B1 := hB.nx hb1)))
            | fail)
        have HB5 := Lib.hid (HB3.out.nx B1)
        have HJ5 := Lib.hid (HJ3.out.later B1)
        have HS5 := Lib.hid hS1
        obtain ⟨da, dcap, rfl⟩ := hS1.frm
        have hL0 : (l.map rtoa).length ≤ 3 := by rw [List.length_map]; exact hl3
        generalize (l.map rtoa).length = L3 at *
        have hL3 : ¬ (3 : Int) < (L3 : Int) := by omega
        have hL4 : decide ((3 : Int) < (L3 : Int)) = false := decide_eq_false hL3
        have hL5 : decide (3 < L3) = false := decide_eq_false (by omega)
        clear hb1 B1 hB hS1 HALL HD HF2 HN6 HJ3 HW4 HB3 hl3
        generalize v1 = w5 at *
        have HALL := Lib.hid (fun (W : World) (h : Below w5.heap.size w5 W) => by
          obtain ⟨c0, c1, c2, c3, c4, c5, c6, c7, c8, c9, ca, cb, cc, cd, ce, cf⟩ := c16row (HJ5.out.later h).a
          exact (⟨ca, cb, cf, h⟩ : W.cell? ⟨w.heap.size, 10, none⟩ = some (.bool disc) ∧ W.cell? ⟨w.heap.size, 11, none⟩ = some (.int .i64 tol) ∧ W.cell? ⟨w.heap.size, 15, none⟩ = some (.int .i64 b0) ∧ Below w5.heap.size w5 W))
        have hB : Below w5.heap.size w5 w5 := Below.refl _ _
        have hw := HWR.out
        go_upto_region 14 with fail
        go_region_held3 (fun W => W.cell? ⟨w.heap.size, 10, none⟩ = some (.bool disc) ∧ W.cell? ⟨w.heap.size, 11, none⟩ = some (.int .i64 tol) ∧ W.cell? ⟨w.heap.size, 15, none⟩ = some (.int .i64 b0) ∧ Below w5.heap.size w5 W)
          (first | with_reducible exact HALL.out _ B3 | with_reducible exact HALL.out _ B2 | with_reducible exact HALL.out _ B1 | with_reducible exact HALL.out _ hB | with_reducible exact HALL.out _ hB.drew)
          (first
            | (go_at_call 32; (first | (with_reducible refine ((HNF.out _ _ (HS5.out.later hB.drew)).1).mono ?_) | (with_reducible refine ((HNF.out _ _ (HS5.out.later hB)).1).mono ?_)); rintro e v1 ⟨rfl, hb1⟩; (first | (with_reducible have B1 := hB.drew.nx hb1) | (with_reducible have B1 := hB.nx hb1)))
            | (go_at_call 34; (with_reducible refine ((HNF.out _ _ (HS5.out.later B1)).2.1).mono ?_); rintro e v2 ⟨rfl, hb2⟩; have B2 := B1.nx hb2)
            | (go_at_call 33; (with_reducible refine ((HNF.out _ _ (HS5.out.later B2)).2.2 _).mono ?_); rintro e v3 ⟨rfl, hb3⟩; have B3 := B2.nx hb3)
            | fail)
        all_goals
          have HB3 := Lib.hid (HB5.out.nx B3)
          clear hb1 hb2 hb3 B1 B2 B3 hB
          go_wp2
          go_roundw
          case rel => exact ⟨i + 1, by go_num, by omega, HB3.out⟩
          case measure => simp [intOf]; omega
      · obtain rfl : i = n := by omega
        have hw3 := HW2.out.nx hB.out
        clear hB H1 HI
        go_wp2_with fail
        ((with_reducible refine (HA.out _ hw3).mono ?_); rintro e wz ⟨rfl, hbz⟩)
        have hwz := (hw3).nx hbz
        go_wp2
        go_ret
        exact ⟨rfl, hwz⟩
theorem selects_law {v : Value} (c : Ca) (fv dv sv : Value) (ts : List TT) (ds : List Dt) (ls : List Sp) (w : World) (hg : Good w) (S : CaS w c fv dv sv ds ls) (T : SlX w v ts) (hn : ts.length ≤ 140737488355328) (hl : ∀ t ∈ ts, ∀ l ∈ t.l, l.length ≤ 140737488355328) :
    Calls Tryz.prog 9 #[caV c fv dv sv, v] w (Ret w (.bool true)) := selects_z c fv dv sv ts ds ls w hg S T hn hl fun W => zero_c W
end Go.Proofs.Wk
