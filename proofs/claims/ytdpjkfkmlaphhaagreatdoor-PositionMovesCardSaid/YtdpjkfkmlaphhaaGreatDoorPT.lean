/- POSITION, IN THE LAW: right cases with right torsors. -/
import Derived.Test.YtdpjkfkmlaphhaaGreatDoorPN
import Derived.Test.YtdpjkfkmlaphhaaGreatDoorPM
namespace Go.Proofs.Wk
open Go.RowKit Mt Po

set_option maxRecDepth 100000 in
set_option maxHeartbeats 4000000 in
theorem cfT_c {v : Value} (ls : List TT) (w : World) (S : SlX w v ls) (hn : ls.length ≤ 140737488355328) (hl : ∀ t ∈ ls, ∀ l ∈ t.l, l.length ≤ 140737488355328) :
    Calls Tryz.prog 35 #[v, .func (.func 36) #[] #[]] w (fun e w' => ∃ b : Bool, e = .returned (.bool b) ∧ (b = false → ∀ t ∈ ls, badT t = false) ∧ Below w.heap.size w w') := by
  have HI := Lib.hid (ixT_c ls w S hn hl)
  clear S hn hl
  go_enter Tryz.func35, Tryz.ntmps35
  go_wp2_with fail
  ((with_reducible refine HI.out.mono ?_); rintro e w1 ⟨r, rfl, hr, hb1⟩)
  clear HI
  have HR := Lib.hid hr
  clear hr
  by_cases q : r < 0
  · have h0 := HR.out q
    have q1 : ¬ (0 : Int) ≤ r := by omega
    have H0 := Lib.hid h0
    clear h0 HR
    go_wp2
    go_ret
    exact ⟨_, rfl, fun _ => H0.out, hb1⟩
  · have q1 : (0 : Int) ≤ r := by omega
    clear HR
    go_wp2
    go_ret
    exact ⟨_, rfl, fun h => absurd h (by decide), hb1⟩
set_option maxRecDepth 100000 in
set_option maxHeartbeats 8000000 in
theorem right_c {v : Value} (c : Ca) (fv dv sv : Value) (ds : List Dt) (ls : List Sp) (ts : List TT) (w : World) (S : CaS w c fv dv sv ds ls) (T : SlX w v ts) (hn : ts.length ≤ 140737488355328) (hl : ∀ t ∈ ts, ∀ l ∈ t.l, l.length ≤ 140737488355328) :
    Calls Tryz.prog 7 #[caV c fv dv sv, v] w (fun e w' => ∃ b : Bool, e = .returned (.bool b) ∧ (b = true → caE c.f c.x c.b ds ls = 0 ∧ 0 < ls.length ∧ ∀ t ∈ ts, badT t = false) ∧ Below w.heap.size w w') := by
  have HF := Lib.hid (fun W (h : Below w.heap.size w W) => rfew_c c fv dv sv ds ls W (S.later h))
  have HC := Lib.hid (fun W (h : Below w.heap.size w W) => rpoCheck_c c fv dv sv ds ls W (S.later h))
  have HT := Lib.hid (fun W (h : Below w.heap.size w W) => cfT_c ts W (T.later h) hn hl)
  obtain ⟨sa, cap, rfl⟩ := S.sp.lenS
  clear S T hn hl
  generalize caE c.f c.x c.b ds ls = CE at *
  generalize ls.length = n at *
  obtain ⟨PA, hPA⟩ : ∃ P : Prop, (∀ t ∈ ts, badT t = false) = P := ⟨_, rfl⟩
  rw [hPA] at HT ⊢
  clear hPA
  obtain ⟨PP, hPP⟩ : ∃ P : Prop, (CE = 0 ∧ 0 < n ∧ PA) = P := ⟨_, rfl⟩
  rw [hPP]
  have HP := Lib.hid (fun (a : CE = 0) (b : 0 < n) (d : PA) => show PP from hPP ▸ ⟨a, b, d⟩)
  clear hPP
  have hJ := On.new w (caC c fv dv (.slice sa n cap)).toList 34
  obtain ⟨⟨nm, kind, axis, ⟨ax, ay, az⟩, lo, fhi⟩, ⟨xk, disc, tol, mat⟩, b0⟩ := c
  simp only at hJ HF HC
  go_enter Tryz.func7, Tryz.ntmps7
  go_upto_region 1 with fail
  generalize hW0 : w.alloc (.cells #[.string ⟨nm.toArray⟩, .int .i64 kind, .int .i64 axis, .int .i64 ax, .int .i64 ay, .int .i64 az, .int .i64 lo, .int .i64 fhi, fv, .int .i64 xk, .bool disc, .int .i64 tol, .int .i64 mat, dv, .slice sa n cap, .int .i64 b0] 34) = W0 at *
  clear hW0
  obtain ⟨c0, c1, c2, c3, c4, c5, c6, c7, c8, c9, ca, cb, cc, cd, ce, cf⟩ := c16row hJ.a
  go_wp2_with fail
  ((with_reducible refine (HF.out _ hJ.w).mono ?_); rintro e w1 ⟨b1, rfl, hb1⟩)
  have hJ1 := hJ.later hb1
  have hw1 := hJ1.w
  clear c0 c1 c2 c3 c4 c5 c6 c7 c8 c9 ca cb cc cd ce cf hJ hb1 HF
  cases b1 with
  | false =>
    clear hJ1 HC HT
    go_wp2
    go_ret
    exact ⟨false, rfl, fun h => absurd h (by decide), hw1⟩
  | true =>
    obtain ⟨c0, c1, c2, c3, c4, c5, c6, c7, c8, c9, ca, cb, cc, cd, ce, cf⟩ := c16row hJ1.a
    go_wp2_with fail
    ((with_reducible refine (HC.out _ hw1).mono ?_); rintro e w2 ⟨rfl, hb2⟩)
    have hJ2 := hJ1.later hb2
    have hw2 := hJ2.w
    clear c0 c1 c2 c3 c4 c5 c6 c7 c8 c9 ca cb cc cd ce cf hJ1 hb2 hw1 HC
    by_cases hC : CE = 0
    rotate_left
    · have h3 : (CE == 0) = false := by simp [hC]
      clear hJ2 HT
      go_wp2
      go_ret
      exact ⟨false, rfl, fun h => absurd h (by decide), hw2⟩
    subst hC
    obtain ⟨c0, c1, c2, c3, c4, c5, c6, c7, c8, c9, ca, cb, cc, cd, ce, cf⟩ := c16row hJ2.a
    clear c0 c1 c2 c3 c4 c5 c6 c7 c8 c9 ca cb cc cd cf hJ2
    by_cases hp : 0 < n
    rotate_left
    · have hp1 : ¬ (0 : Int) < (n : Int) := by omega
      clear HT hp
      go_wp2
      go_ret
      exact ⟨false, rfl, fun h => absurd h (by decide), hw2⟩
    have hp1 : (0 : Int) < (n : Int) := by omega
    go_wp2_with fail
    ((with_reducible refine (HT.out _ hw2).mono ?_); rintro e w3 ⟨b3, rfl, h3, hb3⟩)
    have hw3 := hw2.nx hb3
    have H3 := Lib.hid h3
    clear h3 HT hb3 ce
    cases b3 with
    | true =>
      clear H3
      go_wp2
      go_ret
      exact ⟨false, rfl, fun h => absurd h (by decide), hw3⟩
    | false =>
      go_wp2
      go_ret
      exact ⟨true, rfl, fun _ => HP.out trivial hp (H3.out trivial), hw3⟩
end Go.Proofs.Wk
/- POSITION: what Worst, Within, Needed and Deviations answer at right cases. -/
namespace Go.Proofs.Wk
open Go.RowKit Mt Po

/-- A right case with points and a right torsor. -/
structure RtC (c : Ca) (t : TQ) (ds : List Dt) (ls : List Sp) : Prop where
  hc : caE c.f c.x c.b ds ls = 0
  hp : 0 < ls.length
  ht : ShT t
  he : ttE (tqT t) = 0
  hl : ∀ l ∈ (tqT t).l, l.length ≤ 140737488355328
theorem right_t {tt : TT} (h : badT tt = false) : ∃ t : TQ, tt = tqT t ∧ ShT t ∧ ttE (tqT t) = 0 := by
  obtain ⟨h1, h2⟩ := badT_ok h
  obtain ⟨t, rfl, ht⟩ := tt_ok h1 h2
  exact ⟨t, rfl, ht, h2⟩
theorem RtC.ok {c : Ca} {t : TQ} {ds : List Dt} {ls : List Sp} (h : RtC c t ds ls) : OkC c t ∧ ls.length ≤ 64 ∧ (∀ p ∈ ls, InP p) ∧ (0 ≤ c.x.tol ∧ c.x.tol ≤ 100000) ∧ (0 ≤ c.b ∧ c.b ≤ 100000) := right_ok h.hc h.ht
theorem RtC.gv {c : Ca} {t : TQ} {ds : List Dt} {ls : List Sp} (h : RtC c t ds ls) : gvE c (tqT t) ds ls = 0 := by
  unfold gvE
  rw [h.hc, if_neg (by simp)]
  exact h.he
/-- The greatest squared deviation. -/
def wsQ (c : Ca) (t : TQ) (ls : List Sp) : Rat := (wst (fC c t ls) ls.length).1
theorem RtC.sz {c : Ca} {t : TQ} {ds : List Dt} {ls : List Sp} (h : RtC c t ds ls) : szV (wsQ c t ls) 475 21 := by
  obtain ⟨hk, -, hin, -, -⟩ := h.ok
  exact sz_wst (fun j hj => fC_sz hk hin (ls := ls) hj) ls.length (Nat.le_refl _)
theorem wsQ_fits {c : Ca} {t : TQ} {ls : List Sp} (hp : 0 < ls.length) {w : Int} : fits (wsQ c t ls) w ↔ ∀ i, i < ls.length → fits (fC c t ls i) w := wst_fits (fC_nonneg c t ls) hp
theorem worst_is {c : Ca} {fv dv sv : Value} {t : TQ} {ds : List Dt} {ls : List Sp} {w : World} (hg : Good w) (S : CaS w c fv dv sv ds ls) (R : RtC c t ds ls) (W : World) (h : Below w.heap.size w W) :
    Calls Tryz.prog 40 #[caV c fv dv sv, ttV (tqT t)] W (Ret W (wst3 (rtoa (wsQ c t ls)) ((wst (fC c t ls) ls.length).2 : Int) 0)) := by
  obtain ⟨hk, h64, hin, -, -⟩ := R.ok
  have HG1 := fun W (h : Below w.heap.size w W) => given_c c fv dv sv (tqT t) ds ls W (hg.later h) (S.later h) R.hl
  rw [R.gv] at HG1
  exact worst_ok c fv dv sv t ls W (hg.later h) hk (S.sp.later h) h64 R.hp hin fun W' h' => HG1 W' (h.nx h')
theorem within_is {c : Ca} {fv dv sv : Value} {t : TQ} {ds : List Dt} {ls : List Sp} {w : World} (hg : Good w) (S : CaS w c fv dv sv ds ls) (R : RtC c t ds ls) (W : World) (h : Below w.heap.size w W) :
    Calls Tryz.prog 42 #[caV c fv dv sv, ttV (tqT t)] W (Ret W (.tuple #[.bool (fitB (wsQ c t ls) (c.x.tol + c.b)), .int .i64 0])) := by
  obtain ⟨-, -, -, ht, hb⟩ := R.ok
  exact within_ok c fv dv sv (tqT t) _ _ W (hg.later h) R.sz ht hb fun W' h' => worst_is hg S R W' (h.nx h')
theorem needed_is {c : Ca} {fv dv sv : Value} {t : TQ} {ds : List Dt} {ls : List Sp} {w : World} (hg : Good w) (S : CaS w c fv dv sv ds ls) (R : RtC c t ds ls) (W : World) (h : Below w.heap.size w W) :
    Calls Tryz.prog 43 #[caV c fv dv sv, ttV (tqT t)] W (Ret W (nedV (wsQ c t ls))) :=
  needed_ok c fv dv sv (tqT t) _ _ W (hg.later h) R.sz fun W' h' => worst_is hg S R W' (h.nx h')
theorem dev_is {c : Ca} {fv dv sv : Value} {t : TQ} {ds : List Dt} {ls : List Sp} {w : World} (hg : Good w) (S : CaS w c fv dv sv ds ls) (R : RtC c t ds ls) (i : Nat) (hi : i < ls.length) (W : World) (h : Below w.heap.size w W) :
    Calls Tryz.prog 14 #[caV c fv dv sv, ttV (tqT t), .int .i64 (i : Int)] W (OffR W ((dvC c t (Po.at_ ls i)).map rtoa)) := by
  obtain ⟨hk, h64, hin, -, -⟩ := R.ok
  have HG1 := fun W (h : Below w.heap.size w W) => given_c c fv dv sv (tqT t) ds ls W (hg.later h) (S.later h) R.hl
  rw [R.gv] at HG1
  exact dev_ok c fv dv sv t ls i W (hg.later h) hk (S.sp.later h) hi hin fun W' h' => HG1 W' (h.nx h')

/-! ### Cases with another zone or bonus -/
def boxC (c : Ca) : Ca := ⟨c.f, { c.x with disc := false }, c.b⟩
def bonC (c : Ca) (b : Int) : Ca := ⟨c.f, c.x, b⟩
theorem RtC.box {c : Ca} {t : TQ} {ds : List Dt} {ls : List Sp} (h : RtC c t ds ls) : RtC (boxC c) t ds ls := by
  obtain ⟨h1, h2, h3, h4⟩ := caE_ok h.hc
  exact ⟨caE_mk (frE_box h1) h2 h3 h4, h.hp, h.ht, h.he, h.hl⟩
theorem RtC.bon {c : Ca} {t : TQ} {ds : List Dt} {ls : List Sp} (h : RtC c t ds ls) {b : Int} (hb : 0 ≤ b ∧ b ≤ 100000) : RtC (bonC c b) t ds ls := by
  obtain ⟨h1, h2, h3, h4⟩ := caE_ok h.hc
  exact ⟨caE_mk h1 h2 hb h4, h.hp, h.ht, h.he, h.hl⟩
theorem CaS.box {w : World} {c : Ca} {fv dv sv : Value} {ds : List Dt} {ls : List Sp} (S : CaS w c fv dv sv ds ls) : CaS w (boxC c) fv dv sv ds ls := ⟨S.fr, S.dt, S.sp, S.ln, S.nm⟩
theorem CaS.bon {w : World} {c : Ca} {fv dv sv : Value} {ds : List Dt} {ls : List Sp} (S : CaS w c fv dv sv ds ls) (b : Int) : CaS w (bonC c b) fv dv sv ds ls := ⟨S.fr, S.dt, S.sp, S.ln, S.nm⟩
theorem wsQ_bon (c : Ca) (b : Int) (t : TQ) (ls : List Sp) : wsQ (bonC c b) t ls = wsQ c t ls := rfl
/-- Points in a round zone are in the box; those in the box are in the round zone of twice the width. -/
theorem nest_law {c : Ca} {t : TQ} {ds : List Dt} {ls : List Sp} (h : RtC c t ds ls) (hd : c.x.disc = true) {w : Int} :
    (fitB (wsQ c t ls) w = true → fitB (wsQ (boxC c) t ls) w = true) ∧ (fitB (wsQ (boxC c) t ls) w = true → fitB (wsQ c t ls) (w + w) = true) := by
  obtain ⟨hk, -, hin, -, -⟩ := h.ok
  have e1 : ∀ i, fC c t ls i = farQ (dvC c t (Po.at_ ls i)) true := fun i => by unfold fC sqC; rw [hd]
  have e2 : ∀ i, fC (boxC c) t ls i = farQ (dvC c t (Po.at_ ls i)) false := fun i => rfl
  unfold fitB
  simp only [decide_eq_true_eq]
  rw [wsQ_fits h.hp, wsQ_fits h.hp, wsQ_fits h.hp]
  refine ⟨fun a i hi => ?_, fun a i hi => ?_⟩
  · rw [e2]; exact nest_box (e1 i ▸ a i hi)
  · rw [e1]; exact nest_wide (dvC_sh hk (hin _ (Po.at_mem hi))).1 (e2 i ▸ a i hi)
end Go.Proofs.Wk
/- POSITION, IN THE LAW: right cases, what they answer. -/
namespace Go.Proofs.Wk
open Go.RowKit Mt Po

theorem SlX.form {α : Type} [Row α] {w : World} {v : Value} {ls : List α} (S : SlX w v ls) : ∃ a n cap, v = .slice a n cap := by
  rcases S with ⟨a, cap, rfl, rfl⟩ | ⟨b, off, cap, rfl, -, -⟩
  · exact ⟨a, 0, cap, rfl⟩
  · exact ⟨_, _, cap, rfl⟩
theorem CaS.forms {w : World} {c : Ca} {fv dv sv : Value} {ds : List Dt} {ls : List Sp} (S : CaS w c fv dv sv ds ls) :
    ∃ fa fn fc da dn dc xa xn xc, fv = .slice fa fn fc ∧ dv = .slice da dn dc ∧ sv = .slice xa xn xc := by
  obtain ⟨fs, hf⟩ := S.fr
  obtain ⟨fa, fn, fc, e1⟩ := hf.1.form
  obtain ⟨da, dn, dc, e2⟩ := S.dt.1.form
  obtain ⟨xa, xn, xc, e3⟩ := S.sp.form
  exact ⟨fa, fn, fc, da, dn, dc, xa, xn, xc, e1, e2, e3⟩
/-- What the law's right says. -/
def RtP (c : Ca) (ds : List Dt) (ls : List Sp) (ts : List TT) : Prop := caE c.f c.x c.b ds ls = 0 ∧ 0 < ls.length ∧ ∀ t ∈ ts, badT t = false
theorem RtP.rt {c : Ca} {ds : List Dt} {ls : List Sp} {ts : List TT} (h : RtP c ds ls ts) {tt : TT} (ht : tt ∈ ts) (hl : ∀ l ∈ tt.l, l.length ≤ 140737488355328) : ∃ t : TQ, tt = tqT t ∧ RtC c t ds ls := by
  obtain ⟨h1, h2, h3⟩ := h
  obtain ⟨t, rfl, ht2, he⟩ := right_t (h3 tt ht)
  exact ⟨t, rfl, h1, h2, ht2, he, hl⟩
/-- What the law's right answers, as the laws ask it. -/
theorem right_one (c : Ca) (fv dv sv : Value) (tt : TT) (ds : List Dt) (ls : List Sp) (w : World) (S : CaS w c fv dv sv ds ls) (hl : ∀ l ∈ tt.l, l.length ≤ 140737488355328) (v : Value) (W : World) (h : Below w.heap.size w W) (T : SlX W v [tt]) :
    Calls Tryz.prog 7 #[caV c fv dv sv, v] W (fun e w' => ∃ b : Bool, e = .returned (.bool b) ∧ (b = true → RtP c ds ls [tt]) ∧ Below W.heap.size W w') :=
  right_c c fv dv sv ds ls [tt] W (S.later h) T (by simp) (fun t ht => by rw [List.mem_singleton.1 ht]; exact hl)
theorem SlX.one (w : World) (t : TT) : SlX (w.alloc (.cells (ttC t) 38)) (.slice (some ⟨w.heap.size, 0, none⟩) 1 1) [t] := .inr ⟨w.heap.size, 0, 1, rfl, RX.lit w [t] 38, alloc_lt w _⟩
end Go.Proofs.Wk
