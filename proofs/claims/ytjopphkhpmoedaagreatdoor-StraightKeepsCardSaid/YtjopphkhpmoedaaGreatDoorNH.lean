/- STRAIGHTNESS: the least width. -/
import Derived.Test.YtjopphkhpmoedaaGreatDoorSbK
import Derived.Deep.RegionHeld3
import Derived.Laws.EntriesVeiled
namespace Go.Proofs.Wk
open Go.RowKit Go.Rng Mt
attribute [local go_sem] Oper.semAt_some

theorem pob {B : Nat} {w0 W : World} (h : Below B w0 W) {l : Nat} (hl : B ≤ l) (o : Obj) : Below B w0 (W.putObj l o) :=
  ⟨h.os, h.tape, h.output, by rw [World.putObj_size]; exact h.size, fun k hk => by rw [World.putObj_heap_other (by omega)]; exact h.block k hk⟩
theorem alloc_at {W : World} {o : Obj} {n : Nat} (h : W.heap.size = n) : (W.alloc o).heap[n]? = some o := by subst h; exact heap_alloc_new W o
/-- What lies in memory while the proofs are ranged over. -/
structure LtI (ls : List St.Pt) (v : Value) (w W : World) (s : Option St.Prf) (lp : Obj) : Prop where
  m : BsM w.heap.size (w.heap.size + 2) (w.heap.size + 3) v (stT ls s) (stP s) W
  r : W.heap[w.heap.size + 1]? = some (.cells #[.int .i64 0, .int .i64 0, .int .i64 0, .int .i64 0] 88 (0, 0))
  f : W.heap[w.heap.size + 4]? = some (.cells #[.func (.func 97) #[] #[.pointer (some ⟨w.heap.size, 0, none⟩), .pointer (some ⟨w.heap.size + 2, 0, none⟩), .pointer (some ⟨w.heap.size + 3, 0, none⟩)]] 132 (0, 0))
  c : W.heap[w.heap.size + 5]? = some (.cells #[v] 22 (0, 0))
  d : W.heap[w.heap.size + 6]? = some (.deferred (some []))
  lp : W.heap[w.heap.size + 7]? = some lp
  w : Below w.heap.size w W
  ok : ∀ y, s = some y → OkX ls y
theorem LtI.sv {ls : List St.Pt} {v : Value} {w W W' : World} {s s' : Option St.Prf} {lp : Obj} (h : LtI ls v w W s lp) (hm : BsM w.heap.size (w.heap.size + 2) (w.heap.size + 3) v (stT ls s') (stP s') W') (hs : Sv2 (w.heap.size + 2) (w.heap.size + 3) W W')
    (hok : ∀ y, s' = some y → OkX ls y) : LtI ls v w W' s' lp := by
  have l1 := (Array.getElem?_eq_some_iff.1 h.lp).1
  refine ⟨hm, ?_, ?_, ?_, ?_, ?_, ⟨hs.os.trans h.w.os, hs.tape.trans h.w.tape, hs.output.trans h.w.output, Nat.le_trans h.w.size hs.size, fun k hk => ?_⟩, hok⟩
  · rw [hs.block _ (by omega) (by omega) (by omega)]; exact h.r
  · rw [hs.block _ (by omega) (by omega) (by omega)]; exact h.f
  · rw [hs.block _ (by omega) (by omega) (by omega)]; exact h.c
  · rw [hs.block _ (by omega) (by omega) (by omega)]; exact h.d
  · rw [hs.block _ (by omega) (by omega) (by omega)]; exact h.lp
  · rw [hs.block _ (by omega) (by omega) (by omega)]; exact h.w.block k hk
theorem LtI.later {ls : List St.Pt} {v : Value} {w W W' : World} {s : Option St.Prf} {lp : Obj} (h : LtI ls v w W s lp) (hb : Below W.heap.size W W') : LtI ls v w W' s lp :=
  h.sv (h.m.later hb) (Sv2.of hb) h.ok
theorem LtI.put {ls : List St.Pt} {v : Value} {w W : World} {s : Option St.Prf} {lp : Obj} (h : LtI ls v w W s lp) (o : Obj) : LtI ls v w (W.putObj (w.heap.size + 7) o) s o := by
  have l1 := (Array.getElem?_eq_some_iff.1 h.lp).1
  refine ⟨⟨?_, ?_, ?_⟩, ?_, ?_, ?_, ?_, World.putObj_heap_same l1, pob h.w (by omega) _, h.ok⟩
  · rw [World.putObj_heap_other (by omega)]; exact h.m.l
  · rw [World.putObj_heap_other (by omega)]; exact h.m.b
  · rw [World.putObj_heap_other (by omega)]; exact h.m.o
  · rw [World.putObj_heap_other (by omega)]; exact h.r
  · rw [World.putObj_heap_other (by omega)]; exact h.f
  · rw [World.putObj_heap_other (by omega)]; exact h.c
  · rw [World.putObj_heap_other (by omega)]; exact h.d
/-- What is left at the end. -/
structure LtF (w W : World) (p : St.Prf) : Prop where
  r : W.heap[w.heap.size + 1]? = some (.cells (prfC p) 88 (0, 0))
  d : W.heap[w.heap.size + 6]? = some (.deferred (some []))
  w : Below w.heap.size w W
theorem LtI.fin {ls : List St.Pt} {v : Value} {w W : World} {s : Option St.Prf} {lp : Obj} (h : LtI ls v w W s lp) (p : St.Prf) :
    LtF w ((((W.setCell ⟨w.heap.size + 1, 0, none⟩ (.int .i64 (p.i : Int))).setCell ⟨w.heap.size + 1, 1, none⟩ (.int .i64 (p.j : Int))).setCell ⟨w.heap.size + 1, 2, none⟩ (.int .i64 p.area)).setCell ⟨w.heap.size + 1, 3, none⟩ (.int .i64 (p.far : Int))) p := by
  obtain ⟨pi, pj, pa, pf⟩ := p
  refine ⟨s4row h.r, ?_, b4row h.w (by omega)⟩
  exact Eq.trans (o4row (show w.heap.size + 6 ≠ w.heap.size + 1 by omega)) h.d
theorem LtF.drew {w W : World} {p : St.Prf} (h : LtF w W p) : LtF w W.drew p := ⟨h.r, h.d, h.w.drew⟩
theorem LtF.put {w W : World} {p : St.Prf} (h : LtF w W p) (o : Obj) : (W.putObj (w.heap.size + 6) o).heap[w.heap.size + 1]? = some (.cells (prfC p) 88 (0, 0)) := by
  rw [World.putObj_heap_other (by omega)]; exact h.r
/-- Where the range begins. -/
structure LtS (v : Value) (w W : World) : Prop where
  m : BsM w.heap.size (w.heap.size + 2) (w.heap.size + 3) v [] ⟨0, 0, 0, 0⟩ W
  r : W.heap[w.heap.size + 1]? = some (.cells #[.int .i64 0, .int .i64 0, .int .i64 0, .int .i64 0] 88 (0, 0))
  f : W.heap[w.heap.size + 4]? = some (.cells #[.func (.func 97) #[] #[.pointer (some ⟨w.heap.size, 0, none⟩), .pointer (some ⟨w.heap.size + 2, 0, none⟩), .pointer (some ⟨w.heap.size + 3, 0, none⟩)]] 132 (0, 0))
  c : W.heap[w.heap.size + 5]? = some (.cells #[v] 22 (0, 0))
  size : W.heap.size = w.heap.size + 6
  w : Below w.heap.size w W
theorem lt_start (v : Value) (w : World) : LtS v w ((((((w.alloc (.cells #[v] 22)).alloc (.cells #[.int .i64 0, .int .i64 0, .int .i64 0, .int .i64 0] 88)).alloc (.cells #[.string ⟨#[]⟩] 39)).alloc
    (.cells #[.int .i64 0, .int .i64 0, .int .i64 0, .int .i64 0] 88)).alloc (.cells #[.func (.func 97) #[] #[.pointer (some ⟨w.heap.size, 0, none⟩), .pointer (some ⟨w.heap.size + 2, 0, none⟩), .pointer (some ⟨w.heap.size + 3, 0, none⟩)]] 132)).alloc
    (.cells #[v] 22)) := by
  generalize ho0 : Obj.cells #[v] 22 = o0
  generalize ho1 : Obj.cells #[.int .i64 0, .int .i64 0, .int .i64 0, .int .i64 0] 88 = o1
  generalize ho2 : Obj.cells #[.string ⟨#[]⟩] 39 = o2
  generalize ho4 : Obj.cells #[.func (.func 97) #[] #[.pointer (some ⟨w.heap.size, 0, none⟩), .pointer (some ⟨w.heap.size + 2, 0, none⟩), .pointer (some ⟨w.heap.size + 3, 0, none⟩)]] 132 = o4
  have s1 : (w.alloc o0).heap.size = w.heap.size + 1 := by simp
  have h0 := heap_alloc_new w o0
  have b0 := below_al w o0
  generalize w.alloc o0 = W1 at *
  have s2 : (W1.alloc o1).heap.size = w.heap.size + 2 := by simp; omega
  have h1 := alloc_at (o := o1) s1
  have b1 := below_al W1 o1
  generalize W1.alloc o1 = W2 at *
  have s3 : (W2.alloc o2).heap.size = w.heap.size + 3 := by simp; omega
  have h2 := alloc_at (o := o2) s2
  have b2 := below_al W2 o2
  generalize W2.alloc o2 = W3 at *
  have s4 : (W3.alloc o1).heap.size = w.heap.size + 4 := by simp; omega
  have h3 := alloc_at (o := o1) s3
  have b3 := below_al W3 o1
  generalize W3.alloc o1 = W4 at *
  have s5 : (W4.alloc o4).heap.size = w.heap.size + 5 := by simp; omega
  have h4 := alloc_at (o := o4) s4
  have b4 := below_al W4 o4
  generalize W4.alloc o4 = W5 at *
  have s6 : (W5.alloc o0).heap.size = w.heap.size + 6 := by simp; omega
  have h5 := alloc_at (o := o0) s5
  have b5 := below_al W5 o0
  generalize W5.alloc o0 = W6 at *
  subst ho0 ho1 ho2 ho4
  refine ⟨⟨?_, ?_, ?_⟩, ?_, ?_, h5, s6, ((((b0.nx b1).nx b2).nx b3).nx b4).nx b5⟩
  · rw [b5.block _ (by omega), b4.block _ (by omega), b3.block _ (by omega), b2.block _ (by omega), b1.block _ (by omega)]; exact h0
  · rw [b5.block _ (by omega), b4.block _ (by omega), b3.block _ (by omega)]; exact h2
  · rw [b5.block _ (by omega), b4.block _ (by omega)]; exact h3
  · rw [b5.block _ (by omega), b4.block _ (by omega), b3.block _ (by omega), b2.block _ (by omega)]; exact h1
  · rw [b5.block _ (by omega)]; exact h4
set_option maxRecDepth 100000 in
set_option maxHeartbeats 1000000 in
theorem least_c {v : Value} (ls : List St.Pt) (w : World) (hg : Good w) (S : SlX w v ls) (hin : ∀ p ∈ ls, St.InP p) (h0 : 0 < ls.length) (hn : ls.length ≤ 64) :
    Calls Tryz.prog 57 #[v] w (Ret w (.tuple #[.string ⟨(rtoa (bsQ ls (St.least ls))).toArray⟩, prfV (stP (St.least ls))])) := by
  have hE : St.allB ls 0 none = St.least ls := rfl
  generalize St.least ls = E at *
  have HPF := Lib.hid (fun a n cap W => proofs_c a n cap W)
  obtain ⟨sa, cap, rfl⟩ := S.len
  have HIN := Lib.hid hin
  have HS := Lib.hid S
  have HG := Lib.hid hg
  clear hin S hg
  refine calls_marks Tryz.func57 rfl ?_
  simp only [Tryz.ntmps57, List.size_toArray, List.length_cons, List.length_nil, Nat.reduceAdd, Nat.reduceSub, Array.replicate_succ, Array.replicate_zero, List.push_toArray, List.append_toArray, List.nil_append, List.cons_append]
  go_wp2_with fail
  ((with_reducible refine (HPF.out _ _ _ _).mono ?_); rintro e w' ⟨rfl, rfl⟩)
  go_wp2_with fail
  have hs := lt_start (.slice sa ls.length cap) w
  simp only [Nat.add_assoc, Nat.reduceAdd]
  generalize ((((((w.alloc (.cells #[.slice sa ls.length cap] 22)).alloc (.cells #[.int .i64 0, .int .i64 0, .int .i64 0, .int .i64 0] 88)).alloc (.cells #[.string ⟨#[]⟩] 39)).alloc
    (.cells #[.int .i64 0, .int .i64 0, .int .i64 0, .int .i64 0] 88)).alloc (.cells #[.func (.func 97) #[] #[.pointer (some ⟨w.heap.size, 0, none⟩), .pointer (some ⟨w.heap.size + 2, 0, none⟩), .pointer (some ⟨w.heap.size + 3, 0, none⟩)]] 132)).alloc
    (.cells #[.slice sa ls.length cap] 22)) = W6 at *
  have hsz := hs.size
  have HST := Lib.hid hs
  clear hs
  refine range_named (gf := 127) (lb := #[.pointer (some ⟨w.heap.size + 5, 0, none⟩)]) rfl (enters_of Tryz.func127 (by kernel_rfl) rfl) (fun fn lp hlp => ?_)
  rw [hsz]
  have HLP := Lib.hid hlp
  have b6 := below_al W6 (.deferred (some []))
  have b7 := below_al (W6.alloc (.deferred (some []))) (.loop (lp .ready none))
  have h6 := alloc_at (o := .deferred (some [])) hsz
  have h7 : ((W6.alloc (.deferred (some []))).alloc (.loop (lp .ready none))).heap[w.heap.size + 7]? = some (.loop (lp .ready none)) := alloc_at (by simp; omega)
  have hI : LtI ls (.slice sa ls.length cap) w ((W6.alloc (.deferred (some []))).alloc (.loop (lp .ready none))) none (.loop (lp .ready none)) := by
    have hq := b6.nx b7
    have m := HST.out.m.later hq
    have e6 : (W6.alloc (.deferred (some []))).heap.size = w.heap.size + 7 := by simp; omega
    refine ⟨m, ?_, ?_, ?_, ?_, h7, HST.out.w.nx hq, fun y e => by cases e⟩
    · rw [hq.block _ (by omega)]; exact HST.out.r
    · rw [hq.block _ (by omega)]; exact HST.out.f
    · rw [hq.block _ (by omega)]; exact HST.out.c
    · rw [b7.block _ (by omega)]; exact h6
  generalize (W6.alloc (.deferred (some []))).alloc (.loop (lp .ready none)) = W8 at *
  clear b6 b7 h6 h7 HST hlp hsz HPF
  refine (proofs_in (v := .slice sa ls.length cap) ls HIN.out h0 hn (w.heap.size + 5) (w.heap.size + 7) (fun s W => LtI ls (.slice sa ls.length cap) w W s (.loop (lp .ready none)))
    (fun s W1 W2 h k => h.later k) (fun s W1 h => ⟨c1row h.c, HS.out.later h.w⟩) ?go none W8 hI).mono ?_
  case go =>
    intro s x W1 hx hj
    have hja := hj.later (below_al W1 (.cells (prfC x) 88))
    have hxc : (W1.alloc (.cells (prfC x) 88)).heap[W1.heap.size]? = some (.cells (prfC x) 88 (0, 0)) := heap_alloc_new W1 _
    have hl1 := (Array.getElem?_eq_some_iff.1 hj.lp).1
    have hp := hja.put (.loop (lp .busy none))
    have hxp : ((W1.alloc (.cells (prfC x) 88)).putObj (w.heap.size + 7) (.loop (lp .busy none))).heap[W1.heap.size]? = some (.cells (prfC x) 88 (0, 0)) := by
      rw [World.putObj_heap_other (by omega)]; exact hxc
    have HBT := Lib.hid (fun W' (h : LtI ls (.slice sa ls.length cap) w W' s (.loop (lp .busy none))) => better_c ls s x w.heap.size (w.heap.size + 2) (w.heap.size + 3) W' (HG.out.later h.w) (HS.out.later h.w) HIN.out hn hx h.ok h.m (by omega) (by omega) (by omega))
    have HBO := Lib.hid (show ∀ y, St.bet ls s x = some y → OkX ls y from fun y hy => by
      cases s with
      | none => cases hy; exact hx
      | some z =>
        by_cases c : St.wv ls x < St.wv ls z
        · rw [bet_yes (.inr c)] at hy; cases hy; exact hx
        · rw [bet_no rfl c] at hy; cases hy; exact hj.ok _ rfl)
    obtain ⟨xi, xj, xa, xf⟩ := x
    apply yield_named2 HLP.out (W1.alloc (.cells (prfC ⟨xi, xj, xa, xf⟩) 88)) hj.lp hja.lp rfl
    · intro K hK
      gi_wp2
      exact hK
    · have HP := Lib.hid hp
      have c0 := c1row hp.f
      obtain ⟨k0, k1, k2, k3⟩ := c4row hxp
      generalize (W1.alloc (.cells (prfC ⟨xi, xj, xa, xf⟩) 88)).putObj (w.heap.size + 7) (.loop (lp .busy none)) = W3 at *
      clear hja hp hxp hxc hx hj
      gi_wp2_with fail
      refine ⟨trivial, rfl, ?_⟩
      refine (callsIn_wide.2 (HBT.out _ HP.out)).mono ?_
      rintro e W4 ⟨⟨v, rfl⟩, hm4, hs4⟩
      have hj4 := HP.out.sv hm4 hs4 HBO.out
      have HP4 := Lib.hid hj4
      clear hm4 hs4 hj4 HBT HBO HP c0 k0 k1 k2 k3
      gi_wp2
      exact ⟨HP4.out.lp, rfl, HP4.out.put _⟩
  · rintro e W2 ⟨hv, hh⟩
    refine ⟨hv, .ready, none, hh.lp, by decide, ?_⟩
    rw [hE] at hh
    have hp := hh.put (.loop (lp .exhausted none))
    simp only [After]
    have HP := Lib.hid hp
    have b0 := c1row hp.m.b
    obtain ⟨o0, o1, o2, o3⟩ := c4row hp.m.o
    obtain ⟨r0, r1, r2, r3⟩ := c4row hp.r
    have f1 := fun k => free_row hp.r k
    clear hh hp
    generalize W2.putObj (w.heap.size + 7) (.loop (lp .exhausted none)) = W3 at *
    cases E with
    | none =>
      change W3.cell? ⟨w.heap.size + 2, 0, none⟩ = some (.string ⟨#[]⟩) at b0
      have hz : bsQ ls none = 0 := rfl
      clear hE o0 o1 o2 o3
      go_wp2
      have hf := HP.out.fin ⟨0, 0, 0, 0⟩
      refine postM_ret1 rfl hf.d (res_tc rfl (by kernel_rfl) (hf.put _) Tryz.underlying88 rfl (by kernel_rfl) rfl) ?_
      refine ⟨?_, pob hf.w (by omega) _⟩
      show _ = Ending.returned (.tuple #[.string ⟨(rtoa 0).toArray⟩, prfV ⟨0, 0, 0, 0⟩])
      rw [rtoa_zero]; rfl
    | some x =>
      have hz : bsQ ls (some x) = St.wv ls x := rfl
      have hz2 : stT ls (some x) = rtoa (St.wv ls x) := rfl
      have hz3 : stP (some x) = x := rfl
      rw [hz, hz3]
      rw [hz2] at b0
      rw [hz3] at o0 o1 o2 o3
      have hT2 := rtoa_nn (St.wv ls x)
      generalize hTT : rtoa (St.wv ls x) = T2 at *
      have HTT := Lib.hid hTT
      have y1 : (T2 == []) = false := beq_eq_false_iff_ne.2 hT2
      have y3 : T2.isEmpty = false := by cases q : T2 with | nil => exact absurd q hT2 | cons _ _ => rfl
      have HF := Lib.hid (HP.out.fin x)
      obtain ⟨xi, xj, xa, xf⟩ := x
      simp only at o0 o1 o2 o3
      clear hE hz hz2 hz3 hT2 HP hTT
      go_wp2_with fail
      go_region
      all_goals
        go_wp2
        have hf := HF.out.drew
        refine postM_ret1 rfl hf.d (res_tc rfl (by kernel_rfl) (hf.put _) Tryz.underlying88 rfl (by kernel_rfl) rfl) ?_
        refine ⟨?_, pob hf.w (by omega) _⟩
        show _ = Ending.returned (.tuple #[.string ⟨(rtoa (St.wv ls ⟨xi, xj, xa, xf⟩)).toArray⟩, prfV ⟨xi, xj, xa, xf⟩])
        rw [HTT.out]; rfl
end Go.Proofs.Wk
/- STRAIGHTNESS: Width, in the program and in the reference. -/
namespace Go.Proofs.Wk
open Go.RowKit Mt

def widV (ls : List St.Pt) : Value :=
  if St.givP ls = 0 then .tuple #[.string ⟨(rtoa (bsQ ls (St.least ls))).toArray⟩, .agg #[.int .i64 (bsI (St.least ls) : Int), .int .i64 (bsJ (St.least ls) : Int)], .int .i64 (bsF (St.least ls) : Int), .int .i64 0]
  else .tuple #[.string ⟨#[]⟩, .agg #[.int .i64 0, .int .i64 0], .int .i64 0, .int .i64 (St.givP ls)]
theorem stP_bs (s : Option St.Prf) : (stP s).i = bsI s ∧ (stP s).j = bsJ s ∧ (stP s).far = bsF s := by cases s <;> exact ⟨rfl, rfl, rfl⟩
set_option maxRecDepth 100000 in
set_option maxHeartbeats 2000000 in
theorem Width_c {v : Value} (ls : List St.Pt) (w : World) (hg : Good w) (S : SlX w v ls) (hln : ls.length ≤ 140737488355328) : Calls Tryz.prog 21 #[v] w (Ret w (widV ls)) := by
  have HGV := Lib.hid (fun W (h : Below w.heap.size w W) => given_c ls W (S.later h) hln)
  have hz := heap_alloc_new w (.cells #[.int .i64 0, .int .i64 0] 47)
  have hA := below_al w (.cells #[.int .i64 0, .int .i64 0] 47)
  obtain ⟨sa, cap, rfl⟩ := S.len
  by_cases h0 : St.givP ls = 0
  · obtain ⟨i1, i2, i3⟩ := St.givP_in h0
    have HL := Lib.hid (fun W (h : Below w.heap.size w W) => least_c ls W (hg.later h) (S.later h) i3 i1 i2)
    rw [show widV ls = _ from if_pos h0]
    rw [h0] at HGV
    obtain ⟨e1, e2, e3⟩ := stP_bs (St.least ls)
    rw [← e1, ← e2, ← e3]
    generalize rtoa (bsQ ls (St.least ls)) = T at *
    generalize stP (St.least ls) = x at *
    obtain ⟨xi, xj, xa, xf⟩ := x
    simp only
    clear h0 i1 i2 i3 S hg hln e1 e2 e3
    go_enter Tryz.func21, Tryz.ntmps21
    go_wp2_with fail
    generalize w.alloc (.cells #[.int .i64 0, .int .i64 0] 47) = W1 at *
    ((with_reducible refine (HGV.out _ hA).mono ?_); rintro e w1 ⟨rfl, hb1⟩)
    have hB1 := hA.nx hb1
    have hz1 : w1.heap[w.heap.size]? = some (.cells #[.int .i64 0, .int .i64 0] 47 (0, 0)) := by rw [hb1.block _ (Array.getElem?_eq_some_iff.1 hz).1]; exact hz
    clear hb1 hz hA HGV
    go_wp2_with fail
    ((with_reducible refine (HL.out _ hB1).mono ?_); rintro e w2 ⟨rfl, hb2⟩)
    have hA2 := below_al w2 (.cells #[.int .i64 (xi : Int), .int .i64 (xj : Int), .int .i64 xa, .int .i64 (xf : Int)] 88)
    have hB2 := (hB1.nx hb2).nx hA2
    have hz2 : w2.heap[w.heap.size]? = some (.cells #[.int .i64 0, .int .i64 0] 47 (0, 0)) := by rw [hb2.block _ (Array.getElem?_eq_some_iff.1 hz1).1]; exact hz1
    have hz3 : (w2.alloc (.cells #[.int .i64 (xi : Int), .int .i64 (xj : Int), .int .i64 xa, .int .i64 (xf : Int)] 88)).heap[w.heap.size]? = some (.cells #[.int .i64 0, .int .i64 0] 47 (0, 0)) := by
      rw [hA2.block _ (Array.getElem?_eq_some_iff.1 hz2).1]; exact hz2
    have hx3 := heap_alloc_new w2 (.cells #[.int .i64 (xi : Int), .int .i64 (xj : Int), .int .i64 xa, .int .i64 (xf : Int)] 88)
    have hne : w.heap.size < w2.heap.size := (Array.getElem?_eq_some_iff.1 hz2).1
    clear hB1 hz1 hb2 hA2 hz2 HL
    go_wp2_with fail
    generalize w2.alloc (.cells #[.int .i64 (xi : Int), .int .i64 (xj : Int), .int .i64 xa, .int .i64 (xf : Int)] 88) = W3 at *
    obtain ⟨k0, k1, k2, k3⟩ := c4row hx3
    obtain ⟨z0, z1⟩ := c2row hz3
    have hf := fun k => free_row hz3 k
    have q1 : ¬ w2.heap.size = w.heap.size := by omega
    have q2 : ¬ w.heap.size = w2.heap.size := by omega
    go_region
    all_goals
      go_wp2
      refine bodyPost_ret (res_tctt rfl (by kernel_rfl) (s2rowd hz3) Tryz.underlying47 rfl (by kernel_rfl) rfl rfl rfl) rfl ?_
      exact ⟨rfl, (b2row hB2 (Nat.le_refl _)).drew⟩
  · rw [show widV ls = _ from if_neg h0]
    generalize St.givP ls = E at *
    have z : (E != 0) = true := bne_iff_ne.2 h0
    clear h0 S hg hln
    go_enter Tryz.func21, Tryz.ntmps21
    go_wp2_with fail
    generalize w.alloc (.cells #[.int .i64 0, .int .i64 0] 47) = W1 at *
    ((with_reducible refine (HGV.out _ hA).mono ?_); rintro e w1 ⟨rfl, hb1⟩)
    have hB1 := hA.nx hb1
    have hz1 : w1.heap[w.heap.size]? = some (.cells #[.int .i64 0, .int .i64 0] 47 (0, 0)) := by rw [hb1.block _ (Array.getElem?_eq_some_iff.1 hz).1]; exact hz
    obtain ⟨z0, z1⟩ := c2row hz1
    have hf := fun k => free_row hz1 k
    clear hb1 hz hA HGV
    go_wp2
    refine bodyPost_ret (res_tctt rfl (by kernel_rfl) (s2row hz1) Tryz.underlying47 rfl (by kernel_rfl) rfl rfl rfl) rfl ?_
    exact ⟨rfl, b2row hB1 (Nat.le_refl _)⟩
set_option maxRecDepth 100000 in
set_option maxHeartbeats 2000000 in
theorem rWidth_c {v : Value} (ls : List St.Pt) (w : World) (S : SlX w v ls) (hln : ls.length ≤ 140737488355328) : Calls Tryz.prog 40 #[v] w (Ret w (widV ls)) := by
  have HGV := Lib.hid (fun W (h : Below w.heap.size w W) => rGiven_c ls W (S.later h) hln)
  have hz := heap_alloc_new w (.cells #[.int .i64 0, .int .i64 0] 47)
  have hA := below_al w (.cells #[.int .i64 0, .int .i64 0] 47)
  obtain ⟨sa, cap, rfl⟩ := S.len
  by_cases h0 : St.givP ls = 0
  · obtain ⟨i1, i2, i3⟩ := St.givP_in h0
    have HL := Lib.hid (fun W (h : Below w.heap.size w W) => rLeast_c ls W (S.later h) i3 i1 i2)
    rw [show widV ls = _ from if_pos h0]
    rw [h0] at HGV
    generalize rtoa (bsQ ls (St.least ls)) = T at *
    generalize bsI (St.least ls) = xi at *
    generalize bsJ (St.least ls) = xj at *
    generalize bsF (St.least ls) = xf at *
    clear h0 i1 i2 i3 S hln
    go_enter Tryz.func40, Tryz.ntmps40
    go_wp2_with fail
    generalize w.alloc (.cells #[.int .i64 0, .int .i64 0] 47) = W1 at *
    ((with_reducible refine (HGV.out _ hA).mono ?_); rintro e w1 ⟨rfl, hb1⟩)
    have hB1 := hA.nx hb1
    have hz1 : w1.heap[w.heap.size]? = some (.cells #[.int .i64 0, .int .i64 0] 47 (0, 0)) := by rw [hb1.block _ (Array.getElem?_eq_some_iff.1 hz).1]; exact hz
    clear hb1 hz hA HGV
    go_wp2_with fail
    ((with_reducible refine (HL.out _ hB1).mono ?_); rintro e w2 ⟨rfl, hb2⟩)
    have hA2 := below_al w2 (.cells #[.int .i64 (xi : Int), .int .i64 (xj : Int)] 47)
    have hB2 := (hB1.nx hb2).nx hA2
    have hz2 : w2.heap[w.heap.size]? = some (.cells #[.int .i64 0, .int .i64 0] 47 (0, 0)) := by rw [hb2.block _ (Array.getElem?_eq_some_iff.1 hz1).1]; exact hz1
    have hz3 : (w2.alloc (.cells #[.int .i64 (xi : Int), .int .i64 (xj : Int)] 47)).heap[w.heap.size]? = some (.cells #[.int .i64 0, .int .i64 0] 47 (0, 0)) := by
      rw [hA2.block _ (Array.getElem?_eq_some_iff.1 hz2).1]; exact hz2
    have hx3 := heap_alloc_new w2 (.cells #[.int .i64 (xi : Int), .int .i64 (xj : Int)] 47)
    have hne : w.heap.size < w2.heap.size := (Array.getElem?_eq_some_iff.1 hz2).1
    clear hB1 hz1 hb2 hA2 hz2 HL
    go_wp2_with fail
    generalize w2.alloc (.cells #[.int .i64 (xi : Int), .int .i64 (xj : Int)] 47) = W3 at *
    obtain ⟨k0, k1⟩ := c2row hx3
    obtain ⟨z0, z1⟩ := c2row hz3
    have hf := fun k => free_row hz3 k
    have q1 : ¬ w2.heap.size = w.heap.size := by omega
    have q2 : ¬ w.heap.size = w2.heap.size := by omega
    go_region
    all_goals
      go_wp2
      refine bodyPost_ret (res_tctt rfl (by kernel_rfl) (s2rowd hz3) Tryz.underlying47 rfl (by kernel_rfl) rfl rfl rfl) rfl ?_
      exact ⟨rfl, (b2row hB2 (Nat.le_refl _)).drew⟩
  · rw [show widV ls = _ from if_neg h0]
    generalize St.givP ls = E at *
    have z : (E != 0) = true := bne_iff_ne.2 h0
    clear h0 S hln
    go_enter Tryz.func40, Tryz.ntmps40
    go_wp2_with fail
    generalize w.alloc (.cells #[.int .i64 0, .int .i64 0] 47) = W1 at *
    ((with_reducible refine (HGV.out _ hA).mono ?_); rintro e w1 ⟨rfl, hb1⟩)
    have hB1 := hA.nx hb1
    have hz1 : w1.heap[w.heap.size]? = some (.cells #[.int .i64 0, .int .i64 0] 47 (0, 0)) := by rw [hb1.block _ (Array.getElem?_eq_some_iff.1 hz).1]; exact hz
    obtain ⟨z0, z1⟩ := c2row hz1
    have hf := fun k => free_row hz1 k
    clear hb1 hz hA HGV
    go_wp2
    refine bodyPost_ret (res_tctt rfl (by kernel_rfl) (s2row hz1) Tryz.underlying47 rfl (by kernel_rfl) rfl rfl rfl) rfl ?_
    exact ⟨rfl, b2row hB1 (Nat.le_refl _)⟩
end Go.Proofs.Wk
