/- THE PROGRAM's ARITHMETIC: binomials, sums of lists. -/
import Derived.Test.YtcdjhgkeehhaaaaGreatDoorGK
import Derived.Laws.AppendOwn
import Derived.Laws.OwnMore
import Derived.Deep.AppendLies
namespace Go.Proofs.Wk
open Go.RowKit Mt

theorem choi_nat {n k : Nat} (h : k ≤ n) : choi n k = (cho n k : Int) := by unfold choi; rw [if_pos (by omega)]; rfl
theorem bino_err {n k : Int} (h : n < 0 ∨ 4096 < n) : bino n k = ([], 2) := by unfold bino; rw [if_pos h]
theorem bino_ok {n k : Int} (h : ¬ (n < 0 ∨ 4096 < n)) : bino n k = kept (choi n k) := by unfold bino; rw [if_neg h]
theorem choi_out {n k : Int} (h : k < 0 ∨ n < k) : choi n k = 0 := by unfold choi; rw [if_neg (by omega)]
theorem kept_zero : kept 0 = ([48], 0) := by rw [kept_small (by omega) (by omega), itoa_zero]
theorem big_le_words (k : Nat) (h : 1024 ≤ 9 * k) : big ≤ 1000000000 ^ k := by
  rw [← pow_words]
  unfold big
  exact Nat.pow_le_pow_right (by omega) (by rw [bigK_eq]; exact h)
theorem big_words2 {m : Nat} (h : 115 ≤ wlen m) : big ≤ m := by
  have h1 : ¬ wlen m ≤ 114 := by omega
  rw [wlen_le] at h1
  have h2 : big ≤ 1000000000 ^ 114 := big_le_words 114 (by omega)
  generalize 1000000000 ^ 114 = T at *
  omega
theorem wlen_int {m : Nat} (h : m < 1000000000) : wlen m ≤ 1 := (wlen_le 1 m).2 (by omega)
theorem lng_i64 {m : Int} (h0 : -9223372036854775808 ≤ m) (h1 : m ≤ 9223372036854775807) : lng m ≤ 19 := by
  unfold lng; exact dec_int64 (by omega)
theorem mul_4096 {C k : Nat} (hC : wlen C ≤ 114) (hk : k ≤ 4096) : C * k < wmax := by
  have h := (wlen_le 114 C).1 hC
  refine max_pow (k := 115) ?_ (by omega)
  rw [show (115 : Nat) = 114 + 1 from rfl, Nat.pow_succ]
  generalize 1000000000 ^ 114 = T at *
  have h1 : C * k ≤ T * 4096 := Nat.mul_le_mul (Nat.le_of_lt h) hk
  omega

end Go.Proofs.Wk
/- THE PROGRAM's ARITHMETIC: sums of lists. -/
namespace Go.Proofs.Wk
open Go.RowKit Mt

/-- A slice of texts. -/
def SlS (w : World) (v : Value) (ls : List Txt) : Prop := (∃ a c, v = .slice a 0 c ∧ ls = []) ∨ ∃ b off c, v = .slice (some ⟨b, off, none⟩) ls.length c ∧ RS w b off ls ∧ b < w.heap.size
theorem SlS.later {w w' : World} {v : Value} {ls : List Txt} (h : SlS w v ls) (hb : Below w.heap.size w w') : SlS w' v ls := by
  rcases h with h | ⟨b, off, c, rfl, hR, hl⟩
  · exact .inl h
  · exact .inr ⟨b, off, c, rfl, hR.later hb hl, Nat.lt_of_lt_of_le hl hb.size⟩
set_option maxRecDepth 100000 in
theorem all_e (a : Option Addr) (c : Nat) (w : World) : Calls Tryz.prog 37 #[.slice a 0 c] w (Pur w (.int .i64 0)) := by
  go_enter Tryz.func37, Tryz.ntmps37
  go_wp2
  go_loop [8] (fun s => s = .int .i64 0) (fun _ => 0)
  case atStart => rfl
  case round =>
    subst hrel
    go_wp2
    go_ret
    exact ⟨rfl, rfl⟩
theorem all_s {v : Value} (ls : List Txt) (w : World) (h : SlS w v ls) (hls : ls.length ≤ 140737488355328) (hlen : ∀ l ∈ ls, l.length ≤ 140737488355328) : Calls Tryz.prog 37 #[v] w (Ret w (.int .i64 (firstErr ls))) := by
  rcases h with ⟨a, c, rfl, rfl⟩ | ⟨b, off, c, rfl, hR, hl⟩
  · exact (all_e a c w).mono fun _ _ h => h.ret
  · exact all_c b off c ls w hls hlen hR hl
set_option maxRecDepth 100000 in
theorem sum_e (a : Option Addr) (c : Nat) (w : World) (hg : Good w) : Calls Tryz.prog 121 #[.slice a 0 c] w (Ret w (ans2 (kept 0))) := by
  have HG := Lib.hid hg
  clear hg
  go_enter Tryz.func121, Tryz.ntmps121
  go_wp2
  go_loop [11] (fun s => s = .int .i64 0) (fun _ => 0)
  case atStart => rfl
  case round =>
    subst hrel
    have hB : Below w.heap.size w (w.alloc (.cells Tryz.zeroCells160 160)) := (Below.refl _ _).alloc (Nat.le_refl _) _
    have HL := Lib.hid (limited_c w.heap.size false 0 _ (CW.zero w) (HG.out.later hB))
    go_wp2_with fail
    refine HL.out.mono ?_
    rintro e w1 ⟨rfl, hb1⟩
    go_wp2
    go_ret2
    exact ⟨rfl, hB.trans (hb1.mono hB.size)⟩
theorem sum_s {v : Value} (ns : List Int) (w : World) (h : SlS w v (ns.map Lib.itoa)) (hls : ns.length ≤ 1000000) (hlen : ∀ n ∈ ns, n.natAbs < big) (hg : Good w) : Calls Tryz.prog 121 #[v] w (Ret w (ans2 (kept ns.sum))) := by
  rcases h with ⟨a, c, rfl, e⟩ | ⟨b, off, c, rfl, hR, hl⟩
  · obtain rfl : ns = [] := List.map_eq_nil_iff.1 e
    exact sum_e a c w hg
  · rw [List.length_map]
    exact sum_c b off c ns w hls hlen hR hl hg

theorem SlS.len {w : World} {v : Value} {ls : List Txt} (h : SlS w v ls) : ∃ a c, v = .slice a ls.length c := by
  rcases h with ⟨a, c, rfl, rfl⟩ | ⟨b, off, c, rfl, _, _⟩
  · exact ⟨_, _, rfl⟩
  · exact ⟨_, _, rfl⟩
set_option maxRecDepth 100000 in
set_option maxHeartbeats 1000000 in
theorem wTotal_c {v : Value} (ls : List Txt) (w : World) (hg : Good w) (h : SlS w v ls) (hls : ls.length ≤ 140737488355328) (hlen : ∀ l ∈ ls, l.length ≤ 140737488355328) : Calls Tryz.prog 92 #[v] w (Ret w (ans2 (tot2 ls))) := by
  have HA := Lib.hid (fun W (hs : SlS W v ls) => all_s ls W hs hls hlen)
  have HS := Lib.hid h
  have HG := Lib.hid hg
  have hB0 := Below.refl w.heap.size w
  obtain ⟨a, c, rfl⟩ := h.len
  by_cases h1 : 4096 < ls.length
  · rw [show tot2 ls = ([], 5) by unfold tot2; rw [if_pos h1]]
    obtain ⟨n, hn⟩ : ∃ n, ls.length = n := ⟨_, rfl⟩
    have h1' : (4096 : Int) < (n : Int) := by omega
    rw [hn] at HA HS ⊢
    clear hn hg h hlen h1
    go_enter Tryz.func92, Tryz.ntmps92
    go_wp2
    go_ret2
    exact ⟨rfl, hB0⟩
  · by_cases h2 : firstErr ls = 0
    · rw [show tot2 ls = kept (ls.map val).sum by unfold tot2; rw [if_neg h1, if_pos h2]]
      have hz := firstErr_zero h2
      have HT := Lib.hid (fun W (hs : SlS W (.slice a ls.length c) ls) hG => sum_s (v := .slice a ls.length c) (ls.map val) W (by rw [map_val hz]; exact hs) (by rw [List.length_map]; omega) (map_val_big hz) hG)
      rw [h2] at HA
      obtain ⟨n, hn⟩ : ∃ n, ls.length = n := ⟨_, rfl⟩
      have h1' : ¬ (4096 : Int) < (n : Int) := by omega
      rw [hn] at HA HS HT ⊢
      clear hn hg h hlen hz h2 h1
      go_enter Tryz.func92, Tryz.ntmps92
      go_wp2_with fail
      refine (HA.out _ HS.out).mono ?_; rintro e w1 ⟨rfl, hb1⟩
      have hB1 := hB0.trans (hb1.mono hB0.size); clear hb1
      go_wp2_with fail
      refine (HT.out _ (HS.out.later hB1) (HG.out.later hB1)).mono ?_; rintro e w2 ⟨rfl, hb2⟩
      have hB2 := hB1.trans (hb2.mono hB1.size); clear hb2
      go_wp2
      go_ret2
      exact ⟨rfl, hB2⟩
    · rw [show tot2 ls = ([], firstErr ls) by unfold tot2; rw [if_neg h1, if_neg h2]]
      obtain ⟨n, hn⟩ : ∃ n, ls.length = n := ⟨_, rfl⟩
      obtain ⟨x, hx⟩ : ∃ x, firstErr ls = x := ⟨_, rfl⟩
      rw [hn] at HA HS ⊢
      rw [hx] at HA h2 ⊢
      have h3 := bne_ne h2
      have h1' : ¬ (4096 : Int) < (n : Int) := by omega
      clear hn hx hg h hlen h2 h1
      go_enter Tryz.func92, Tryz.ntmps92
      go_wp2_with fail
      refine (HA.out _ HS.out).mono ?_; rintro e w1 ⟨rfl, hb1⟩
      have hB1 := hB0.trans (hb1.mono hB0.size); clear hb1
      go_wp2
      go_ret2
      exact ⟨rfl, hB1⟩
end Go.Proofs.Wk
/- LISTS OF TEXTS THAT A CALL MAKES BY APPENDING. -/
namespace Go.Proofs.Wk
open Go.RowKit Mt

abbrev txt (l : Txt) : Value := .string ⟨l.toArray⟩
def OwT (e : TypeId) (w : World) (base : Nat) (v : Value) (ls : List Txt) : Prop := w.ownsRow base e 1 v ls.length (ls.map txt)
theorem OwT.nil (e : TypeId) (w : World) (base : Nat) : OwT e w base (.slice none 0 0) [] := World.ownsRow_nil w base e 1
theorem OwT.zero (e : TypeId) (w : World) : OwT e (w.alloc (.cells #[] e)) w.heap.size (.slice (some ⟨w.heap.size, 0, none⟩) 0 0) [] :=
  World.ownsRow_lit (base := w.heap.size) (e := e) (size := 1) w #[] 0 (Nat.le_refl _) (by decide) rfl
theorem OwT.one (e : TypeId) (w : World) (l : Txt) : OwT e (w.alloc (.cells #[txt l] e)) w.heap.size (.slice (some ⟨w.heap.size, 0, none⟩) 1 1) [l] :=
  World.ownsRow_lit (base := w.heap.size) (e := e) (size := 1) w #[txt l] 1 (Nat.le_refl _) (by decide) rfl
theorem OwT.later {e : TypeId} {w w' : World} {base : Nat} {v : Value} {ls : List Txt} (h : OwT e w base v ls) (hb : Below w.heap.size w w') : OwT e w' base v ls := by
  obtain ⟨h1, h2⟩ := h
  refine ⟨h1, ?_⟩
  rcases h2 with h2 | ⟨g, cap, cur, e1, e2, e3, e4⟩
  · exact .inl h2
  · exact .inr ⟨g, cap, cur, e1, e2, by rw [hb.block g (Array.getElem?_eq_some_iff.1 e3).1]; exact e3, e4⟩
theorem OwT.base {e : TypeId} {w : World} {b b' : Nat} {v : Value} {ls : List Txt} (h : OwT e w b v ls) (hb : b' ≤ b) : OwT e w b' v ls := by
  obtain ⟨h1, h2⟩ := h
  refine ⟨h1, ?_⟩
  rcases h2 with h2 | ⟨g, cap, cur, e1, e2, e3⟩
  · exact .inl h2
  · exact .inr ⟨g, cap, cur, e1, Nat.le_trans hb e2, e3⟩
theorem OwT.sl {e : TypeId} {w : World} {base : Nat} {v : Value} {ls : List Txt} (h : OwT e w base v ls) : SlS w v ls := by
  obtain ⟨h1, h2⟩ := h
  rcases h2 with ⟨rfl, h2⟩ | ⟨g, cap, cur, rfl, e2, e3, e4, e5, e6, e7⟩
  · exact .inl ⟨none, 0, rfl, List.length_eq_zero_iff.1 h2⟩
  · refine .inr ⟨g, 0, cap, rfl, fun j hj => ?_, (Array.getElem?_eq_some_iff.1 e3).1⟩
    rw [Nat.zero_add, cell_of_row w g j _ _ _ e3]
    have : (cur.toList.take (ls.length * 1))[j]? = (ls.map txt)[j]? := by rw [e7]
    rw [List.getElem?_take, if_pos (by omega)] at this
    simpa [hj] using this
theorem wpList_app_txt {P : Program} {w : World} {ops : Array Oper} {rest : List Oper} {o : Oper} {a : Act} {Q : Exit → Act → World → Prop} (hgd : o.guard = none) (s x : Operand) (t e : TypeId)
    (ho : o.op = .call { callee := .builtin .append, args := #[s, x], argTypes := #[t, t] }) (ht : P.underlying t = some (.slice e))
    (hi : (P.info? e).map (fun i => (i.zero, i.size, i.bytes)) = some (some (.string ⟨#[]⟩), 1, 16)) (base : Nat) (v : Value) (ls : List Txt) (hs : a.eval s = v) (hown : OwT e w base v ls)
    (b : Nat) (l : Txt) (hx : a.eval x = .slice (some ⟨b, 0, none⟩) 1 1) (hc : w.cell? ⟨b, 0, none⟩ = some (txt l)) (hn : ls.length ≤ 1000000) (hbase : base ≤ w.heap.size)
    (h : ∀ v' w', OwT e w' base v' (ls ++ [l]) → Below base w w' → wpList P ops Q rest (a.put o.dst v') w') : wpList P ops Q (o :: rest) a w := by
  obtain ⟨i0, hi0, hz0, hz1, hz2⟩ := info_parts hi
  refine wpList_append_own w hgd s x t ho base e i0 (.string ⟨#[]⟩) 1 16 ht hi0 hz0 hz1 hz2 rfl (by decide) v ls.length (ls.map txt) hs hown ⟨b, 0, none⟩ 1 1 [txt l] hx rfl ?_ ?_ ?_ ?_ hbase ?_
  · intro j u hu
    match j, hu with
    | 0, hu =>
      obtain rfl : txt l = u := Option.some.inj hu
      simpa [Addr.add] using hc
  · intro u hu
    rw [List.mem_singleton.1 hu]; rfl
  · unfold maxLen; omega
  · omega
  · intro v' w' h1 h2 _
    refine h v' w' ?_ ?_
    · unfold OwT
      rw [List.length_append, List.map_append]
      exact h1
    · refine ⟨h2.os, h2.tape, h2.output, h2.size, fun k hk => h2.block k (by omega) ?_⟩
      intro e1
      have := (World.ownsRow.lt hown k e1.symm).1
      omega
/-- The same for a region that draws its order. -/
theorem step_app_txt {P : Program} (w : World) {ops : Array Oper} {o : Oper} {a : Act} {K : Act → World → Prop} {Q : Exit → Act → World → Prop} {E : Prop} (hgd : o.guard = none) (s x : Operand) (t e : TypeId)
    (ho : o.op = .call { callee := .builtin .append, args := #[s, x], argTypes := #[t, t] }) (ht : P.underlying t = some (.slice e))
    (hi : (P.info? e).map (fun i => (i.zero, i.size, i.bytes)) = some (some (.string ⟨#[]⟩), 1, 16)) (base : Nat) (v : Value) (ls : List Txt) (hs : a.eval s = v) (hown : OwT e w base v ls)
    (b : Nat) (l : Txt) (hx : a.eval x = .slice (some ⟨b, 0, none⟩) 1 1) (hc : w.cell? ⟨b, 0, none⟩ = some (txt l)) (hn : ls.length ≤ 1000000) (hbase : base ≤ w.heap.size)
    (h : ∀ g cap w', OwT e w' base (.slice (some ⟨g, 0, none⟩) (ls.length + 1) cap) (ls ++ [l]) → Below base w w' → K (a.put o.dst (.slice (some ⟨g, 0, none⟩) (ls.length + 1) cap)) w') :
    if Region.wanted o (yielded ops a.tmps) = true then Oper.wp P o a w K Q else E := by
  obtain ⟨i0, hi0, hz0, hz1, hz2⟩ := info_parts hi
  refine step_append_lies w hgd s x t ho base e i0 (.string ⟨#[]⟩) 1 16 ht hi0 hz0 hz1 hz2 rfl (by decide) v ls.length (ls.map txt) hs hown ⟨b, 0, none⟩ 1 1 [txt l] hx rfl ?_ ?_ (by decide) ?_ ?_ hbase _ rfl ?_
  · intro j u hu
    match j, hu with
    | 0, hu =>
      obtain rfl : txt l = u := Option.some.inj hu
      simpa [Addr.add] using hc
  · intro u hu
    rw [List.mem_singleton.1 hu]; rfl
  · unfold maxLen; omega
  · omega
  · intro g cap w' h1 h2 _ _
    refine h g cap w' ?_ ?_
    · unfold OwT
      rw [List.length_append, List.map_append]
      exact h1
    · refine ⟨h2.os, h2.tape, h2.output, h2.size, fun k hk => h2.block k (by omega) ?_⟩
      intro e1
      have := (World.ownsRow.lt hown k e1.symm).1
      omega
end Go.Proofs.Wk
/- THE PROGRAM's ARITHMETIC AT INTEGERS: each function at the texts of integers whose results are short enough. -/
namespace Go.Proofs.Wk
open Go.RowKit Mt

theorem itoa_is {n : Int} {l : Txt} (hc : canon l = true) (hv : val l = n) : Lib.itoa n = l := by rw [← hv]; exact itoa_val hc
theorem kept_is {n : Int} {l : Txt} (hc : chk l = 0) (hv : val l = n) : kept n = (l, 0) := by
  have e := itoa_is (chk_zero.1 hc).1 hv
  rw [kept_chk, e, if_pos hc]
theorem bcell {W w1 : World} (hb : Below W.heap.size W w1) : (∀ b o, b < W.heap.size → w1.cell? ⟨b, o, none⟩ = W.cell? ⟨b, o, none⟩) ∧ (∀ b o, b < W.heap.size → w1.frozen? ⟨b, o, none⟩ = W.frozen? ⟨b, o, none⟩) :=
  ⟨fun b o h => hb.cell (p := ⟨b, o, none⟩) h, fun b o h => hb.frozen (p := ⟨b, o, none⟩) h⟩

theorem lng_big2 {m : Int} (h : lng m ≤ 1024) : m.natAbs < big := lng_big_iff.1 h
theorem txt_ok {m : Int} (h : lng m ≤ 1024) : (Lib.itoa m).length ≤ 140737488355328 := lng_txt (lng_big2 h)
theorem kept_lng {m : Int} (h : lng m ≤ 1024) : kept m = (Lib.itoa m, 0) := kept_lt (lng_big2 h)
theorem addI (m n : Int) (w : World) (hg : Good w) (hm : lng m ≤ 1024) (hn : lng n ≤ 1024) (h : lng (m + n) ≤ 1024) : Calls Tryz.prog 118 #[.string ⟨(Lib.itoa m).toArray⟩, .string ⟨(Lib.itoa n).toArray⟩] w (Ret w (ans2 (Lib.itoa (m + n), 0))) := by
  have := wAdd_c (Lib.itoa m) (Lib.itoa n) w hg (txt_ok hm) (txt_ok hn)
  rwa [bin2_itoa _ (lng_big2 hm) (lng_big2 hn), kept_lng h] at this
theorem subI (m n : Int) (w : World) (hg : Good w) (hm : lng m ≤ 1024) (hn : lng n ≤ 1024) (h : lng (m - n) ≤ 1024) : Calls Tryz.prog 86 #[.string ⟨(Lib.itoa m).toArray⟩, .string ⟨(Lib.itoa n).toArray⟩] w (Ret w (ans2 (Lib.itoa (m - n), 0))) := by
  have := wSub_c (Lib.itoa m) (Lib.itoa n) w hg (txt_ok hm) (txt_ok hn)
  rwa [bin2_itoa _ (lng_big2 hm) (lng_big2 hn), kept_lng h] at this
theorem mulI (m n : Int) (w : World) (hg : Good w) (hm : lng m ≤ 1024) (hn : lng n ≤ 1024) (h : lng (m * n) ≤ 1024) : Calls Tryz.prog 36 #[.string ⟨(Lib.itoa m).toArray⟩, .string ⟨(Lib.itoa n).toArray⟩] w (Ret w (ans2 (Lib.itoa (m * n), 0))) := by
  have := wMul_c (Lib.itoa m) (Lib.itoa n) w hg (txt_ok hm) (txt_ok hn)
  rwa [bin2_itoa _ (lng_big2 hm) (lng_big2 hn), kept_lng h] at this
theorem negI (m : Int) (w : World) (hm : lng m ≤ 1024) : Calls Tryz.prog 144 #[.string ⟨(Lib.itoa m).toArray⟩] w (Ret w (ans2 (Lib.itoa (-m), 0))) := by
  have := wNeg_c (Lib.itoa m) w (txt_ok hm)
  rwa [un1_itoa _ (lng_big2 hm)] at this
theorem quoI (m n : Int) (w : World) (hg : Good w) (hm : lng m ≤ 1024) (hn : lng n ≤ 1024) (h : n ≠ 0) : Calls Tryz.prog 117 #[.string ⟨(Lib.itoa m).toArray⟩, .string ⟨(Lib.itoa n).toArray⟩] w (Ret w (ans2 (Lib.itoa (m.fdiv n), 0))) := by
  have := wQuo_c (Lib.itoa m) (Lib.itoa n) w hg (txt_ok hm) (txt_ok hn)
  rw [bin2_itoa _ (lng_big2 hm) (lng_big2 hn)] at this
  unfold quo2 at this
  rwa [if_neg h] at this
theorem gcdI (m n : Int) (w : World) (hg : Good w) (hm : lng m ≤ 1024) (hn : lng n ≤ 1024) : Calls Tryz.prog 59 #[.string ⟨(Lib.itoa m).toArray⟩, .string ⟨(Lib.itoa n).toArray⟩] w (Ret w (ans2 (Lib.itoa (Int.gcd m n), 0))) := gcd_ok m n w hg (lng_big2 hm) (lng_big2 hn)
theorem signI (m : Int) (w : World) (hm : lng m ≤ 1024) : Calls Tryz.prog 169 #[.string ⟨(Lib.itoa m).toArray⟩] w (Ret w (int2 (sgn m, 0))) := by
  have := wSign_c (Lib.itoa m) w (txt_ok hm)
  rwa [un2_itoa _ (lng_big2 hm)] at this
theorem cmpI (m n : Int) (w : World) (hm : lng m ≤ 1024) (hn : lng n ≤ 1024) : Calls Tryz.prog 20 #[.string ⟨(Lib.itoa m).toArray⟩, .string ⟨(Lib.itoa n).toArray⟩] w (Ret w (int2 (cmp m n, 0))) := by
  have := wCompare_c (Lib.itoa m) (Lib.itoa n) w (txt_ok hm) (txt_ok hn)
  rwa [bin2i_itoa _ (lng_big2 hm) (lng_big2 hn)] at this
theorem chkI (m : Int) (w : World) (hm : lng m ≤ 1024) : Calls Tryz.prog 58 #[.string ⟨(Lib.itoa m).toArray⟩] w (Ret w (.int .i64 0)) := by
  have := wCheck_c (Lib.itoa m) w (txt_ok hm)
  rwa [chk_ok (lng_big2 hm)] at this
theorem lng_sub (m n : Int) {k : Nat} (hm : lng m ≤ k) (hn : lng n ≤ k) : lng (m - n) ≤ k + 1 := by
  rw [Int.sub_eq_add_neg]; exact lng_add m (-n) hm (by rw [lng_neg]; exact hn)
theorem cmp_sub (m n : Int) : cmp m n = sgn (m - n) := by
  have A := cmp_spec m n
  have B := cmp_spec (m - n) 0
  unfold sgn
  omega
end Go.Proofs.Wk
