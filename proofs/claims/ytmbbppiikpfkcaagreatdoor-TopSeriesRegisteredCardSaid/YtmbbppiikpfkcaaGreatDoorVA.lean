/- A SERIES OF PARTS IN A REGISTER: plain laws. -/
import Derived.Test.YtmbbppiikpfkcaaGreatDoorKA
import Derived.Maps.RangeWalk
import Derived.Maps.AppendAt
import Derived.Maps.OwnOps
namespace Rg
open Go Go.Op Go.Lib

/-- The kind of a part's entry: passed or rejected by limits. -/
def serK (lo hi v : Int) : Int := if v < lo ∨ hi < v then 2 else 1
def serB (lo hi : Int) : List Int → Int
  | [] => 0
  | v :: l => (if v < lo ∨ hi < v then 1 else 0) + serB lo hi l
def serM (lo hi : Int) (l : List Int) : List En := l.map fun v => ⟨serK lo hi v, [97], 1⟩
def serE (lo hi : Int) (l : List Int) : List En := ⟨0, [97], l.length⟩ :: serM lo hi l ++ [⟨5, [97], 0⟩]
theorem serB_bd (lo hi : Int) : ∀ l : List Int, 0 ≤ serB lo hi l ∧ serB lo hi l ≤ l.length
  | [] => by simp [serB]
  | v :: l => by
    have := serB_bd lo hi l
    unfold serB
    rw [List.length_cons]
    split <;> omega
theorem nameE_a : nameE [97] = 0 := by decide
theorem right_m {lo hi v : Int} : rightE ⟨serK lo hi v, [97], 1⟩ = 0 := by
  rw [rightE_iff]
  unfold serK
  refine ⟨?_, nameE_a, ?_, ?_⟩ <;> simp only <;> split <;> omega
def serL (n g b c s : Int) : Lt := ⟨[97], n, g, b, c, 0, s⟩
theorem pos_a (x : Lt) (h : x.nm = [97]) : pos [x] [97] = 0 := by
  unfold pos
  rw [h, less_irrefl]
  simp
theorem has_a (x : Lt) (h : x.nm = [97]) : has [x] [97] = true := by
  unfold has
  simp [h]
theorem done_a {x : Lt} (hx : x.nm = [97]) {k n : Int} (hk : k ≠ 0) (h : (changed x ⟨k, [97], n⟩).2 = 0) : doneL [x] ⟨k, [97], n⟩ = ([(changed x ⟨k, [97], n⟩).1], 0) := by
  unfold doneL
  simp only
  rw [if_neg hk, pos_a x hx]
  simp only [List.getElem?_cons_zero]
  rw [if_pos (has_a x hx), if_neg (by rw [h]; simp)]
  simp
/-- The register behind the first parts. -/
theorem all_m (lo hi n : Int) : ∀ (l : List Int) (g b : Int) (i : Nat), 0 ≤ g → 0 ≤ b → g + b + l.length ≤ n → ∀ es, allF [serL n g b 0 0] i (serM lo hi l ++ es) = allF [serL n (g + (l.length - serB lo hi l)) (b + serB lo hi l) 0 0] (i + l.length) es
  | [], g, b, i, _, _, _, es => by simp [serM, serB]
  | v :: l, g, b, i, hg, hb, h, es => by
    rw [List.length_cons] at h
    have hc : changed (serL n g b 0 0) ⟨serK lo hi v, [97], 1⟩ = (if v < lo ∨ hi < v then serL n g (b + 1) 0 0 else serL n (g + 1) b 0 0, 0) := by
      unfold changed serK serL left
      by_cases q : v < lo ∨ hi < v
      · simp only [if_pos q]
        rw [if_pos (by simp), if_neg (by simp), if_neg (by omega), if_neg (by decide)]
      · simp only [if_neg q]
        rw [if_pos (by simp), if_neg (by simp), if_neg (by omega), if_pos trivial]
    have hk : serK lo hi v ≠ 0 := by unfold serK; split <;> omega
    show allF [serL n g b 0 0] i (⟨serK lo hi v, [97], 1⟩ :: (serM lo hi l ++ es)) = _
    rw [allF, if_neg (by rw [right_m]; simp), done_a rfl hk (by rw [hc]), if_neg (by simp), hc]
    simp only
    by_cases q : v < lo ∨ hi < v
    · rw [if_pos q, all_m lo hi n l g (b + 1) (i + 1) hg (by omega) (by omega)]
      simp only [serB, if_pos q, List.length_cons]
      rw [show g + (((l.length + 1 : Nat) : Int) - (1 + serB lo hi l)) = g + ((l.length : Int) - serB lo hi l) by omega, show b + (1 + serB lo hi l) = b + 1 + serB lo hi l by omega, show i + (l.length + 1) = i + 1 + l.length by omega]
    · rw [if_neg q, all_m lo hi n l (g + 1) b (i + 1) (by omega) hb (by omega)]
      simp only [serB, if_neg q, List.length_cons]
      rw [show g + (((l.length + 1 : Nat) : Int) - (0 + serB lo hi l)) = g + 1 + ((l.length : Int) - serB lo hi l) by omega, show b + (0 + serB lo hi l) = b + serB lo hi l by omega, show i + (l.length + 1) = i + 1 + l.length by omega]
theorem ser_len (lo hi : Int) (l : List Int) : (serE lo hi l).length = l.length + 2 := by
  unfold serE serM
  simp
/-- The register of the whole series. -/
theorem all_ser (lo hi : Int) (l : List Int) (h1 : 1 ≤ l.length) (h16 : l.length ≤ 16) : allL (serE lo hi l) = ([serL l.length (l.length - serB lo hi l) (serB lo hi l) 0 1], 0, 0) := by
  have hb := serB_bd lo hi l
  have hr0 : rightE ⟨0, [97], l.length⟩ = 0 := by
    rw [rightE_iff]
    exact ⟨by simp, nameE_a, by simp, fun _ => by simp only; omega⟩
  have hr5 : rightE ⟨5, [97], 0⟩ = 0 := by
    rw [rightE_iff]
    exact ⟨by simp, nameE_a, by simp, by simp⟩
  unfold allL
  rw [if_neg (by rw [ser_len]; omega)]
  show allF [] 0 (⟨0, [97], l.length⟩ :: (serM lo hi l ++ [⟨5, [97], 0⟩])) = _
  have hd : doneL [] ⟨0, [97], l.length⟩ = ([serL l.length 0 0 0 0], 0) := by
    unfold doneL
    simp [has, pos, newLot, serL]
  rw [allF, if_neg (by rw [hr0]; simp), hd, if_neg (by simp)]
  simp only
  rw [all_m lo hi l.length l 0 0 (0 + 1) (by omega) (by omega) (by omega)]
  have hc : changed (serL l.length (0 + ((l.length : Int) - serB lo hi l)) (0 + serB lo hi l) 0 0) ⟨5, [97], 0⟩ = (serL l.length (l.length - serB lo hi l) (serB lo hi l) 0 1, 0) := by
    unfold changed serL left
    simp only
    rw [if_neg (by omega), if_neg (by omega), if_pos trivial, if_neg (by simp), if_neg (by omega)]
    simp
  rw [allF, if_neg (by rw [hr5]; simp), done_a rfl (by decide) (by rw [hc]), if_neg (by simp), hc]
  rfl
theorem chk_ser {n g b c s : Int} (h : lotE (serL n g b c s) = 0) : chkE [serL n g b c s] = 0 := by
  rw [chkE_iff]
  refine ⟨by simp, fun x hx => ?_, by simp [Srt]⟩
  rw [List.mem_singleton.1 hx]
  exact ⟨nameE_a, h⟩
theorem lot_ser {n g b c s : Int} (hn : 1 ≤ n ∧ n ≤ 16) (hg : 0 ≤ g) (hb : 0 ≤ b) (hc : 0 ≤ c) (hs : 0 ≤ s ∧ s ≤ 2) (h : g + b + c = n) (h2 : s = 2 → b = 0) : lotE (serL n g b c s) = 0 := by
  rw [lotE_iff]
  unfold left serL
  simp only
  refine ⟨by omega, by omega, by omega, by omega, by omega, by omega, by omega, by omega, ?_⟩
  by_cases q : s = 2
  · right; have := h2 q; omega
  · left; exact q
/-- A closed lot is shipped if nothing is rejected. -/
theorem ship_ok {n g c : Int} (hn : 1 ≤ n ∧ n ≤ 16) (hg : 0 ≤ g) (hc : 0 ≤ c) (h : g + c = n) : doL [serL n g 0 c 1] ⟨6, [97], 0⟩ = ([serL n g 0 c 2], 0) := by
  unfold doL
  have hr : rightE ⟨6, [97], 0⟩ = 0 := by
    rw [rightE_iff]
    exact ⟨by simp, nameE_a, by simp, by simp⟩
  rw [if_neg (by rw [chk_ser (lot_ser hn hg (Int.le_refl 0) hc (by omega) (by omega) (by omega))]; simp), if_neg (by rw [hr]; simp)]
  have hch : changed (serL n g 0 c 1) ⟨6, [97], 0⟩ = (serL n g 0 c 2, 0) := by
    unfold changed serL
    simp
  rw [done_a rfl (by decide) (by rw [hch]), hch]
theorem ship_no {n g b : Int} (hn : 1 ≤ n ∧ n ≤ 16) (hg : 0 ≤ g) (hb : 0 < b) (h : g + b = n) : doL [serL n g b 0 1] ⟨6, [97], 0⟩ = ([], 16) := by
  unfold doL
  have hr : rightE ⟨6, [97], 0⟩ = 0 := by
    rw [rightE_iff]
    exact ⟨by simp, nameE_a, by simp, by simp⟩
  rw [if_neg (by rw [chk_ser (lot_ser hn hg (by omega) (Int.le_refl 0) (by omega) (by omega) (by omega))]; simp), if_neg (by rw [hr]; simp)]
  have hch : (changed (serL n g b 0 1) ⟨6, [97], 0⟩).2 = 16 := by
    unfold changed serL
    simp [hb]
  unfold doneL
  simp only
  rw [if_neg (by decide), pos_a _ rfl]
  simp only [List.getElem?_cons_zero]
  rw [if_pos (has_a _ rfl), if_pos (by rw [hch]; decide), hch]
theorem concede_ok {n g b : Int} (hn : 1 ≤ n ∧ n ≤ 16) (hg : 0 ≤ g) (hb : 0 < b) (h : g + b = n) : doL [serL n g b 0 1] ⟨3, [97], b⟩ = ([serL n g 0 b 1], 0) := by
  unfold doL
  have hr : rightE ⟨3, [97], b⟩ = 0 := by
    rw [rightE_iff]
    exact ⟨by simp, nameE_a, by simp, fun _ => by simp only; omega⟩
  rw [if_neg (by rw [chk_ser (lot_ser hn hg (by omega) (Int.le_refl 0) (by omega) (by omega) (by omega))]; simp), if_neg (by rw [hr]; simp)]
  have hch : changed (serL n g b 0 1) ⟨3, [97], b⟩ = (serL n g 0 b 1, 0) := by
    unfold changed serL
    simp
  rw [done_a rfl (by decide) (by rw [hch]), hch]
end Rg
/- A SERIES OF VALUES AND ITS DISTRIBUTION: plain laws. -/
namespace Rg

/-- How often a value comes. -/
def cntL (l : List Int) (v : Int) : Int := (l.countP (· == v) : Nat)
theorem cnt_cons (x : Int) (l : List Int) (v : Int) : cntL (x :: l) v = cntL l v + (if v = x then 1 else 0) := by
  unfold cntL
  rw [List.countP_cons]
  by_cases h : v = x
  · subst h; simp
  · rw [if_neg (by simpa using fun e => h e.symm), if_neg h]; simp
theorem sum_one (f : Int → Int) (x : Int) : ∀ ks : List Int, ks.Nodup → x ∈ ks → (ks.map fun k => f k * (if k = x then 1 else 0)).sum = f x
  | [], _, h => by simp at h
  | k :: ks, hn, h => by
    rw [List.nodup_cons] at hn
    rw [List.map_cons, List.sum_cons]
    by_cases e : k = x
    · subst e
      have hz : (ks.map fun j => f j * (if j = k then 1 else 0)).sum = 0 := by
        have : ∀ js : List Int, k ∉ js → (js.map fun j => f j * (if j = k then 1 else 0)).sum = 0 := fun js => by
          induction js with
          | nil => intro _; rfl
          | cons j js ih =>
            intro hj
            rw [List.mem_cons, not_or] at hj
            rw [List.map_cons, List.sum_cons, ih hj.2, if_neg (fun e => hj.1 e.symm)]
            simp
        exact this ks hn.1
      rw [hz, if_pos rfl]
      omega
    · rw [if_neg e, sum_one f x ks hn.2 ((List.mem_cons.1 h).resolve_left fun q => e q.symm)]
      omega
theorem sum_add (g h : Int → Int) : ∀ ks : List Int, (ks.map fun k => g k + h k).sum = (ks.map g).sum + (ks.map h).sum
  | [] => rfl
  | k :: ks => by
    rw [List.map_cons, List.map_cons, List.map_cons, List.sum_cons, List.sum_cons, List.sum_cons, sum_add g h ks]
    omega
/-- A sum over the values is one over the different ones, each as often as it comes. -/
theorem sum_cnt (ks : List Int) (hn : ks.Nodup) (f : Int → Int) : ∀ l : List Int, (∀ x ∈ l, x ∈ ks) → (ks.map fun k => f k * cntL l k).sum = (l.map f).sum
  | [], _ => by
    have : ∀ js : List Int, (js.map fun k => f k * cntL [] k).sum = 0 := fun js => by
      induction js with
      | nil => rfl
      | cons j js ih => rw [List.map_cons, List.sum_cons, ih]; simp [cntL]
    rw [this]; rfl
  | x :: l, h => by
    have e : (fun k => f k * cntL (x :: l) k) = fun k => f k * cntL l k + f k * (if k = x then 1 else 0) := by
      funext k
      rw [cnt_cons, Int.mul_add]
    rw [e, sum_add, sum_cnt ks hn f l (fun y hy => h y (by simp [hy])), sum_one f x ks hn (h x (by simp)), List.map_cons, List.sum_cons]
    omega
/-- Whether a value is within limits, as a number. -/
def inL (lo hi v : Int) : Int := if v < lo ∨ hi < v then 0 else 1
theorem sum_in (lo hi : Int) : ∀ l : List Int, (l.map (inL lo hi)).sum = l.length - serB lo hi l
  | [] => rfl
  | v :: l => by
    rw [List.map_cons, List.sum_cons, sum_in lo hi l, List.length_cons]
    unfold inL
    simp only [serB]
    split <;> omega
theorem sum_all : ∀ l : List Int, (l.map fun _ => (1 : Int)).sum = l.length
  | [] => rfl
  | v :: l => by
    rw [List.map_cons, List.sum_cons, sum_all l, List.length_cons]
    omega
/-- An element of a distribution. -/
structure Wd where
  v : Int
  w : Int
/-- A list is the distribution of a series. -/
structure IsD (l : List Int) (ds : List Wd) : Prop where
  srt : ds.Pairwise fun a b => a.v < b.v
  cnt : ∀ a ∈ ds, a.w = cntL l a.v ∧ a.v ∈ l
  all : ∀ x ∈ l, ∃ a ∈ ds, a.v = x
theorem IsD.keys {l : List Int} {ds : List Wd} (h : IsD l ds) : (ds.map Wd.v).Nodup := by
  rw [List.nodup_iff_pairwise_ne, List.pairwise_map]
  exact h.srt.imp fun q => Int.ne_of_lt q
theorem IsD.sum {l : List Int} {ds : List Wd} (h : IsD l ds) (f : Int → Int) : (ds.map fun a => f a.v * a.w).sum = (l.map f).sum := by
  rw [← sum_cnt (ds.map Wd.v) h.keys f l (fun x hx => by obtain ⟨a, ha, rfl⟩ := h.all x hx; exact List.mem_map.2 ⟨a, ha, rfl⟩), List.map_map]
  congr 1
  refine List.map_congr_left fun a ha => ?_
  show f a.v * a.w = f a.v * cntL l a.v
  rw [(h.cnt a ha).1]
theorem IsD.len {l : List Int} {ds : List Wd} (h : IsD l ds) : ds.length ≤ l.length := by
  have h1 := h.keys
  have h2 : ∀ x ∈ ds.map Wd.v, x ∈ l := fun x hx => by
    obtain ⟨a, ha, rfl⟩ := List.mem_map.1 hx
    exact (h.cnt a ha).2
  have := List.Nodup.length_le_of_subset h1 h2
  rwa [List.length_map] at this
theorem IsD.pos {l : List Int} {ds : List Wd} (h : IsD l ds) {a : Wd} (ha : a ∈ ds) : 1 ≤ a.w ∧ a.w ≤ l.length := by
  obtain ⟨h1, h2⟩ := h.cnt a ha
  rw [h1]
  unfold cntL
  have h3 : 0 < l.countP (· == a.v) := List.countP_pos_iff.2 ⟨a.v, h2, by simp⟩
  have h4 := List.countP_le_length (p := (· == a.v)) (l := l)
  omega
/-- The probability's two sums. -/
theorem IsD.within {l : List Int} {ds : List Wd} (h : IsD l ds) (lo hi : Int) : (ds.map fun a => inL lo hi a.v * a.w).sum = l.length - serB lo hi l := by
  rw [h.sum, sum_in]
theorem IsD.total {l : List Int} {ds : List Wd} (h : IsD l ds) : (ds.map Wd.w).sum = l.length := by
  have := h.sum fun _ => 1
  rw [sum_all] at this
  rw [← this]
  congr 1
  exact List.map_congr_left fun a _ => by simp
end Rg
/- A MAP OF SLICES, EACH OF WHICH HOLDS ONE VALUE AGAIN AND AGAIN: laws at the operations. -/
namespace Go.Proofs.Wk
open Go Go.RowKit Go.ChangeMaps Go.MapKept
open Go.WideElems (Fit rd rg pl rd_val)
open Go.Maps (Keyed)

/-- How long a slice is. -/
def slen : Value → Nat
  | .slice _ n _ => n
  | _ => 0
/-- A slice of the call's own that holds a value again and again. -/
def Rep (w : World) (base : Nat) (e : TypeId) (c v : Value) : Prop := w.ownsRow base e 1 v (slen v) (List.replicate (slen v) c)
section
variable {w : World} {base : Nat} {e : TypeId} {c v : Value}
theorem Rep.nil (w : World) (base : Nat) (e : TypeId) (c : Value) : Rep w base e c (.slice none 0 0) := World.ownsRow_nil _ _ _ _
theorem Rep.kept {w' : World} {row : Option Nat} (h : Rep w base e c v) (hg : w.grownBy w' row) (hne : v.ownBlock = none ∨ v.ownBlock ≠ row) : Rep w' base e c v := World.ownsRow.kept h hg hne
theorem Rep.shape (h : Rep w base e c v) : v = .slice none 0 0 ∨ ∃ g n cap, v = .slice (some ⟨g, 0, none⟩) n cap ∧ base ≤ g ∧ g < w.heap.size ∧ ∀ j, j < n → w.cell? ⟨g, j, none⟩ = some c := by
  rcases h.2 with ⟨e1, _⟩ | ⟨g, cap, cur, e1, hb, hg, h1, _⟩
  · exact .inl e1
  · refine .inr ⟨g, slen v, cap, e1, hb, (Array.getElem?_eq_some_iff.1 hg).1, fun j hj => ?_⟩
    have hj' := World.ownsRow.cells h (g := g) (by rw [e1]; rfl) j c (by rw [List.getElem?_replicate, if_pos hj])
    rwa [Addr.add_lit, Nat.zero_add] at hj'
open Classical in
/-- How it reads: as its length. -/
noncomputable def repR (w : World) (base : Nat) (e : TypeId) (c v : Value) : Option (DataW Unit × List MemPlace) := if Rep w base e c v then some (.lit (.int .i64 (slen v)), []) else none
theorem repR_mk (h : Rep w base e c v) : repR w base e c v = some (.lit (.int .i64 (slen v)), []) := by unfold repR; rw [if_pos h]
theorem repR_inv {z : DataW Unit × List MemPlace} (h : repR w base e c v = some z) : Rep w base e c v ∧ z = (.lit (.int .i64 (slen v)), []) := by
  unfold repR at h
  split at h
  · exact ⟨by assumption, (Option.some.inj h).symm⟩
  · cases h
end
/-- Block b is a map of at most n entries, each of which is such a slice with at most n elements; no two lie in one row. -/
def MapR (w : World) (P : Program) (k : TypeId) (base : Nat) (e : TypeId) (c : Value) (b n : Nat) (D : DataW Unit) : Prop :=
  ∃ es clock, w.heap[b]? = some (.map es clock) ∧ Fit P k (repR w base e c) es clock ∧ es.size ≤ n ∧ D = .map ((es.toList.map (rg P k (repR w base e c))).foldr DataW.insert []) ∧ b < base ∧
    (∀ x ∈ es.toList, slen x.val ≤ n) ∧ ∀ x ∈ es.toList, ∀ y ∈ es.toList, x.key ≠ y.key → x.val.ownBlock = none ∨ x.val.ownBlock ≠ y.val.ownBlock
/-- The way back: a store at the key restores the relation. -/
def MapRB (w : World) (P : Program) (t k : TypeId) (base : Nat) (e : TypeId) (c : Value) (b n : Nat) (D : DataW Unit) (key : Value) (kl : Lit) (v : Value) : Prop :=
  ∀ (w1 : World) (u : Value), w.grownBy w1 v.ownBlock → Rep w1 base e c u → slen u ≤ n + 1 → (u.ownBlock = v.ownBlock ∨ ∃ g, u.ownBlock = some g ∧ w.heap.size ≤ g) →
    ∃ w2, (Instr.mapUpdate t (.map (some b)) key u).run P w1 = .ok () w2 ∧ MapR w2 P k base e c b (n + 1) (D.put kl (.lit (.int .i64 (slen u)))) ∧ w1.grownBy w2 (some b)
section
variable {P : Program} {k : TypeId} {w : World} {base : Nat} {e : TypeId} {c : Value} {b n : Nat} {D : DataW Unit}
theorem MapR.made (w : World) (P : Program) (k e : TypeId) (c : Value) : MapR (w.alloc (.map #[] 0)) P k (w.heap.size + 1) e c w.heap.size 0 (.map []) :=
  ⟨#[], 0, (MapKept.heap_alloc w _).1, ⟨by simp, stamped_empty 0, by simp⟩, Nat.le_refl _, rfl, Nat.lt_succ_self _, by simp, by simp⟩
theorem MapR.owns (h : MapR w P k base e c b n D) : w.ownsMap P k (repR w base e c) b n D := by
  obtain ⟨es, clock, hb, F, hs, hD, _⟩ := h
  exact ⟨es, clock, hb, F, hs, hD⟩
theorem rep_back {t E : TypeId} {es : Array MapEntry} {clock : Nat} {key v : Value} {kl : Lit} (K : Keyed P k) (ht : P.underlying t = some (.map k E)) (hb : w.heap[b]? = some (.map es clock)) (F : Fit P k (repR w base e c) es clock)
    (hs : es.size ≤ n) (hn : n < maxLen) (hbb : b < base) (hlen : ∀ x ∈ es.toList, slen x.val ≤ n) (hap : ∀ x ∈ es.toList, ∀ y ∈ es.toList, x.key ≠ y.key → x.val.ownBlock = none ∨ x.val.ownBlock ≠ y.val.ownBlock)
    (hkey : keyOf P k key = some kl) (hv : ∀ x ∈ es.toList, x.key ≠ key → x.val.ownBlock = none ∨ x.val.ownBlock ≠ v.ownBlock) (hvb : v.ownBlock ≠ some b) :
    MapRB w P t k base e c b n (.map ((es.toList.map (rg P k (repR w base e c))).foldr DataW.insert [])) key kl v := by
  intro w1 u hg hu hl hloc
  have hblt : b < w.heap.size := (Array.getElem?_eq_some_iff.1 hb).1
  have hb1 : w1.heap[b]? = some (.map es clock) := (hg.block b hblt (fun q => hvb q.symm)).trans hb
  have owned : ∀ x ∈ es.toList, Rep w base e c x.val := fun x hx => by
    obtain ⟨y, hy⟩ := F.reads x hx
    obtain ⟨z, hz, _⟩ := rd_val hy
    exact (repR_inv hz).1
  obtain ⟨es', clock', hrun, F', hput, _, _, hwho⟩ := Maps.fit_store (R' := repR w1 base e c) K ht hb1 F (Nat.lt_of_le_of_lt hs hn) (fun x hx hne z hz => by
    obtain ⟨ho, rfl⟩ := repR_inv hz
    exact repR_mk (ho.kept hg (hv x hx hne))) hkey (repR_mk hu)
  have hg2 : w1.grownBy (setBlock w1 b (.map es' clock')) (some b) := ⟨rfl, rfl, rfl, by simp [setBlock], fun i _ hi => heap_setBlock_other hb1 _ (fun q => hi (by rw [q]))⟩
  have own_ne : ∀ {u : Value}, Rep w1 base e c u → u.ownBlock = none ∨ u.ownBlock ≠ some b := fun {u} ho => by
    cases hq : u.ownBlock with
    | none => exact Or.inl rfl
    | some g =>
      refine Or.inr fun q => ?_
      have := (World.ownsRow.lt ho g hq).1
      cases q
      omega
  obtain ⟨F2, hmap2, _⟩ := F'.stay (R' := repR (setBlock w1 b (.map es' clock')) base e c) fun x _ z hz => by
    obtain ⟨ho, rfl⟩ := repR_inv hz
    exact repR_mk (ho.kept hg2 (own_ne ho))
  have apart : ∀ x ∈ es.toList, x.key ≠ key → x.val.ownBlock = none ∨ x.val.ownBlock ≠ u.ownBlock := fun x hx hne => by
    rcases hloc with q | ⟨g, q1, q2⟩
    · rw [q]
      exact hv x hx hne
    · cases hq : x.val.ownBlock with
      | none => exact Or.inl rfl
      | some gx =>
        have := (World.ownsRow.lt (owned x hx) gx hq).2
        refine Or.inr fun q => ?_
        rw [q1] at q
        cases q
        omega
  refine ⟨_, hrun, ⟨es', clock', heap_setBlock_same hb1 _, F2, ?_, ?_, hbb, ?_, ?_⟩, hg2⟩
  · have e1 : es'.size = ((es'.toList.map (rg P k (repR w1 base e c))).foldr DataW.insert []).length := by rw [length_sorted]; simp
    rw [e1, hput]
    unfold putKey
    rw [length_insert]
    have e2 := List.length_filter_le (notKey kl) ((es.toList.map (rg P k (repR w base e c))).foldr DataW.insert [])
    rw [length_sorted] at e2
    simp at e2
    omega
  · rw [hmap2, DataW.put_eq, hput]
  · intro x hx
    rcases hwho x hx with ⟨hx0, _⟩ | ⟨_, q⟩
    · exact Nat.le_succ_of_le (hlen x hx0)
    · rw [q]; exact hl
  · intro x hx y hy hne
    rcases hwho x hx with ⟨hx0, hxk⟩ | ⟨hxk, hxv⟩ <;> rcases hwho y hy with ⟨hy0, hyk⟩ | ⟨hyk, hyv⟩
    · exact hap x hx0 y hy0 hne
    · rw [hyv]; exact apart x hx0 hxk
    · rw [hxv]
      rcases apart y hy0 hyk with q | q
      · rw [q]
        cases u.ownBlock <;> simp
      · exact Or.inr fun q2 => q q2.symm
    · exact absurd (hxk.trans hyk.symm) hne
theorem MapR.at {t E : TypeId} {key : Value} {kl : Lit} (h : MapR w P k base e c b n D) (K : Keyed P k) (ht : P.underlying t = some (.map k E)) (hz : (zeroValue E).run P w = .ok (.slice none 0 0) w) (hn : n < maxLen) (hkey : keyOf P k key = some kl) :
    ∃ v, (Instr.lookup t (.map (some b)) key false).run P w = .ok v w ∧ D.atKey kl (.lit (.int .i64 0)) = .lit (.int .i64 (slen v)) ∧ Rep w base e c v ∧ slen v ≤ n ∧ MapRB w P t k base e c b n D key kl v := by
  obtain ⟨es, clock, hb, F, hs, rfl, hbb, hlen, hap⟩ := h
  rcases Maps.fit_look false K ht hz hb F hkey with ⟨hrun, _, hat⟩ | ⟨e0, y, hm0, h3, hrun, hR, hat, _⟩
  · refine ⟨.slice none 0 0, hrun, hat _, Rep.nil _ _ _ _, Nat.zero_le _, rep_back K ht hb F hs hn hbb hlen hap hkey (fun x _ _ => ?_) (by simp [Value.ownBlock])⟩
    cases x.val.ownBlock <;> simp [Value.ownBlock]
  · obtain ⟨ho, rfl⟩ := repR_inv hR
    refine ⟨e0.val, hrun, hat _, ho, hlen e0 hm0, rep_back K ht hb F hs hn hbb hlen hap hkey (fun x hx hne => hap x hx e0 hm0 (by rw [h3]; exact hne)) fun q => ?_⟩
    have := (World.ownsRow.lt ho b q).1
    omega
end
/-- The look-up, for the walk. -/
theorem wpList_look_rep {P : Program} (w : World) {ops : Array Oper} {rest : List Oper} {o : Oper} {a : Act} {Q : Exit → Act → World → Prop} (hg : o.guard = none) (m x : Operand) (t : TypeId) (hop : o.op = Op.lookup t m x false)
    (k E e : TypeId) (c : Value) (K : Keyed P k) (ht : P.underlying t = some (.map k E)) (hz : (zeroValue E).run P w = .ok (.slice none 0 0) w) (base b n : Nat) (D : DataW Unit)
    (hm : a.eval m = .map (some b)) (hown : MapR w P k base e c b n D) (hn : n < maxLen) (key : Value) (kl : Lit) (hx : a.eval x = key) (hkey : keyOf P k key = some kl)
    (hK : ∀ v, D.atKey kl (.lit (.int .i64 0)) = .lit (.int .i64 (slen v)) → Rep w base e c v → slen v ≤ n → MapRB w P t k base e c b n D key kl v → wpList P ops Q rest (a.put o.dst v) w) :
    wpList P ops Q (o :: rest) a w := by
  refine wpList_plain hg fun K' hK' => ?_
  obtain ⟨v, hrun, h1, h2, h3, h4⟩ := hown.at K ht hz hn hkey
  unfold Oper.wp
  simp [execOp, hop, hm, hx, hrun, Result.andThen]
  exact hK' _ _ (hK v h1 h2 h3 h4)
/-- The store, for the walk. -/
theorem wpList_put_rep {P : Program} (w : World) {ops : Array Oper} {rest : List Oper} {o : Oper} {a : Act} {Q : Exit → Act → World → Prop} (hg : o.guard = none) (m x v : Operand) (t : TypeId) (hop : o.op = Op.mapUpdate t m x v)
    {w0 : World} {k : TypeId} {base : Nat} {e : TypeId} {c : Value} {b n : Nat} {D : DataW Unit} {key : Value} {kl : Lit} {u v' : Value}
    (hback : MapRB w0 P t k base e c b n D key kl u) (hm : a.eval m = .map (some b)) (hx : a.eval x = key) (hv : a.eval v = v')
    (hgr : w0.grownBy w u.ownBlock) (hown' : Rep w base e c v') (hl' : slen v' ≤ n + 1) (hloc : v'.ownBlock = u.ownBlock ∨ ∃ g, v'.ownBlock = some g ∧ w0.heap.size ≤ g)
    (hK : ∀ w2, MapR w2 P k base e c b (n + 1) (D.put kl (.lit (.int .i64 (slen v')))) → w.grownBy w2 (some b) → wpList P ops Q rest (a.put o.dst undef) w2) :
    wpList P ops Q (o :: rest) a w := by
  refine wpList_plain hg fun K' hK' => ?_
  obtain ⟨w2, hrun, r1, r2⟩ := hback w v' hgr hown' hl' hloc
  unfold Oper.wp
  simp [execOp, hop, hm, hx, hv, hrun, Result.andThen]
  exact hK' _ _ (hK w2 r1 r2)
/-- A slice with one element more. -/
theorem Rep.push {w w1 : World} {base : Nat} {e : TypeId} {c v v' : Value} (_h : Rep w base e c v) (h : w1.ownsRow base e 1 v' (slen v + 1) (List.replicate (slen v) c ++ [c])) : Rep w1 base e c v' ∧ slen v' = slen v + 1 := by
  have e1 : slen v' = slen v + 1 := by
    rcases h.2 with ⟨_, q⟩ | ⟨g, cap, cur, q, _⟩
    · omega
    · rw [q]; rfl
  refine ⟨?_, e1⟩
  unfold Rep
  rw [e1, List.replicate_succ']
  exact h
/-- The map says how often each value of a series comes. -/
structure CntD (D : DataW Unit) (l : List Int) : Prop where
  map : Maps.IsMap D
  at' : ∀ v z, D.atKey (.int .i64 v) z = if v ∈ l then .lit (.int .i64 (Rg.cntL l v)) else z
theorem CntD.nil : CntD (.map []) [] := ⟨Maps.isMap_empty, fun v z => by simp [DataW.atKey]⟩
theorem cnt_nil {l : List Int} {v : Int} (h : v ∉ l) : Rg.cntL l v = 0 := by
  unfold Rg.cntL
  rw [List.countP_eq_zero.2 (fun a ha => by simpa using fun q : a = v => h (q ▸ ha))]
  rfl
theorem cnt_snoc (l : List Int) (x v : Int) : Rg.cntL (l ++ [x]) v = Rg.cntL l v + (if v = x then 1 else 0) := by
  unfold Rg.cntL
  rw [List.countP_append]
  by_cases h : v = x
  · subst h; simp
  · rw [if_neg h]
    have e1 : ¬ x = v := fun q => h q.symm
    simp [e1]
theorem CntD.len {D : DataW Unit} {l : List Int} (h : CntD D l) {x : Int} {n : Nat} (hat : D.atKey (.int .i64 x) (.lit (.int .i64 0)) = .lit (.int .i64 n)) : (n : Int) = Rg.cntL l x := by
  rw [h.at'] at hat
  by_cases hx : x ∈ l
  · rw [if_pos hx] at hat
    simp only [DataW.lit.injEq, Lit.int.injEq, true_and] at hat
    exact hat.symm
  · rw [if_neg hx] at hat
    simp only [DataW.lit.injEq, Lit.int.injEq, true_and] at hat
    rw [cnt_nil hx]
    exact hat.symm
theorem CntD.put {D : DataW Unit} {l : List Int} (h : CntD D l) {x : Int} {n : Int} (hn : n = Rg.cntL l x + 1) : CntD (D.put (.int .i64 x) (.lit (.int .i64 n))) (l ++ [x]) := by
  refine ⟨h.map.put _ _, fun v z => ?_⟩
  by_cases hv : v = x
  · subst hv
    rw [Maps.atKey_put_same h.map (show WideAt.IsKeyLit (.int .i64 v) from trivial), if_pos (by simp), cnt_snoc, if_pos rfl, hn]
  · rw [Maps.atKey_put_other (fun q => hv (by cases q; rfl)), h.at']
    have e1 : v ∈ l ++ [x] ↔ v ∈ l := by simp [hv]
    simp only [e1, cnt_snoc, if_neg hv, Int.add_zero]
theorem CntD.has {D : DataW Unit} {l : List Int} (h : CntD D l) (v : Int) : Maps.has D (.int .i64 v) = decide (v ∈ l) := by
  by_cases hv : v ∈ l
  · rw [decide_eq_true hv]
    exact Maps.has_true_of_atKey fun z => by rw [h.at', if_pos hv]
  · rw [decide_eq_false hv]
    exact Maps.has_false_of_atKey fun z => by rw [h.at', if_neg hv]
end Go.Proofs.Wk
