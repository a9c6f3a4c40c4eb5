/- The document's set of a list of places: made, and its members listed. The document's sets: below, Has, Next, Prev, Rank, Select, Members, larger. The document's sets: two sorted lists gone through side by side. The document's sets: the calls on two sets. The document's sets: Clone, Grow, Within, OrWith, Add, Remove. The document's sets: Clone, Grow, Within, OrWith, Add, Remove: what they answer. The document's sets: OrWith, Add, Remove: what they answer. The document's sets: New, From, FromWords where they refuse; FromWords, Words. The document's sets: bits of words; FromWords. The document's sets: Words. -/
import Derived.Test.YtbaglnffgbnekaaDoorS10
import Derived.Test.YtbaglnffgbnekaaDoorS23
import Derived.Test.YtbaglnffgbnekaaDoorS25
set_option linter.unusedVariables false
set_option linter.unusedSimpArgs false
namespace Go.Proofs.YtbaglnffgbnekaaDoor
open Go Go.V Go.B

theorem pair0 {w : World} {b : Nat} {x y : Value} (h : Blk w b [x, y]) : w.cell? (Addr.add ⟨b, 0, none⟩ 0) = some x := by rw [Addr.add0]; exact h.cell rfl
theorem pair1 {w : World} {b : Nat} {x y : Value} (h : Blk w b [x, y]) : w.cell? (Addr.add ⟨b, 0, none⟩ 1) = some y := by rw [Addr.add0]; exact h.cell rfl
theorem pair_put {w : World} {b : Nat} {x y : Value} (h : Blk w b [x, y]) (v0 v1 : Value) {K : Prop} (k : Blk ((w.setCell (Addr.add ⟨b, 0, none⟩ 0) v0).setCell (Addr.add ⟨b, 0, none⟩ 1) v1) b [v0, v1] → Ext [b] w ((w.setCell (Addr.add ⟨b, 0, none⟩ 0) v0).setCell (Addr.add ⟨b, 0, none⟩ 1) v1) → K) :
    (∃ u, w.cell? (Addr.add ⟨b, 0, none⟩ 0) = some u) ∧ w.frozen? (Addr.add ⟨b, 0, none⟩ 0) = false ∧ (∃ u, (w.setCell (Addr.add ⟨b, 0, none⟩ 0) v0).cell? (Addr.add ⟨b, 0, none⟩ 1) = some u) ∧ (w.setCell (Addr.add ⟨b, 0, none⟩ 0) v0).frozen? (Addr.add ⟨b, 0, none⟩ 1) = false ∧ K := by
  simp only [Addr.add0] at k ⊢
  have h1 := h.set 0 v0
  refine ⟨⟨_, h.cell rfl⟩, h.frozen _, ⟨y, h1.cell rfl⟩, h1.frozen _, k (h1.set 1 v1) ?_⟩
  exact ((Ext.refl _ _).setCell _ _ (.inl (by simp))).setCell _ _ (.inl (by simp))
theorem NewRef_c {n : Nat} (hn : n ≤ 65536) {w : World} {R : Ending → World → Prop} (k : ∀ w', Ext [] w w' → R (.returned (.tuple #[.agg #[.int .i64 (n : Int), .slice none 0 0], .int .i64 0])) w') :
    Calls Tryd.prog 60 #[.int .i64 (n : Int)] w R := by
  apply berthref01_New_nf
  refine sel_dec (fun h => by omega) (fun _ => sel_dec (fun h => by omega) (fun _ => ?_))
  refine pair_put (Blk.new w [.int .i64 0, .slice none 0 0] _) (.int .i64 (n : Int)) (.slice none 0 0) fun b2 e2 => ⟨_, pair0 b2, _, _, _, pair1 b2, k _ ?_⟩
  exact ((Ext.refl [] w).alloc _).trans' e2 (fun x hx => .inr (by simp at hx; omega))
/-- The places of a list, rising. -/
def placed (N : Nat) (xs : List Int) : List Int := ((List.range N).filter fun i : Nat => decide ((i : Int) ∈ xs)).map Int.ofNat
theorem placed_len (N : Nat) (xs : List Int) : (placed N xs).length ≤ N := by
  unfold placed
  rw [List.length_map]
  exact Nat.le_trans (List.length_filter_le _ _) (by simp)
def bools (N : Nat) (xs : List Int) : List Value := (List.range N).map fun i : Nat => Value.bool (decide ((i : Int) ∈ xs))
theorem bools_get {N i : Nat} {xs : List Int} (h : i < N) : (bools N xs)[i]? = some (.bool (decide ((i : Int) ∈ xs))) := by simp [bools, h]
theorem bools_set {N q : Nat} {xs : List Int} (h : q < N) : (bools N xs).set q (.bool true) = bools N (xs ++ [(q : Int)]) := by
  apply List.ext_getElem (by simp [bools])
  intro i h1 h2
  have hi : i < N := by simpa [bools] using h2
  simp only [bools, List.getElem_set, List.getElem_map, List.getElem_range, List.mem_append, List.mem_singleton]
  by_cases hq : q = i
  · subst hq; simp
  · have : ¬ ((i : Int) = (q : Int)) := by omega
    simp [hq, this]
set_option maxRecDepth 4000 in
theorem FromRef_c {N : Nat} (hN : N ≤ 65536) {w : World} {A : Option Addr} {l c : Nat} {xs : List Int} (hx : Ints w .i64 A l xs) (hl : l < 4611686018427387904) (hin : ∀ j, j < l → 0 ≤ xs.getD j 0 ∧ xs.getD j 0 < (N : Int)) {R : Ending → World → Prop}
    (k : ∀ M ml mc w', Ext [] w w' → w'.ownsRow w.heap.size 3 1 (.slice M ml mc) ml (ints .i64 (placed N xs)) → R (.returned (.tuple #[.agg #[.int .i64 (N : Int), .slice M ml mc], .int .i64 0])) w') :
    Calls Tryd.prog 63 #[.int .i64 (N : Int), .slice A l c] w R := by
  apply berthref01_From_nf
  have hlen := hx.len
  have e0 : Ext [] w (w.alloc (.cells #[.int .i64 0, .slice none 0 0] 50)) := (Ext.refl _ _).alloc _
  have r0 : Blk (w.alloc (.cells #[.int .i64 0, .slice none 0 0] 50)) w.heap.size [.int .i64 0, .slice none 0 0] := Blk.new _ _ _
  refine NewRef_c hN fun w1 e1 => ⟨_, _, _, _, _, rfl, ?_⟩
  have r1 := r0.ext e1 (by simp)
  have hr1 := r1.lt
  have e2 : Ext [] w1 (w1.alloc (.cells #[.int .i64 0, .slice none 0 0] 50)) := (Ext.refl _ _).alloc _
  refine pair_put (Blk.new w1 [.int .i64 0, .slice none 0 0] _) (.int .i64 (N : Int)) (.slice none 0 0) fun s3 e3 => sel_false rfl ?_
  have f3 := ((e0.trans e1).trans e2).trans' e3 (fun x hx => .inr (by
    simp at hx
    have := e1.size; have := e0.size; omega))
  have r3 := (r1.ext e2 (by simp)).ext e3 (by simp; omega)
  generalize ((w1.alloc (.cells #[.int .i64 0, .slice none 0 0] 50)).setCell (Addr.add ⟨w1.heap.size, 0, none⟩ 0) (.int .i64 (N : Int))).setCell (Addr.add ⟨w1.heap.size, 0, none⟩ 1) (.slice none 0 0) = w3 at *
  have sz3 := e3.size
  have szA := e2.size
  have szB := e1.size
  have szC := e0.size
  -- all are inside
  refine ⟨fun i w' => w' = w3 ∧ ∃ m : Nat, i = m ∧ m ≤ l, fun i _ => l - i.toNat, ⟨rfl, 0, rfl, by omega⟩, ?_⟩
  rintro _ _ _ ⟨rfl, m, rfl, hm⟩
  rename_i w3
  have hx3 := hx.ext0 f3
  refine sel_dec (fun hlt => ?_) (fun hge => ?_)
  · have hml : m < l := by omega
    have hb := hin m hml
    refine when_dec ⟨by omega, by omega⟩ (Ints.at hx3 hml fun ad hc => ?_)
    rw [Int.toNat_natCast, Nat.mul_one]
    refine ⟨_, hc, sel_dec (fun h => by omega) (fun _ => ?_)⟩
    refine when_dec ⟨by omega, by omega⟩ (Ints.at hx3 hml fun ad hc => ⟨_, hc, sel_dec (fun h => by omega) (fun _ => ?_)⟩)
    rw [up64 m (by omega)]
    exact ⟨⟨rfl, m + 1, rfl, by omega⟩, down (by omega)⟩
  clear hge hm m
  refine when_dec ⟨by omega, by omega, by omega, by omega⟩ ?_
  rw [Int.toNat_natCast]
  have hb0 : V.rep N [Value.bool false] = bools N [] := by
    simp [V.rep, bools, List.map_const']
  rw [hb0]
  have e4 : Ext [] w3 (w3.alloc (.cells ⟨bools N []⟩ 4)) := (Ext.refl _ _).alloc _
  have g4 : Blk (w3.alloc (.cells ⟨bools N []⟩ 4)) w3.heap.size (bools N []) := Blk.new _ _ _
  have s4 := s3.ext e4 (by simp)
  have r4 := r3.ext e4 (by simp)
  have hsl := s3.lt
  refine ⟨fun i w' => ∃ m : Nat, i = m ∧ m ≤ l ∧ Ext [] w3 w' ∧ Blk w' w3.heap.size (bools N (xs.take m)), fun i _ => l - i.toNat, ⟨0, rfl, by omega, e4, by simpa using g4⟩, ?_⟩
  rintro _ _ w5 ⟨m, rfl, hm, e5, g5⟩
  refine sel_dec (fun hlt => ?_) (fun hge => ?_)
  · have hml : m < l := by omega
    have hb := hin m hml
    have htk := getD_take_succ xs m (by omega)
    obtain ⟨q, hq⟩ : ∃ q : Nat, xs.getD m 0 = q := ⟨(xs.getD m 0).toNat, by omega⟩
    refine when_dec ⟨by omega, by omega⟩ (Ints.at ((hx.ext0 f3).ext0 e5) hml fun ad hc => ?_)
    try rw [Int.toNat_natCast, Nat.mul_one]
    rw [hq] at hc hb htk
    refine ⟨_, hc, when_dec ⟨by omega, by omega⟩ ?_⟩
    simp only [Int.toNat_natCast, Nat.mul_one, Addr.addAdd]
    rw [up64 m (by omega)]
    have hqN : q < N := by omega
    refine ⟨⟨_, g5.cell (bools_get hqN)⟩, g5.frozen _, ⟨m + 1, rfl, by omega, e5.setCell _ _ (.inr (Nat.le_refl _)), ?_⟩, down (by omega)⟩
    have := g5.set q (.bool true)
    rw [bools_set hqN, ← htk] at this
    exact this
  obtain rfl : m = l := by omega
  rw [List.take_of_length_le (by omega)] at g5
  have s5 := s3.ext e5 (by simp)
  have r5 := r3.ext e5 (by simp)
  have sz5 := e5.size
  have hg5 := g5.lt
  refine ⟨fun i w' => ∃ (q : Nat) (M : Option Addr) (ml mc : Nat), i = q ∧ q ≤ N ∧ Ext [w1.heap.size] w5 w' ∧ Blk w' w1.heap.size [.int .i64 (N : Int), .slice M ml mc] ∧ w'.ownsRow w5.heap.size 3 1 (.slice M ml mc) ml (ints .i64 (placed q xs)), fun i _ => N - i.toNat,
    ⟨0, none, 0, 0, rfl, by omega, Ext.refl _ _, s5, own_nil _ _ _⟩, ?_⟩
  rintro _ _ w6 ⟨q, M, ml, mc, rfl, hq, e6, s6, own6⟩
  have sz6 := e6.size
  have g6 := g5.ext e6 (by simp; omega)
  have hml : ml ≤ q := by
    have := placed_len q xs
    have h1 := own6.1
    simp at h1; omega
  refine sel_dec (fun hlt => ?_) (fun hge => ?_)
  · have hqN : q < N := by omega
    refine when_dec ⟨by omega, by omega⟩ ⟨_, by rw [Addr.add0, Int.toNat_natCast, Nat.mul_one]; exact g6.cell (bools_get hqN), ?_⟩
    rw [up64 q (by omega)]
    have hp : placed (q + 1) xs = if (q : Int) ∈ xs then placed q xs ++ [(q : Int)] else placed q xs := by
      unfold placed
      rw [List.range_succ, List.filter_append, List.map_append]
      by_cases h : (q : Int) ∈ xs
      · simp [h]
      · simp [h]
    refine sel_dec (fun hmem => ?_) (fun hmem => ?_)
    · refine ⟨_, _, _, pair1 s6, ?_⟩
      obtain ⟨M', c', w7, hr7, own7, e7⟩ := app1 (P := Tryd.prog) (t := 22) (ty := 22) (e := 3) (bytes := 8) (z := .int .i64 0) (by kernel_rfl) (by kernel_rfl) rfl own6 (x := .int .i64 (q : Int)) rfl (by omega) (by omega) (by omega)
      have hM := own_base own6
      have s7 := s6.ext e7 (fun h => by have := (hM _ h).1; omega)
      refine ⟨_, _, _, _, hr7, ?_⟩
      simp only [Addr.addAdd]
      have e8 : Ext [w1.heap.size] w7 (w7.setCell ⟨w1.heap.size, 1, none⟩ (.slice M' (ml + 1) c')) := (Ext.refl _ _).setCell _ _ (.inl (by simp))
      refine ⟨⟨_, s7.cell (i := 1) rfl⟩, s7.frozen _, ⟨q + 1, M', ml + 1, c', rfl, by omega, ?_, by simpa using s7.set 1 (.slice M' (ml + 1) c'), ?_⟩, down (by omega)⟩
      · exact (e6.trans' e7 (fun x hx => .inr (hM x hx).1)).trans e8
      · rw [hp, if_pos hmem]
        have hM7 := own_base own7
        exact own_ext (own_snoc own7) e8 (fun b hb => by have := (hM7 b hb).1; simp; omega)
    · exact ⟨⟨q + 1, M, ml, mc, rfl, by omega, e6, s6, by rw [hp, if_neg hmem]; exact own6⟩, down (by omega)⟩
  · obtain rfl : q = N := by omega
    refine ⟨_, pair0 s6, _, _, _, pair1 s6, ?_⟩
    have r6 := r5.ext e6 (by simp; omega)
    refine pair_put r6 (.int .i64 (q : Int)) (.slice M ml mc) fun r7 e7 => ⟨_, pair0 r7, _, _, _, pair1 r7, ?_⟩
    have hM := own_base own6
    have f5 := f3.trans e5
    have szf := f3.size
    refine k M ml mc _ ?_ ?_
    · refine (f5.trans' e6 (fun x hx => .inr ?_)).trans' e7 (fun x hx => .inr ?_)
      · simp only [List.mem_singleton] at hx; omega
      · simp only [List.mem_singleton] at hx; omega
    · have := own_ext own6 e7 (fun b hb => by have := (hM b hb).1; simp; omega)
      refine ⟨this.1, ?_⟩
      rcases this.2 with h2 | ⟨g, cap, cur, hv, hb, rest⟩
      · exact .inl h2
      · exact .inr ⟨g, cap, cur, hv, by omega, rest⟩
theorem rebase {w : World} {B B' n m c : Nat} {e : TypeId} {A : Option Addr} {xs : List Value} (h : w.ownsRow B e 1 (.slice A n c) m xs) (hB : B' ≤ B) : w.ownsRow B' e 1 (.slice A n c) m xs := by
  refine ⟨h.1, ?_⟩
  rcases h.2 with h2 | ⟨g, cap, cur, hv, hb, rest⟩
  · exact .inl h2
  · exact .inr ⟨g, cap, cur, hv, by omega, rest⟩
theorem MembersRef_c {n : Int} {w : World} {A : Option Addr} {l c : Nat} {xs : List Int} (hx : Ints w .i64 A l xs) (hl : l * 8 ≤ 140737488355328) {R : Ending → World → Prop}
    (k : ∀ A' c' w', Ext [] w w' → w'.ownsRow w.heap.size 3 1 (.slice A' l c') l (ints .i64 xs) → R (.returned (.slice A' l c')) w') :
    Calls Tryd.prog 93 #[.agg #[.int .i64 n, .slice A l c]] w R := by
  apply berthref01_Members_nf
  have e0 : Ext [] w (w.alloc (.cells #[.int .i64 n, .slice A l c] 50)) := (Ext.refl _ _).alloc _
  have b0 : Blk (w.alloc (.cells #[.int .i64 n, .slice A l c] 50)) w.heap.size [.int .i64 n, .slice A l c] := Blk.new _ _ _
  generalize w.alloc (.cells #[.int .i64 n, .slice A l c] 50) = w0 at *
  have e1 : Ext [] w0 (w0.alloc (.cells #[] 3)) := (Ext.refl _ _).alloc _
  refine ⟨_, _, _, pair1 (b0.ext e1 (by simp)), ?_⟩
  have own0 : (w0.alloc (.cells #[] 3)).ownsRow w0.heap.size 3 1 (.slice (some ⟨w0.heap.size, 0, none⟩) 0 0) 0 (ints .i64 []) := by
    have hh : (w0.alloc (.cells #[] 3)).heap[w0.heap.size]? = some (.cells ⟨[]⟩ 3 (0, 0)) := by
      show (w0.heap.push _)[w0.heap.size]? = _; simp
    exact own_made hh (c := 0) (n := 0) rfl (by omega) (by omega) (Nat.le_refl _)
  have hx0 := hx.ext0 (e0.trans e1)
  have hlen := hx.len
  obtain ⟨A', c', w', hr, own', e'⟩ := appN (P := Tryd.prog) (t := 22) (ty := 22) (e := 3) (bytes := 8) (z := .int .i64 0) (by kernel_rfl) (by kernel_rfl) rfl (by omega) own0 (m := l) (cy := c) (Y := A) (ys := ints .i64 xs) (by simp [hlen])
    (by intro j u hj
        have hj' : j < l := by
          have := (List.getElem?_eq_some_iff.1 hj).1
          simpa [hlen] using this
        obtain ⟨ad, ha, hc⟩ := hx0.cells j hj'
        rw [ints_get (by omega)] at hj
        exact ⟨ad, ha, by rw [hc]; exact hj⟩)
    (by intro u hu
        obtain ⟨x, _, rfl⟩ := List.mem_map.1 hu
        rfl) e1.size (by omega)
  have sz0 := e0.size
  refine ⟨_, _, _, _, hr, ?_⟩
  rw [Nat.zero_add] at own' ⊢
  exact k A' c' w' ((e0.trans e1).trans' e' (fun x hx => .inr (by simp [ownF] at hx; omega))) (rebase (by simpa [ints] using own') sz0)
theorem mi_placed {S : SetV} {N : Nat} {xs : List Int} (hN : S.N = N) (hm : ∀ i : Nat, S.mem i = decide ((i : Int) ∈ xs)) : S.mi = placed N xs := by
  unfold SetV.mi SetV.members placed
  rw [hN]
  congr 1
  apply List.filter_congr
  intro i _
  exact hm i
theorem words_c {w : World} {A : Option Addr} {l c : Nat} {xs : List Int} (hx : Ints w .u64 A l xs) (hl : l * 8 ≤ 140737488355328) {R : Ending → World → Prop}
    (k : ∀ A' c' w', Ext [] w w' → w'.ownsRow w.heap.size 63 1 (.slice A' l c') l (ints .u64 xs) → R (.returned (.slice A' l c')) w') :
    Calls Tryd.prog 65 #[.slice A l c] w R := by
  apply berthlaw01_words_nf
  have e0 : Ext [] w (w.alloc (.cells #[] 63)) := (Ext.refl _ _).alloc _
  have own0 : (w.alloc (.cells #[] 63)).ownsRow w.heap.size 63 1 (.slice (some ⟨w.heap.size, 0, none⟩) 0 0) 0 (ints .u64 []) := by
    have hh : (w.alloc (.cells #[] 63)).heap[w.heap.size]? = some (.cells ⟨[]⟩ 63 (0, 0)) := by
      show (w.heap.push _)[w.heap.size]? = _; simp
    exact own_made hh (c := 0) (n := 0) rfl (by omega) (by omega) (Nat.le_refl _)
  have hx0 := hx.ext0 e0
  have hlen := hx.len
  obtain ⟨A', c', w', hr, own', e'⟩ := appN (P := Tryd.prog) (t := 38) (ty := 38) (e := 63) (bytes := 8) (z := .int .u64 0) (by kernel_rfl) (by kernel_rfl) rfl (by omega) own0 (m := l) (cy := c) (Y := A) (ys := ints .u64 xs) (by simp [hlen])
    (by intro j u hj
        have hj' : j < l := by
          have := (List.getElem?_eq_some_iff.1 hj).1
          simpa [hlen] using this
        obtain ⟨ad, ha, hc⟩ := hx0.cells j hj'
        rw [ints_get (by omega)] at hj
        exact ⟨ad, ha, by rw [hc]; exact hj⟩)
    (by intro u hu
        obtain ⟨x, _, rfl⟩ := List.mem_map.1 hu
        rfl) e0.size (by omega)
  refine ⟨_, _, _, _, hr, ?_⟩
  rw [Nat.zero_add] at own' ⊢
  exact k A' c' w' (e0.trans' e' (fun x hx => .inr (by simp [ownF] at hx; omega))) (by simpa [ints] using own')
theorem SameWords_c {w : World} {A B : Option Addr} {l c m d : Nat} {xs ys : List Int} (hx : Ints w .u64 A l xs) (hy : Ints w .u64 B m ys) (hl : l < 4611686018427387904) {R : Ending → World → Prop}
    (k : ∀ w', Ext [] w w' → R (.returned (.bool (decide (xs = ys)))) w') :
    Calls Tryd.prog 85 #[.slice A l c, .slice B m d] w R := by
  apply berthref01_SameWords_nf
  have hxl := hx.len
  have hyl := hy.len
  refine sel_intro (fun hne => ?_) (fun heq => ?_)
  · have : decide (xs = ys) = false := by
      rw [decide_eq_false_iff_not]
      rintro rfl
      rw [← hxl, ← hyl] at hne; simp at hne
    rw [← this]; exact k w (Ext.refl _ _)
  have hlm : l = m := Int.ofNat_inj.1 (bne_eq_false_iff_eq.1 heq)
  subst hlm
  refine ⟨fun i w' => Ext [] w w' ∧ ∃ n : Nat, i = n ∧ n ≤ l ∧ ∀ j, j < n → xs.getD j 0 = ys.getD j 0, fun i _ => l - i.toNat, ⟨Ext.refl _ _, 0, rfl, by omega, by omega⟩, ?_⟩
  rintro _ _ w2 ⟨e2, n, rfl, hn, hall⟩
  refine sel_dec (fun hlt => ?_) (fun hge => ?_)
  · refine when_dec ⟨by omega, by omega⟩ (Ints.at (hx.ext0 e2) (show n < l by omega) fun ad hc => ?_)
    rw [Int.toNat_natCast, Nat.mul_one]
    refine ⟨_, hc, when_dec ⟨by omega, by omega⟩ (Ints.at (hy.ext0 e2) (show n < l by omega) fun ad' hc' => ⟨_, hc', sel_intro (fun hne => ?_) (fun heq => ?_)⟩)⟩
    · have : decide (xs = ys) = false := by
        rw [decide_eq_false_iff_not]
        rintro rfl
        simp at hne
      rw [← this]; exact k _ e2.drew
    · have heq := bne_eq_false_iff_eq.1 heq
      rw [up64 n (by omega)]
      refine ⟨⟨e2.drew, n + 1, rfl, by omega, fun j hj => ?_⟩, down (by omega)⟩
      by_cases hjn : j = n
      · subst hjn; exact heq
      · exact hall j (by omega)
  · have : decide (xs = ys) = true := by
      rw [decide_eq_true_eq]
      apply List.ext_getElem (by omega)
      intro j h1 h2
      have := hall j (by omega)
      simpa [List.getD_eq_getElem?_getD, h1, h2] using this
    rw [← this]; exact k _ e2
theorem SetAt.wints {w : World} {p bw : Nat} {S : SetV} (h : SetAt w p bw S) : Ints w .u64 (some ⟨bw, 0, none⟩) S.ws.length (wi S.ws) := by
  refine ⟨by simp [wi], fun j hj => ⟨_, rfl, ?_⟩⟩
  rw [wi_get]; exact h.word hj
theorem Words_c {w : World} {q : Option Addr} {S : SetV} {f : List Nat} (h : RefAt w q S f) {R : Ending → World → Prop}
    (k : ∀ p bw w', Ext [] w w' → w.heap.size ≤ p → w.heap.size ≤ bw → SetAt w' p bw S → R (.returned (.slice (some ⟨bw, 0, none⟩) S.ws.length S.ws.length)) w') :
    Calls Tryd.prog 25 #[.pointer q] w R := by
  apply bitset_Set_Words_nf
  refine Clone_c h fun p bw w' e hp hbw hs => ⟨_, rfl, ptr_in ⟨_, _, _, hs.words, k p bw w' e hp hbw hs⟩⟩
end Go.Proofs.YtbaglnffgbnekaaDoor
namespace Go.Proofs.YtbaglnffgbnekaaDoor
open Go Go.V Go.B

theorem lk {w : World} {S : SetV} {A : Option Addr} (hc : Cells w A (ints .i64 S.mi)) {j : Nat} (hj : j < S.count) {K : Addr → Prop}
    (h : ∀ ad, w.cell? (ad.add (Int.toNat ((j : Nat) : Int) * 1)) = some (.int .i64 (mv S j : Int)) → K ad) :
    Go.V.when (decide ((0 : Int) ≤ ((j : Nat) : Int) ∧ ((j : Nat) : Int) < ((S.count : Nat) : Int))) (Go.V.ptr A K) :=
  members_lk hc hj fun ad hcell => h ad (hcell w (Ext.refl _ _))
theorem cnt_le {S : SetV} (o : S.Ok) : S.count ≤ 65536 := by
  have := rank_le S S.N
  have := o.N
  unfold SetV.count; omega
theorem rank_cnt {S : SetV} (o : S.Ok) (i : Nat) : S.rank i ≤ S.count := by
  rcases Nat.lt_or_ge i S.N with h | h
  · exact rank_mono S (Nat.le_of_lt h)
  · unfold SetV.count; rw [rank_full o h]; exact Nat.le_refl _
theorem mv_below {S : SetV} {m : Nat} (hm : m < S.count) (i : Int) : ((mv S m : Int) < i → m + 1 ≤ S.rank i.toNat) ∧ (i ≤ (mv S m : Int) → S.rank i.toNat ≤ m) := by
  obtain ⟨_, h2, h3⟩ := mv_at hm
  constructor
  · intro h
    have h4 := rank_succ S (mv S m)
    rw [if_pos h2, h3] at h4
    have := rank_mono S (show mv S m + 1 ≤ i.toNat by omega)
    omega
  · intro h
    have := rank_mono S (show i.toNat ≤ mv S m by omega)
    omega
section
variable {w : World} {S : SetV} {A : Option Addr} {c : Nat}
theorem below_c (hc : Cells w A (ints .i64 S.mi)) (o : S.Ok) (N : Int) (i : Int) {R : Ending → World → Prop} (k : ∀ w', Ext [] w w' → R (.returned (.int .i64 (S.rank i.toNat : Int))) w') :
    Calls Tryd.prog 94 #[.agg #[.int .i64 N, .slice A S.count c], .int .i64 i] w R := by
  have hcn := cnt_le o
  apply berthref01_below_nf
  intro w4 h4
  obtain ⟨b4, x4, z4⟩ := box_new (cs := [.int .i64 N, .slice A S.count c]) h4
  have d4 : Ext [] w4 w4.drew := (Ext.refl _ _).drew
  refine ⟨_, _, _, cadd b4 (i := 1) rfl, fun lo hi w' => ∃ a b : Nat, lo = a ∧ hi = b ∧ a ≤ S.rank i.toNat ∧ S.rank i.toNat ≤ b ∧ b ≤ S.count ∧ Ext [] w4 w', fun lo hi _ => hi.toNat - lo.toNat, ⟨0, S.count, rfl, rfl, by omega, rank_cnt o _, Nat.le_refl _, d4⟩, ?_⟩
  rintro _ _ _ w11 ⟨a, b, rfl, rfl, ha, hb, hbc, e11⟩
  refine sel_dec (fun hlt => ?_) (fun hge => ?_)
  · have e1 : IntKind.wrap .i64 (Int.tdiv (IntKind.wrap .i64 ((a : Int) + (b : Int))) 2) = (((a + b) / 2 : Nat) : Int) := by
      rw [w64 (x := (a : Int) + (b : Int)) (by omega) (by omega), show (a : Int) + (b : Int) = ((a + b : Nat) : Int) by omega, show (2 : Int) = ((2 : Nat) : Int) from rfl, tdiv_nat, w64 (by omega) (by omega)]
    refine lt_eq e1 ⟨_, _, _, cadd (b4.ext0 e11) (i := 1) rfl, lk (hc.ext0 (x4.trans e11)) (j := (a + b) / 2) (by omega) fun ad hcell => ⟨_, hcell, ?_⟩⟩
    obtain ⟨m1, m2⟩ := mv_below (S := S) (m := (a + b) / 2) (by omega) i
    refine sel_dec (fun h => ?_) (fun h => ?_)
    · rw [w64 (x := (((a + b) / 2 : Nat) : Int) + 1) (by omega) (by omega)]
      exact ⟨⟨(a + b) / 2 + 1, b, by omega, rfl, m1 h, hb, hbc, e11⟩, by simp only []; omega⟩
    · exact ⟨⟨a, (a + b) / 2, rfl, rfl, ha, m2 (by omega), by omega, e11⟩, by simp only []; omega⟩
  · have : (a : Int) = (S.rank i.toNat : Int) := by omega
    rw [this]
    exact k w11 (x4.trans e11)
theorem at_rank {m : Nat} (hm : m < S.count) (i : Int) (h : S.rank i.toNat = m) : ((mv S m : Int) == i) = S.has i := by
  obtain ⟨h1, h2⟩ := mv_below hm i
  have hle : i ≤ (mv S m : Int) := by
    rcases Int.lt_or_le (mv S m : Int) i with h3 | h3
    · have := h1 h3; omega
    · exact h3
  obtain ⟨_, hmem, hrk⟩ := mv_at hm
  unfold SetV.has
  by_cases e : (mv S m : Int) = i
  · rw [← e]
    simp [hmem]
  · have : ((mv S m : Int) == i) = false := by simp [e]
    rw [this]
    cases hh : (decide (0 ≤ i) && S.mem i.toNat) with
    | false => rfl
    | true =>
      simp only [Bool.and_eq_true, decide_eq_true_eq] at hh
      have h4 := rank_lt S hh.2 (show i.toNat < mv S m by omega)
      omega
theorem no_rank (o : S.Ok) (i : Int) (h : S.rank i.toNat = S.count) : S.has i = false := by
  unfold SetV.has
  cases hh : (decide (0 ≤ i) && S.mem i.toNat) with
  | false => rfl
  | true =>
    simp only [Bool.and_eq_true, decide_eq_true_eq] at hh
    have := rank_count o hh.2
    omega
theorem refHas_c (hc : Cells w A (ints .i64 S.mi)) (o : S.Ok) (N : Int) (i : Int) {R : Ending → World → Prop} (k : ∀ w', Ext [] w w' → R (.returned (.bool (S.has i))) w') :
    Calls Tryd.prog 79 #[.agg #[.int .i64 N, .slice A S.count c], .int .i64 i] w R := by
  apply berthref01_Has_nf
  intro w4 h4
  obtain ⟨b4, x4, z4⟩ := box_new (cs := [.int .i64 N, .slice A S.count c]) h4
  refine ⟨_, _, _, _, cadd0 b4, below_c (hc.ext0 x4) o N i fun w9 e9 => ⟨_, rfl, _, _, _, cadd (b4.ext0 e9) (i := 1) rfl, sel_dec (fun h => ?_) (fun h => ?_)⟩⟩
  · refine ⟨_, _, _, cadd (b4.ext0 e9) (i := 1) rfl, lk (hc.ext0 (x4.trans e9)) (by omega) fun ad hcell => ⟨_, hcell, ?_⟩⟩
    rw [at_rank (by omega) i rfl]
    exact k _ (x4.trans e9)
  · have := no_rank o i (by have := rank_cnt o i.toNat; omega)
    rw [this] at k
    exact k _ (x4.trans e9)
/-- The member with k members below it. -/
def selI (S : SetV) (k : Int) : Int := if 0 ≤ k ∧ k < (S.count : Int) then (mv S k.toNat : Int) else -1
theorem selI_sel (k : Int) : SelectV S k (selI S k) := by
  unfold selI
  split
  · rename_i h
    obtain ⟨_, h2, h3⟩ := mv_at (S := S) (j := k.toNat) (by omega)
    exact .inr ⟨_, rfl, h2, by omega⟩
  · exact .inl ⟨rfl, by omega⟩
theorem refNext_c (hc : Cells w A (ints .i64 S.mi)) (o : S.Ok) (N : Int) (i : Int) {R : Ending → World → Prop} (k : ∀ w', Ext [] w w' → R (.returned (.int .i64 (selI S (S.rank i.toNat)))) w') :
    Calls Tryd.prog 80 #[.agg #[.int .i64 N, .slice A S.count c], .int .i64 i] w R := by
  apply berthref01_Next_nf
  intro w4 h4
  obtain ⟨b4, x4, z4⟩ := box_new (cs := [.int .i64 N, .slice A S.count c]) h4
  refine ⟨_, _, _, _, cadd0 b4, below_c (hc.ext0 x4) o N i fun w9 e9 => ⟨_, rfl, _, _, _, cadd (b4.ext0 e9) (i := 1) rfl, sel_dec (fun h => ?_) (fun h => ?_)⟩⟩
  · refine ⟨_, _, _, cadd (b4.ext0 e9) (i := 1) rfl, lk (hc.ext0 (x4.trans e9)) (by omega) fun ad hcell => ⟨_, hcell, ?_⟩⟩
    have : selI S (S.rank i.toNat) = (mv S (S.rank i.toNat) : Int) := by unfold selI; rw [if_pos (by omega), Int.toNat_natCast]
    rw [this] at k
    exact k _ (x4.trans e9)
  · have : selI S (S.rank i.toNat) = -1 := by unfold selI; rw [if_neg (by omega)]
    rw [this] at k
    exact k _ (x4.trans e9)
def prevI (S : SetV) (i : Int) : Int := if S.has i then i else selI S ((S.rank i.toNat : Int) - 1)
theorem refPrev_c (hc : Cells w A (ints .i64 S.mi)) (o : S.Ok) (N : Int) (i : Int) {R : Ending → World → Prop} (k : ∀ w', Ext [] w w' → R (.returned (.int .i64 (prevI S i))) w') :
    Calls Tryd.prog 81 #[.agg #[.int .i64 N, .slice A S.count c], .int .i64 i] w R := by
  have hcn := cnt_le o
  apply berthref01_Prev_nf
  intro w4 h4
  obtain ⟨b4, x4, z4⟩ := box_new (cs := [.int .i64 N, .slice A S.count c]) h4
  have hrc := rank_cnt o i.toNat
  refine ⟨_, _, _, _, cadd0 b4, below_c (hc.ext0 x4) o N i fun w9 e9 => ⟨_, rfl, _, _, _, cadd (b4.ext0 e9) (i := 1) rfl, ?_⟩⟩
  have low : 0 < S.rank i.toNat → S.has i = false → ∃ A14, ∃ A14l, ∃ A14c, World.cell? w9 (Addr.add ⟨Array.size (World.heap w), 0, none⟩ 1) = some (Value.slice A14 A14l A14c) ∧
      Go.V.when (decide ((0 : Int) ≤ (IntKind.wrap .i64 ((S.rank i.toNat : Int) - 1)) ∧ ((IntKind.wrap .i64 ((S.rank i.toNat : Int) - 1)) : Int) < ((A14l : Nat) : Int))) (Go.V.ptr A14 fun a15 =>
      ∃ n16, World.cell? w9 (Addr.add a15 ((Int.toNat (IntKind.wrap .i64 ((S.rank i.toNat : Int) - 1))) * 1)) = some (Value.int .i64 n16) ∧ R (Ending.returned (Value.int .i64 n16)) w9) := fun hpos hno => by
    have em : IntKind.wrap .i64 ((S.rank i.toNat : Int) - 1) = ((S.rank i.toNat - 1 : Nat) : Int) := by rw [w64 (by omega) (by omega)]; omega
    rw [em]
    refine ⟨_, _, _, cadd (b4.ext0 e9) (i := 1) rfl, lk (hc.ext0 (x4.trans e9)) (by omega) fun ad hcell => ⟨_, hcell, ?_⟩⟩
    have : prevI S i = (mv S (S.rank i.toNat - 1) : Int) := by
      unfold prevI selI
      rw [hno, if_neg (by simp), if_pos (by omega)]
      congr 2; omega
    rw [this] at k
    exact k _ (x4.trans e9)
  have end_ : ¬ 0 < S.rank i.toNat → S.has i = false → R (.returned (.int .i64 (-1))) w9 := fun hz hno => by
    have : prevI S i = -1 := by
      unfold prevI selI
      rw [hno, if_neg (by simp), if_neg (by omega)]
    rw [this] at k
    exact k _ (x4.trans e9)
  refine sel_dec (fun h => ?_) (fun h => ?_)
  · refine ⟨_, _, _, cadd (b4.ext0 e9) (i := 1) rfl, lk (hc.ext0 (x4.trans e9)) (by omega) fun ad hcell => ⟨_, hcell, ?_⟩⟩
    rw [at_rank (by omega) i rfl]
    cases hh : S.has i with
    | true =>
      have : prevI S i = i := by unfold prevI; rw [if_pos hh]
      rw [this] at k
      exact sel_true rfl (k _ (x4.trans e9))
    | false => exact sel_false rfl (sel_dec (fun hp => low (by omega) hh) (fun hp => end_ (by omega) hh))
  · have hh := no_rank o i (by omega)
    exact sel_dec (fun hp => low (by omega) hh) (fun hp => end_ (by omega) hh)
theorem refRank_c (hc : Cells w A (ints .i64 S.mi)) (o : S.Ok) (N : Int) (i : Int) {R : Ending → World → Prop} (k : ∀ w', Ext [] w w' → R (.returned (.int .i64 (S.rank i.toNat : Int))) w') :
    Calls Tryd.prog 82 #[.agg #[.int .i64 N, .slice A S.count c], .int .i64 i] w R := by
  apply berthref01_Rank_nf
  intro w4 h4
  obtain ⟨b4, x4, z4⟩ := box_new (cs := [.int .i64 N, .slice A S.count c]) h4
  exact ⟨_, _, _, _, cadd0 b4, below_c (hc.ext0 x4) o N i fun w9 e9 => ⟨_, rfl, k _ (x4.trans e9)⟩⟩
theorem refSelect_c (hc : Cells w A (ints .i64 S.mi)) (o : S.Ok) (N : Int) (i : Int) {R : Ending → World → Prop} (k : ∀ w', Ext [] w w' → R (.returned (.int .i64 (selI S i))) w') :
    Calls Tryd.prog 83 #[.agg #[.int .i64 N, .slice A S.count c], .int .i64 i] w R := by
  apply berthref01_Select_nf
  intro w4 h4
  obtain ⟨b4, x4, z4⟩ := box_new (cs := [.int .i64 N, .slice A S.count c]) h4
  have bad : ¬ (0 ≤ i ∧ i < (S.count : Int)) → R (.returned (.int .i64 (-1))) w4 := fun h => by
    have : selI S i = -1 := by unfold selI; rw [if_neg h]
    rw [this] at k; exact k _ x4
  refine sel_dec (fun h => bad (by omega)) (fun h => ⟨_, _, _, cadd b4 (i := 1) rfl, sel_dec (fun h2 => bad (by omega)) (fun h2 => ⟨_, _, _, cadd b4 (i := 1) rfl, ?_⟩)⟩)
  obtain ⟨j, rfl⟩ : ∃ j : Nat, i = j := ⟨i.toNat, by omega⟩
  refine lk (hc.ext0 x4) (by omega) fun ad hcell => ⟨_, hcell, ?_⟩
  have : selI S (j : Int) = (mv S j : Int) := by unfold selI; rw [if_pos (by omega), Int.toNat_natCast]
  rw [this] at k; exact k _ x4
theorem larger_c {T : SetV} {A' : Option Addr} {n n' c' : Nat} {R : Ending → World → Prop} (k : ∀ w', Ext [] w w' → R (.returned (.int .i64 ((max S.N T.N : Nat) : Int))) w') :
    Calls Tryd.prog 91 #[.agg #[.int .i64 (S.N : Int), .slice A n c], .agg #[.int .i64 (T.N : Int), .slice A' n' c']] w R := by
  apply berthref01_larger_nf
  intro w5 h5 w6 h6
  obtain ⟨b5, x5, z5⟩ := box_new (cs := [.int .i64 (S.N : Int), .slice A n c]) h5
  obtain ⟨b6, x6, z6⟩ := box_new (cs := [.int .i64 (T.N : Int), .slice A' n' c']) h6
  have e := x5.trans x6
  refine ⟨_, cadd (b5.ext0 x6) (i := 0) rfl, _, cadd b6 (i := 0) rfl, sel_dec (fun h => ⟨_, cadd (b5.ext0 x6) (i := 0) rfl, ?_⟩) (fun h => ⟨_, cadd b6 (i := 0) rfl, ?_⟩)⟩
  · rw [show max S.N T.N = S.N by omega] at k; exact k _ e
  · rw [show max S.N T.N = T.N by omega] at k; exact k _ e
end
end Go.Proofs.YtbaglnffgbnekaaDoor
namespace Go.Proofs.YtbaglnffgbnekaaDoor
open Go Go.V Go.B

theorem snoc_c {w : World} {N0 n c : Nat} {A : Option Addr} {xs : List Int} (own : w.ownsRow N0 3 1 (.slice A n c) n (ints .i64 xs)) (hN : N0 ≤ w.heap.size) (hs : n < 1000000) (x : Int) {K : Option Addr → Nat → Nat → World → Prop}
    (k : ∀ A' c' w', Ext (ownF A) w w' → w'.ownsRow N0 3 1 (.slice A' (n + 1) c') (n + 1) (ints .i64 (xs ++ [x])) → K A' (n + 1) c' w') :
    ∀ w15, w15 = World.alloc w (.cells #[.int .i64 x] 3) → ∃ A16 A16l A16c, ∃ w17, Sem.run Tryd.prog (Builtin.append_ #[22, 22] 22 #[.slice A n c, .slice (some ⟨Array.size (World.heap w), 0, none⟩) 1 1]) w15 = .ok (.slice A16 A16l A16c) w17 ∧ K A16 A16l A16c w17 := by
  intro w15 h15
  obtain ⟨A', c', w', hr, ho, he⟩ := app1 (P := Tryd.prog) (t := 22) (ty := 22) (e := 3) (bytes := 8) (z := .int .i64 0) (by kernel_rfl) (by kernel_rfl) rfl own (x := .int .i64 x) rfl hN (by omega) (by omega)
  rw [h15]
  exact ⟨A', n + 1, c', w', hr, k A' c' w' he (by rwa [show ints .i64 xs ++ [Value.int .i64 x] = ints .i64 (xs ++ [x]) by simp [ints]] at ho)⟩
/-- The places below t that P names. -/
def pk (P : Nat → Bool) (t : Nat) : List Nat := (List.range t).filter P
theorem pk_none {P : Nat → Bool} {t x : Nat} (h : t ≤ x) (hn : ∀ y, t ≤ y → y < x → P y = false) : pk P x = pk P t := by
  obtain ⟨d, rfl⟩ := Nat.le.dest h
  induction d with
  | zero => rfl
  | succ d ih =>
    have := ih (by omega) fun y h1 h2 => hn y h1 (by omega)
    unfold pk at this ⊢
    rw [show t + (d + 1) = t + d + 1 by omega, List.range_succ, List.filter_append, this, List.filter_cons, if_neg (by rw [hn (t + d) (by omega) (by omega)]; simp)]
    simp
theorem pk_step {P : Nat → Bool} {t x : Nat} (h : t ≤ x) (hn : ∀ y, t ≤ y → y < x → P y = false) : pk P (x + 1) = pk P t ++ (if P x then [x] else []) := by
  rw [← pk_none h hn]
  unfold pk
  rw [List.range_succ, List.filter_append, List.filter_cons]
  simp
theorem gap {S : SetV} {t x : Nat} (hx : S.mem x = true) (he : S.rank x = S.rank t) : ∀ y, t ≤ y → y < x → S.mem y = false := fun y h1 h2 => by
  cases hm : S.mem y with
  | false => rfl
  | true =>
    have h3 := rank_lt S hm h2
    have h4 := rank_mono S h1
    omega
theorem next_at {S : SetV} {t : Nat} (h : S.rank t < S.count) : t ≤ mv S (S.rank t) ∧ S.mem (mv S (S.rank t)) = true ∧ (∀ y, t ≤ y → y < mv S (S.rank t) → S.mem y = false) ∧ S.rank (mv S (S.rank t) + 1) = S.rank t + 1 := by
  obtain ⟨_, h2, h3⟩ := mv_at h
  have h4 : t ≤ mv S (S.rank t) := by
    rcases Nat.lt_or_ge (mv S (S.rank t)) t with h5 | h5
    · have := rank_lt S h2 h5; omega
    · exact h5
  have h5 := rank_succ S (mv S (S.rank t))
  rw [if_pos h2, h3] at h5
  exact ⟨h4, h2, gap h2 h3, h5⟩
theorem no_more {S : SetV} (o : S.Ok) {t : Nat} (h : S.count ≤ S.rank t) : ∀ y, t ≤ y → S.mem y = false := fun y h1 => by
  cases hm : S.mem y with
  | false => rfl
  | true =>
    have h3 := rank_count o hm
    have h4 := rank_mono S h1
    omega
def pickP (A B : SetV) (al ot bo : Bool) (i : Nat) : Bool := (A.mem i && !B.mem i && al) || (!A.mem i && B.mem i && ot) || (A.mem i && B.mem i && bo)
theorem pick_c {w : World} {SA SB : SetV} {A B : Option Addr} {ca cb : Nat} (hA : Cells w A (ints .i64 SA.mi)) (hB : Cells w B (ints .i64 SB.mi)) (oA : SA.Ok) (oB : SB.Ok) (al ot bo : Bool) {R : Ending → World → Prop}
    (k : ∀ M c w' (xs : List Nat), Ext [] w w' → w'.ownsRow w.heap.size 3 1 (.slice M xs.length c) xs.length (ints .i64 (xs.map Int.ofNat)) → (∀ C : SetV, C.Ok → (∀ i, C.mem i = pickP SA SB al ot bo i) → C.members = xs) → (xs.length = 0 ↔ ∀ i, pickP SA SB al ot bo i = false) → R (.returned (.slice M xs.length c)) w') :
    Calls Tryd.prog 92 #[.slice A SA.count ca, .slice B SB.count cb, .bool al, .bool ot, .bool bo] w R := by
  have hca := cnt_le oA
  have hcb := cnt_le oB
  apply berthref01_pick_nf
  obtain ⟨P, hP⟩ : ∃ P, P = pickP SA SB al ot bo := ⟨_, rfl⟩
  obtain ⟨I, hI⟩ : ∃ I : Option Addr → Nat → Nat → Nat → Nat → World → Prop, I = fun m ml mc i j w' => ∃ t, i = SA.rank t ∧ j = SB.rank t ∧ ml = (pk P t).length ∧ ml ≤ i + j ∧ Ext [] w w' ∧ w'.ownsRow w.heap.size 3 1 (.slice m ml mc) ml (ints .i64 ((pk P t).map Int.ofNat)) := ⟨_, rfl⟩
  refine ⟨fun m ml mc i j w' => ∃ a b : Nat, i = a ∧ j = b ∧ I m ml mc a b w', fun _ _ _ i j _ => SA.count + SB.count - i.toNat - j.toNat, ⟨0, 0, rfl, rfl, by
    rw [hI]
    exact ⟨0, by simp [SetV.rank], by simp [SetV.rank], rfl, by simp, Ext.refl _ _, own_nil _ _ _⟩⟩, ?_⟩
  rintro m ml mc _ _ _ w12 ⟨i, j, rfl, rfl, hi⟩
  rw [hI] at hi
  obtain ⟨t, hia, hjb, hml, hmij, e12, own12⟩ := hi
  have hira := rank_cnt oA t
  have hjrb := rank_cnt oB t
  have s12 := e12.size
  have dr : ∀ {w'}, Ext [] w w' → Ext [] w w'.drew := fun e => e.drew
  -- one more, and one gone by
  have keepA : ∀ (w1 : World), Ext [] w12 w1 → i < SA.count → (∀ y, t ≤ y → y ≤ mv SA i → SB.mem y = false) →
      (∀ (x : Int), x = (mv SA i : Int) → al = true → ∀ w15, w15 = World.alloc w1 (.cells #[.int .i64 x] 3) → ∃ A16 A16l A16c, ∃ w17, Sem.run Tryd.prog (Builtin.append_ #[22, 22] 22 #[.slice m ml mc, .slice (some ⟨Array.size (World.heap w1), 0, none⟩) 1 1]) w15 = .ok (.slice A16 A16l A16c) w17 ∧
        (∃ a b : Nat, IntKind.wrap .i64 ((i : Int) + 1) = (a : Int) ∧ (j : Int) = (b : Int) ∧ I A16 A16l A16c a b w17) ∧ SA.count + SB.count - (IntKind.wrap .i64 ((i : Int) + 1)).toNat - (j : Int).toNat < SA.count + SB.count - (i : Int).toNat - (j : Int).toNat) ∧
      (al = false → (∃ a b : Nat, IntKind.wrap .i64 ((i : Int) + 1) = (a : Int) ∧ (j : Int) = (b : Int) ∧ I m ml mc a b w1) ∧ SA.count + SB.count - (IntKind.wrap .i64 ((i : Int) + 1)).toNat - (j : Int).toNat < SA.count + SB.count - (i : Int).toNat - (j : Int).toNat) := by
    intro w1 e1 hlt hnb
    rw [up64 i (by omega), hI]
    subst hia
    obtain ⟨n1, n2, n3, n4⟩ := next_at (S := SA) (t := t) hlt
    have nB : SB.rank (mv SA (SA.rank t) + 1) = SB.rank t := (rank_none SB (by omega) fun y h1 h2 => hnb y h1 (by omega)).symm
    have hPx : P (mv SA (SA.rank t)) = al := by rw [hP]; unfold pickP; rw [n2, hnb _ n1 (Nat.le_refl _)]; simp
    have hst := pk_step (P := P) n1 fun y h1 h2 => by rw [hP]; unfold pickP; rw [n3 y h1 h2, hnb y h1 (by omega)]; simp
    rw [hPx] at hst
    refine ⟨fun x hx hal => ?_, fun hal => ⟨⟨_, j, rfl, rfl, mv SA (SA.rank t) + 1, n4.symm, by rw [nB]; exact hjb, by rw [hst, hal]; simpa using hml, by omega, e12.trans e1, ?_⟩, by simp only [Int.toNat_natCast]; omega⟩⟩
    · refine snoc_c (own_ext own12 e1 (by simp)) (by have := e1.size; omega) (by omega) x fun A' c' w' x' own' => ⟨⟨_, j, rfl, rfl, mv SA (SA.rank t) + 1, n4.symm, by rw [nB]; exact hjb, by rw [hst, hal]; simpa using hml, by omega, (e12.trans e1).trans' x' (fun b hb => .inr (own_base own12 b hb).1), ?_⟩, by simp only [Int.toNat_natCast]; omega⟩
      rw [hst, hal, List.map_append]
      subst hx
      simpa using own'
    · rw [hst, hal]
      simpa using own_ext own12 e1 (by simp)
  have keepB : ∀ (w1 : World), Ext [] w12 w1 → j < SB.count → (∀ y, t ≤ y → y ≤ mv SB j → SA.mem y = false) →
      (∀ (x : Int), x = (mv SB j : Int) → ot = true → ∀ w15, w15 = World.alloc w1 (.cells #[.int .i64 x] 3) → ∃ A16 A16l A16c, ∃ w17, Sem.run Tryd.prog (Builtin.append_ #[22, 22] 22 #[.slice m ml mc, .slice (some ⟨Array.size (World.heap w1), 0, none⟩) 1 1]) w15 = .ok (.slice A16 A16l A16c) w17 ∧
        (∃ a b : Nat, (i : Int) = (a : Int) ∧ IntKind.wrap .i64 ((j : Int) + 1) = (b : Int) ∧ I A16 A16l A16c a b w17) ∧ SA.count + SB.count - (i : Int).toNat - (IntKind.wrap .i64 ((j : Int) + 1)).toNat < SA.count + SB.count - (i : Int).toNat - (j : Int).toNat) ∧
      (ot = false → (∃ a b : Nat, (i : Int) = (a : Int) ∧ IntKind.wrap .i64 ((j : Int) + 1) = (b : Int) ∧ I m ml mc a b w1) ∧ SA.count + SB.count - (i : Int).toNat - (IntKind.wrap .i64 ((j : Int) + 1)).toNat < SA.count + SB.count - (i : Int).toNat - (j : Int).toNat) := by
    intro w1 e1 hlt hnb
    rw [up64 j (by omega), hI]
    subst hjb
    obtain ⟨n1, n2, n3, n4⟩ := next_at (S := SB) (t := t) hlt
    have nA : SA.rank (mv SB (SB.rank t) + 1) = SA.rank t := (rank_none SA (by omega) fun y h1 h2 => hnb y h1 (by omega)).symm
    have hPx : P (mv SB (SB.rank t)) = ot := by rw [hP]; unfold pickP; rw [n2, hnb _ n1 (Nat.le_refl _)]; simp
    have hst := pk_step (P := P) n1 fun y h1 h2 => by rw [hP]; unfold pickP; rw [n3 y h1 h2, hnb y h1 (by omega)]; simp
    rw [hPx] at hst
    refine ⟨fun x hx hal => ?_, fun hal => ⟨⟨i, _, rfl, rfl, mv SB (SB.rank t) + 1, by rw [nA]; exact hia, n4.symm, by rw [hst, hal]; simpa using hml, by omega, e12.trans e1, ?_⟩, by simp only [Int.toNat_natCast]; omega⟩⟩
    · refine snoc_c (own_ext own12 e1 (by simp)) (by have := e1.size; omega) (by omega) x fun A' c' w' x' own' => ⟨⟨i, _, rfl, rfl, mv SB (SB.rank t) + 1, by rw [nA]; exact hia, n4.symm, by rw [hst, hal]; simpa using hml, by omega, (e12.trans e1).trans' x' (fun b hb => .inr (own_base own12 b hb).1), ?_⟩, by simp only [Int.toNat_natCast]; omega⟩
      rw [hst, hal, List.map_append]
      subst hx
      simpa using own'
    · rw [hst, hal]
      simpa using own_ext own12 e1 (by simp)
  have keepX : ∀ (w1 : World), Ext [] w12 w1 → i < SA.count → j < SB.count → mv SA i = mv SB j →
      (∀ (x : Int), x = (mv SA i : Int) → bo = true → ∀ w15, w15 = World.alloc w1 (.cells #[.int .i64 x] 3) → ∃ A16 A16l A16c, ∃ w17, Sem.run Tryd.prog (Builtin.append_ #[22, 22] 22 #[.slice m ml mc, .slice (some ⟨Array.size (World.heap w1), 0, none⟩) 1 1]) w15 = .ok (.slice A16 A16l A16c) w17 ∧
        (∃ a b : Nat, IntKind.wrap .i64 ((i : Int) + 1) = (a : Int) ∧ IntKind.wrap .i64 ((j : Int) + 1) = (b : Int) ∧ I A16 A16l A16c a b w17) ∧ SA.count + SB.count - (IntKind.wrap .i64 ((i : Int) + 1)).toNat - (IntKind.wrap .i64 ((j : Int) + 1)).toNat < SA.count + SB.count - (i : Int).toNat - (j : Int).toNat) ∧
      (bo = false → (∃ a b : Nat, IntKind.wrap .i64 ((i : Int) + 1) = (a : Int) ∧ IntKind.wrap .i64 ((j : Int) + 1) = (b : Int) ∧ I m ml mc a b w1) ∧ SA.count + SB.count - (IntKind.wrap .i64 ((i : Int) + 1)).toNat - (IntKind.wrap .i64 ((j : Int) + 1)).toNat < SA.count + SB.count - (i : Int).toNat - (j : Int).toNat) := by
    intro w1 e1 hlt hltb heq
    rw [up64 i (by omega), up64 j (by omega), hI]
    subst hia
    subst hjb
    obtain ⟨n1, n2, n3, n4⟩ := next_at (S := SA) (t := t) hlt
    obtain ⟨_, u2, u3, u4⟩ := next_at (S := SB) (t := t) hltb
    rw [← heq] at u2 u3 u4
    have hPx : P (mv SA (SA.rank t)) = bo := by rw [hP]; unfold pickP; rw [n2, u2]; simp
    have hst := pk_step (P := P) n1 fun y h1 h2 => by rw [hP]; unfold pickP; rw [n3 y h1 h2, u3 y h1 h2]; simp
    rw [hPx] at hst
    refine ⟨fun x hx hal => ?_, fun hal => ⟨⟨_, _, rfl, rfl, mv SA (SA.rank t) + 1, n4.symm, u4.symm, by rw [hst, hal]; simpa using hml, by omega, e12.trans e1, ?_⟩, by simp only [Int.toNat_natCast]; omega⟩⟩
    · refine snoc_c (own_ext own12 e1 (by simp)) (by have := e1.size; omega) (by omega) x fun A' c' w' x' own' => ⟨⟨_, _, rfl, rfl, mv SA (SA.rank t) + 1, n4.symm, u4.symm, by rw [hst, hal]; simpa using hml, by omega, (e12.trans e1).trans' x' (fun b hb => .inr (own_base own12 b hb).1), ?_⟩, by simp only [Int.toNat_natCast]; omega⟩
      rw [hst, hal, List.map_append]
      subst hx
      simpa using own'
    · rw [hst, hal]
      simpa using own_ext own12 e1 (by simp)
  have d1 : Ext [] w12 w12.drew := (Ext.refl _ _).drew
  have d2 : Ext [] w12 w12.drew.drew := d1.drew
  have hA1 := hA.ext0 e12
  have hB1 := hB.ext0 e12
  -- the cases
  have caseA : ∀ {Q : Prop}, i < SA.count → j < SB.count → mv SA i < mv SB j → ((∀ y, t ≤ y → y ≤ mv SA i → SB.mem y = false) → Q) → Q := fun h1 h2 h3 f => f fun y g1 g2 => by
    subst hjb
    exact (next_at (S := SB) (t := t) h2).2.2.1 y g1 (by omega)
  have caseB : ∀ {Q : Prop}, i < SA.count → j < SB.count → mv SB j < mv SA i → ((∀ y, t ≤ y → y ≤ mv SB j → SA.mem y = false) → Q) → Q := fun h1 h2 h3 f => f fun y g1 g2 => by
    subst hia
    exact (next_at (S := SA) (t := t) h1).2.2.1 y g1 (by omega)
  have noB : SB.count ≤ j → ∀ y, t ≤ y → SB.mem y = false := fun h => no_more oB (by omega)
  have noA : SA.count ≤ i → ∀ y, t ≤ y → SA.mem y = false := fun h => no_more oA (by omega)
  refine sel_dec (fun hia' => ?_) (fun hia' => ?_)
  · have hlt : i < SA.count := by omega
    refine sel_dec (fun hjb' => ?_) (fun hjb' => ?_)
    · obtain ⟨k1, k2⟩ := keepA _ d1 hlt fun y h _ => noB (by omega) y h
      refine sel_intro (fun hal => lk (hA1.ext0 d1) hlt fun ad hc => ⟨_, hc, k1 _ rfl hal⟩) (fun hal => k2 hal)
    · have hltb : j < SB.count := by omega
      refine sel_dec (fun _ => ?_) (fun h => by omega)
      refine lk hA1 hlt fun ad hc => ⟨_, hc, lk hB1 hltb fun ad2 hc2 => ⟨_, hc2, sel_dec (fun hab => ?_) (fun hab => ?_)⟩⟩
      · obtain ⟨k1, k2⟩ := caseA (Q := _) hlt hltb (by omega) fun f => keepA _ d1 hlt f
        exact sel_intro (fun hal => lk (hA1.ext0 d1) hlt fun ad hc => ⟨_, hc, k1 _ rfl hal⟩) (fun hal => k2 hal)
      · refine sel_dec (fun h => by omega) (fun _ => lk (hB1.ext0 d1) hltb fun ad3 hc3 => ⟨_, hc3, lk (hA1.ext0 d1) hlt fun ad4 hc4 => ⟨_, hc4, sel_dec (fun hba => ?_) (fun hba => ?_)⟩⟩)
        · obtain ⟨k1, k2⟩ := caseB (Q := _) hlt hltb (by omega) fun f => keepB _ d2 hltb f
          exact sel_intro (fun hal => lk (hB1.ext0 d2) hltb fun ad hc => ⟨_, hc, k1 _ rfl hal⟩) (fun hal => k2 hal)
        · obtain ⟨k1, k2⟩ := keepX _ d2 hlt hltb (by omega)
          exact sel_intro (fun hal => lk (hA1.ext0 d2) hlt fun ad hc => ⟨_, hc, k1 _ rfl hal⟩) (fun hal => k2 hal)
  · refine sel_dec (fun hjb' => ?_) (fun hjb' => ?_)
    · have hltb : j < SB.count := by omega
      refine sel_dec (fun h => by omega) (fun _ => sel_dec (fun h => by omega) (fun _ => sel_dec (fun _ => ?_) (fun h => by omega)))
      obtain ⟨k1, k2⟩ := keepB _ d2 hltb fun y h _ => noA (by omega) y h
      exact sel_intro (fun hal => lk (hB1.ext0 d2) hltb fun ad hc => ⟨_, hc, k1 _ rfl hal⟩) (fun hal => k2 hal)
    · have nA := noA (by omega)
      have nB := noB (by omega)
      have nP : ∀ y, t ≤ y → P y = false := fun y h => by rw [hP]; unfold pickP; rw [nA y h, nB y h]; simp
      subst hml
      refine k m mc w12 (pk P t) e12 own12 (fun C oC hC => ?_) ⟨fun h0 y => ?_, fun h => ?_⟩
      · have hCm : C.members = pk P C.N := by
          unfold SetV.members pk
          congr 1
          funext y; rw [hC, hP]
        rw [hCm]
        rcases Nat.le_total t C.N with h | h
        · exact pk_none h fun y h1 _ => nP y h1
        · refine (pk_none h fun y h1 _ => ?_).symm
          rw [hP, ← hC]
          cases hm : C.mem y with
          | false => rfl
          | true => have := oC.mem_lt hm; omega
      · rw [← hP]
        cases hy : P y with
        | false => rfl
        | true =>
          have hlt : y < t := by
            rcases Nat.lt_or_ge y t with h | h
            · exact h
            · rw [nP y h] at hy; cases hy
          have : y ∈ pk P t := by unfold pk; rw [List.mem_filter, List.mem_range]; exact ⟨hlt, hy⟩
          have hn : pk P t = [] := List.eq_nil_of_length_eq_zero h0
          rw [hn] at this; cases this
      · have : pk P t = [] := by
          unfold pk
          rw [List.filter_eq_nil_iff]
          intro y _
          rw [hP, h y]; simp
        rw [this]; rfl
end Go.Proofs.YtbaglnffgbnekaaDoor
namespace Go.Proofs.YtbaglnffgbnekaaDoor
open Go Go.V Go.B

/-- A document's set in memory. -/
structure Rf (w : World) (S : SetV) (A : Option Addr) (n c : Nat) : Prop where
  ok : S.Ok
  cells : Cells w A (ints .i64 S.mi)
  len : n = S.count
  cap : n ≤ c
theorem Rf.ext {F : List Nat} {w w' : World} {S : SetV} {A : Option Addr} {n c : Nat} (h : Rf w S A n c) (e : Ext F w w') (hF : ∀ b ∈ ownF A, b ∉ F) : Rf w' S A n c := ⟨h.ok, h.cells.ext e hF, h.len, h.cap⟩
theorem Rf.ext0 {w w' : World} {S : SetV} {A : Option Addr} {n c : Nat} (h : Rf w S A n c) (e : Ext [] w w') : Rf w' S A n c := h.ext e (by simp)
theorem Rf.of_own {w : World} {B n c : Nat} {A : Option Addr} {xs : List Nat} (own : w.ownsRow B 3 1 (.slice A n c) n (ints .i64 (xs.map Int.ofNat))) {C : SetV} (oC : C.Ok) (hm : C.members = xs) : Rf w C A n c := by
  have hl := own.1
  have hmi : C.mi = xs.map Int.ofNat := by unfold SetV.mi; rw [hm]
  refine ⟨oC, by rw [hmi]; exact own_cells own, ?_, own_cap own⟩
  rw [← members_length, hm]
  simp [ints] at hl
  omega
def rv (N : Int) (A : Option Addr) (n c : Nat) : Value := .agg #[.int .i64 N, .slice A n c]
theorem i50s : (Tryd.prog.info? 50).map (·.size) = some 2 := by kernel_rfl
/-- A set is put into its box and read again. -/
theorem box_ret {w : World} {p : Nat} {vs : List Value} (b : BlkT w p vs 50) (hv : vs.length = 2) (N : Int) (A : Option Addr) (n c : Nat) {K : Int → Option Addr → Nat → Nat → World → Prop} (k : ∀ w', Ext [p] w w' → K N A n c w') :
    ∃ w', Sem.run Tryd.prog (Instr.storeAt 50 (.pointer (some ⟨p, 0, none⟩)) (.agg #[.int .i64 N, .slice A n c])) w = .ok () w' ∧
      ∃ n9, ∃ A10, ∃ A10l, ∃ A10c, V.cellsC (fun a_ x_ => World.cell? w' a_ = some x_) ⟨p, 0, none⟩ [.int .i64 n9, .slice A10 A10l A10c] ∧ K n9 A10 A10l A10c w' := by
  obtain ⟨w', hr, b', x'⟩ := storeW (P := Tryd.prog) (t := 50) (n := 2) (vs := [.int .i64 N, .slice A n c]) i50s b rfl hv (fun v hv => by simp at hv; rcases hv with rfl | rfl <;> rfl)
  exact ⟨w', hr, _, _, _, _, cadd0 b', k w' x'⟩
section
variable {w : World} {SA SB : SetV} {A B : Option Addr} {n c n' c' : Nat}
theorem refAnd_c (ha : Rf w SA A n c) (hb : Rf w SB B n' c') {R : Ending → World → Prop}
    (k : ∀ M m d w', Ext [] w w' → (∀ b ∈ ownF M, w.heap.size ≤ b ∧ b < w'.heap.size) → (∀ C : SetV, C.Ok → (∀ i, C.mem i = pickP SA SB false false true i) → Rf w' C M m d) → R (.returned (rv ((max SA.N SB.N : Nat) : Int) M m d)) w') :
    Calls Tryd.prog 67 #[rv (SA.N : Int) A n c, rv (SB.N : Int) B n' c'] w R := by
  obtain rfl := ha.len
  obtain rfl := hb.len
  unfold rv
  apply berthref01_And_nf
  intro w5 h5 w6 h6 w7 h7
  obtain ⟨b5, x5, z5⟩ := box_new (cs := [.int .i64 (SA.N : Int), .slice A SA.count c]) h5
  obtain ⟨b6, x6, z6⟩ := box_new (cs := [.int .i64 (SB.N : Int), .slice B SB.count c']) h6
  obtain ⟨b7, x7, z7⟩ := box_new (cs := [.int .i64 0, .slice none 0 0]) h7
  have b5' := (b5.ext0 x6).ext0 x7
  have b6' := b6.ext0 x7
  have e7 := (x5.trans x6).trans x7
  have d7 : Ext [] w7 w7.drew := (Ext.refl _ _).drew
  refine ⟨fun w' => Ext [] w7 w', d7, _, _, _, _, cellsC_S fun w' (e : Ext [] w7 w') => cadd0 (b5'.ext0 e), _, _, _, _, cellsC_S fun w' (e : Ext [] w7 w') => cadd0 (b6'.ext0 e), _, _, _, fun w' e => cadd (b5'.ext0 e) (i := 1) rfl, _, _, _, fun w' e => cadd (b6'.ext0 e) (i := 1) rfl, larger_c fun w18 e18 => ⟨_, rfl, d7.trans e18, ?_⟩⟩
  have f18 := e7.trans (d7.trans e18)
  refine pick_c (ha.cells.ext0 f18) (hb.cells.ext0 f18) ha.ok hb.ok false false true fun M d w21 xs e21 own hC h0 => ⟨_, _, _, rfl, (d7.trans e18).trans e21, ?_⟩
  have s18 := f18.size
  have b7' := b7.ext0 ((d7.trans e18).trans e21)
  refine box_ret b7' rfl _ M xs.length d fun w22 x22 => k M xs.length d w22 ((f18.trans e21).trans' x22 (fun b hb => .inr (by have := x5.size; have := x6.size; simp at hb; omega))) (fun b hb => by have := own_base own b hb; have := x22.size; omega) fun C oC hCm => (Rf.of_own own oC (hC C oC hCm)).ext x22 fun b hb hm => ?_
  have h1 := (own_base own b hb).1
  have h2 := b7.lt
  have h3 := (d7.trans e18).size
  simp at hm
  omega
theorem refOr_c (ha : Rf w SA A n c) (hb : Rf w SB B n' c') {R : Ending → World → Prop}
    (k : ∀ M m d w', Ext [] w w' → (∀ b ∈ ownF M, w.heap.size ≤ b ∧ b < w'.heap.size) → (∀ C : SetV, C.Ok → (∀ i, C.mem i = pickP SA SB true true true i) → Rf w' C M m d) → R (.returned (rv ((max SA.N SB.N : Nat) : Int) M m d)) w') :
    Calls Tryd.prog 68 #[rv (SA.N : Int) A n c, rv (SB.N : Int) B n' c'] w R := by
  obtain rfl := ha.len
  obtain rfl := hb.len
  unfold rv
  apply berthref01_Or_nf
  intro w5 h5 w6 h6 w7 h7
  obtain ⟨b5, x5, z5⟩ := box_new (cs := [.int .i64 (SA.N : Int), .slice A SA.count c]) h5
  obtain ⟨b6, x6, z6⟩ := box_new (cs := [.int .i64 (SB.N : Int), .slice B SB.count c']) h6
  obtain ⟨b7, x7, z7⟩ := box_new (cs := [.int .i64 0, .slice none 0 0]) h7
  have b5' := (b5.ext0 x6).ext0 x7
  have b6' := b6.ext0 x7
  have e7 := (x5.trans x6).trans x7
  have d7 : Ext [] w7 w7.drew := (Ext.refl _ _).drew
  refine ⟨fun w' => Ext [] w7 w', d7, _, _, _, _, cellsC_S fun w' (e : Ext [] w7 w') => cadd0 (b5'.ext0 e), _, _, _, _, cellsC_S fun w' (e : Ext [] w7 w') => cadd0 (b6'.ext0 e), _, _, _, fun w' e => cadd (b5'.ext0 e) (i := 1) rfl, _, _, _, fun w' e => cadd (b6'.ext0 e) (i := 1) rfl, larger_c fun w18 e18 => ⟨_, rfl, d7.trans e18, ?_⟩⟩
  have f18 := e7.trans (d7.trans e18)
  refine pick_c (ha.cells.ext0 f18) (hb.cells.ext0 f18) ha.ok hb.ok true true true fun M d w21 xs e21 own hC h0 => ⟨_, _, _, rfl, (d7.trans e18).trans e21, ?_⟩
  have s18 := f18.size
  have b7' := b7.ext0 ((d7.trans e18).trans e21)
  refine box_ret b7' rfl _ M xs.length d fun w22 x22 => k M xs.length d w22 ((f18.trans e21).trans' x22 (fun b hb => .inr (by have := x5.size; have := x6.size; simp at hb; omega))) (fun b hb => by have := own_base own b hb; have := x22.size; omega) fun C oC hCm => (Rf.of_own own oC (hC C oC hCm)).ext x22 fun b hb hm => ?_
  have h1 := (own_base own b hb).1
  have h2 := b7.lt
  have h3 := (d7.trans e18).size
  simp at hm
  omega
theorem refAndNot_c (ha : Rf w SA A n c) (hb : Rf w SB B n' c') {R : Ending → World → Prop}
    (k : ∀ M m d w', Ext [] w w' → (∀ b ∈ ownF M, w.heap.size ≤ b ∧ b < w'.heap.size) → (∀ C : SetV, C.Ok → (∀ i, C.mem i = pickP SA SB true false false i) → Rf w' C M m d) → R (.returned (rv ((max SA.N SB.N : Nat) : Int) M m d)) w') :
    Calls Tryd.prog 69 #[rv (SA.N : Int) A n c, rv (SB.N : Int) B n' c'] w R := by
  obtain rfl := ha.len
  obtain rfl := hb.len
  unfold rv
  apply berthref01_AndNot_nf
  intro w5 h5 w6 h6 w7 h7
  obtain ⟨b5, x5, z5⟩ := box_new (cs := [.int .i64 (SA.N : Int), .slice A SA.count c]) h5
  obtain ⟨b6, x6, z6⟩ := box_new (cs := [.int .i64 (SB.N : Int), .slice B SB.count c']) h6
  obtain ⟨b7, x7, z7⟩ := box_new (cs := [.int .i64 0, .slice none 0 0]) h7
  have b5' := (b5.ext0 x6).ext0 x7
  have b6' := b6.ext0 x7
  have e7 := (x5.trans x6).trans x7
  have d7 : Ext [] w7 w7.drew := (Ext.refl _ _).drew
  refine ⟨fun w' => Ext [] w7 w', d7, _, _, _, _, cellsC_S fun w' (e : Ext [] w7 w') => cadd0 (b5'.ext0 e), _, _, _, _, cellsC_S fun w' (e : Ext [] w7 w') => cadd0 (b6'.ext0 e), _, _, _, fun w' e => cadd (b5'.ext0 e) (i := 1) rfl, _, _, _, fun w' e => cadd (b6'.ext0 e) (i := 1) rfl, larger_c fun w18 e18 => ⟨_, rfl, d7.trans e18, ?_⟩⟩
  have f18 := e7.trans (d7.trans e18)
  refine pick_c (ha.cells.ext0 f18) (hb.cells.ext0 f18) ha.ok hb.ok true false false fun M d w21 xs e21 own hC h0 => ⟨_, _, _, rfl, (d7.trans e18).trans e21, ?_⟩
  have s18 := f18.size
  have b7' := b7.ext0 ((d7.trans e18).trans e21)
  refine box_ret b7' rfl _ M xs.length d fun w22 x22 => k M xs.length d w22 ((f18.trans e21).trans' x22 (fun b hb => .inr (by have := x5.size; have := x6.size; simp at hb; omega))) (fun b hb => by have := own_base own b hb; have := x22.size; omega) fun C oC hCm => (Rf.of_own own oC (hC C oC hCm)).ext x22 fun b hb hm => ?_
  have h1 := (own_base own b hb).1
  have h2 := b7.lt
  have h3 := (d7.trans e18).size
  simp at hm
  omega
theorem refXor_c (ha : Rf w SA A n c) (hb : Rf w SB B n' c') {R : Ending → World → Prop}
    (k : ∀ M m d w', Ext [] w w' → (∀ b ∈ ownF M, w.heap.size ≤ b ∧ b < w'.heap.size) → (∀ C : SetV, C.Ok → (∀ i, C.mem i = pickP SA SB true true false i) → Rf w' C M m d) → R (.returned (rv ((max SA.N SB.N : Nat) : Int) M m d)) w') :
    Calls Tryd.prog 70 #[rv (SA.N : Int) A n c, rv (SB.N : Int) B n' c'] w R := by
  obtain rfl := ha.len
  obtain rfl := hb.len
  unfold rv
  apply berthref01_Xor_nf
  intro w5 h5 w6 h6 w7 h7
  obtain ⟨b5, x5, z5⟩ := box_new (cs := [.int .i64 (SA.N : Int), .slice A SA.count c]) h5
  obtain ⟨b6, x6, z6⟩ := box_new (cs := [.int .i64 (SB.N : Int), .slice B SB.count c']) h6
  obtain ⟨b7, x7, z7⟩ := box_new (cs := [.int .i64 0, .slice none 0 0]) h7
  have b5' := (b5.ext0 x6).ext0 x7
  have b6' := b6.ext0 x7
  have e7 := (x5.trans x6).trans x7
  have d7 : Ext [] w7 w7.drew := (Ext.refl _ _).drew
  refine ⟨fun w' => Ext [] w7 w', d7, _, _, _, _, cellsC_S fun w' (e : Ext [] w7 w') => cadd0 (b5'.ext0 e), _, _, _, _, cellsC_S fun w' (e : Ext [] w7 w') => cadd0 (b6'.ext0 e), _, _, _, fun w' e => cadd (b5'.ext0 e) (i := 1) rfl, _, _, _, fun w' e => cadd (b6'.ext0 e) (i := 1) rfl, larger_c fun w18 e18 => ⟨_, rfl, d7.trans e18, ?_⟩⟩
  have f18 := e7.trans (d7.trans e18)
  refine pick_c (ha.cells.ext0 f18) (hb.cells.ext0 f18) ha.ok hb.ok true true false fun M d w21 xs e21 own hC h0 => ⟨_, _, _, rfl, (d7.trans e18).trans e21, ?_⟩
  have s18 := f18.size
  have b7' := b7.ext0 ((d7.trans e18).trans e21)
  refine box_ret b7' rfl _ M xs.length d fun w22 x22 => k M xs.length d w22 ((f18.trans e21).trans' x22 (fun b hb => .inr (by have := x5.size; have := x6.size; simp at hb; omega))) (fun b hb => by have := own_base own b hb; have := x22.size; omega) fun C oC hCm => (Rf.of_own own oC (hC C oC hCm)).ext x22 fun b hb hm => ?_
  have h1 := (own_base own b hb).1
  have h2 := b7.lt
  have h3 := (d7.trans e18).size
  simp at hm
  omega
theorem refNot_c (ha : Rf w SA A n c) (hb : Rf w SB B n' c') {R : Ending → World → Prop}
    (k : ∀ M m d w', Ext [] w w' → (∀ b ∈ ownF M, w.heap.size ≤ b ∧ b < w'.heap.size) → (∀ C : SetV, C.Ok → (∀ i, C.mem i = pickP SA SB false true false i) → Rf w' C M m d) → R (.returned (rv (SB.N : Int) M m d)) w') :
    Calls Tryd.prog 71 #[rv (SA.N : Int) A n c, rv (SB.N : Int) B n' c'] w R := by
  obtain rfl := ha.len
  obtain rfl := hb.len
  unfold rv
  apply berthref01_Not_nf
  intro w5 h5 w6 h6 w7 h7
  obtain ⟨b5, x5, z5⟩ := box_new (cs := [.int .i64 (SA.N : Int), .slice A SA.count c]) h5
  obtain ⟨b6, x6, z6⟩ := box_new (cs := [.int .i64 (SB.N : Int), .slice B SB.count c']) h6
  obtain ⟨b7, x7, z7⟩ := box_new (cs := [.int .i64 0, .slice none 0 0]) h7
  have b5' := (b5.ext0 x6).ext0 x7
  have b6' := b6.ext0 x7
  have e7 := (x5.trans x6).trans x7
  have d7 : Ext [] w7 w7.drew := (Ext.refl _ _).drew
  refine ⟨fun w' => Ext [] w7 w', d7, _, fun w' e => cadd (b6'.ext0 e) (i := 0) rfl, _, _, _, fun w' e => cadd (b5'.ext0 e) (i := 1) rfl, _, _, _, fun w' e => cadd (b6'.ext0 e) (i := 1) rfl, ?_⟩
  have f18 := e7.trans d7
  refine pick_c (ha.cells.ext0 f18) (hb.cells.ext0 f18) ha.ok hb.ok false true false fun M d w21 xs e21 own hC h0 => ⟨_, _, _, rfl, d7.trans e21, ?_⟩
  have s18 := f18.size
  have b7' := b7.ext0 (d7.trans e21)
  refine box_ret b7' rfl _ M xs.length d fun w22 x22 => k M xs.length d w22 ((f18.trans e21).trans' x22 (fun b hb => .inr (by have := x5.size; have := x6.size; simp at hb; omega))) (fun b hb => by have := own_base own b hb; have := x22.size; omega) fun C oC hCm => (Rf.of_own own oC (hC C oC hCm)).ext x22 fun b hb hm => ?_
  have h1 := (own_base own b hb).1
  have h2 := b7.lt
  have h3 := d7.size
  simp at hm
  omega
theorem refAndWith_c (ha : Rf w SA A n c) (hb : Rf w SB B n' c') {R : Ending → World → Prop}
    (k : ∀ M m d w', Ext [] w w' → (∀ b ∈ ownF M, w.heap.size ≤ b ∧ b < w'.heap.size) → (∀ C : SetV, C.Ok → (∀ i, C.mem i = pickP SA SB false false true i) → Rf w' C M m d) → R (.returned (rv (SA.N : Int) M m d)) w') :
    Calls Tryd.prog 76 #[rv (SA.N : Int) A n c, rv (SB.N : Int) B n' c'] w R := by
  obtain rfl := ha.len
  obtain rfl := hb.len
  unfold rv
  apply berthref01_AndWith_nf
  intro w5 h5 w6 h6 w7 h7
  obtain ⟨b5, x5, z5⟩ := box_new (cs := [.int .i64 (SA.N : Int), .slice A SA.count c]) h5
  obtain ⟨b6, x6, z6⟩ := box_new (cs := [.int .i64 (SB.N : Int), .slice B SB.count c']) h6
  obtain ⟨b7, x7, z7⟩ := box_new (cs := [.int .i64 0, .slice none 0 0]) h7
  have b5' := (b5.ext0 x6).ext0 x7
  have b6' := b6.ext0 x7
  have e7 := (x5.trans x6).trans x7
  have d7 : Ext [] w7 w7.drew := (Ext.refl _ _).drew
  refine ⟨fun w' => Ext [] w7 w', d7, _, fun w' e => cadd (b5'.ext0 e) (i := 0) rfl, _, _, _, fun w' e => cadd (b5'.ext0 e) (i := 1) rfl, _, _, _, fun w' e => cadd (b6'.ext0 e) (i := 1) rfl, ?_⟩
  have f18 := e7.trans d7
  refine pick_c (ha.cells.ext0 f18) (hb.cells.ext0 f18) ha.ok hb.ok false false true fun M d w21 xs e21 own hC h0 => ⟨_, _, _, rfl, d7.trans e21, ?_⟩
  have s18 := f18.size
  have b7' := b7.ext0 (d7.trans e21)
  refine box_ret b7' rfl _ M xs.length d fun w22 x22 => k M xs.length d w22 ((f18.trans e21).trans' x22 (fun b hb => .inr (by have := x5.size; have := x6.size; simp at hb; omega))) (fun b hb => by have := own_base own b hb; have := x22.size; omega) fun C oC hCm => (Rf.of_own own oC (hC C oC hCm)).ext x22 fun b hb hm => ?_
  have h1 := (own_base own b hb).1
  have h2 := b7.lt
  have h3 := d7.size
  simp at hm
  omega
theorem refAndNotWith_c (ha : Rf w SA A n c) (hb : Rf w SB B n' c') {R : Ending → World → Prop}
    (k : ∀ M m d w', Ext [] w w' → (∀ b ∈ ownF M, w.heap.size ≤ b ∧ b < w'.heap.size) → (∀ C : SetV, C.Ok → (∀ i, C.mem i = pickP SA SB true false false i) → Rf w' C M m d) → R (.returned (rv (SA.N : Int) M m d)) w') :
    Calls Tryd.prog 78 #[rv (SA.N : Int) A n c, rv (SB.N : Int) B n' c'] w R := by
  obtain rfl := ha.len
  obtain rfl := hb.len
  unfold rv
  apply berthref01_AndNotWith_nf
  intro w5 h5 w6 h6 w7 h7
  obtain ⟨b5, x5, z5⟩ := box_new (cs := [.int .i64 (SA.N : Int), .slice A SA.count c]) h5
  obtain ⟨b6, x6, z6⟩ := box_new (cs := [.int .i64 (SB.N : Int), .slice B SB.count c']) h6
  obtain ⟨b7, x7, z7⟩ := box_new (cs := [.int .i64 0, .slice none 0 0]) h7
  have b5' := (b5.ext0 x6).ext0 x7
  have b6' := b6.ext0 x7
  have e7 := (x5.trans x6).trans x7
  have d7 : Ext [] w7 w7.drew := (Ext.refl _ _).drew
  refine ⟨fun w' => Ext [] w7 w', d7, _, fun w' e => cadd (b5'.ext0 e) (i := 0) rfl, _, _, _, fun w' e => cadd (b5'.ext0 e) (i := 1) rfl, _, _, _, fun w' e => cadd (b6'.ext0 e) (i := 1) rfl, ?_⟩
  have f18 := e7.trans d7
  refine pick_c (ha.cells.ext0 f18) (hb.cells.ext0 f18) ha.ok hb.ok true false false fun M d w21 xs e21 own hC h0 => ⟨_, _, _, rfl, d7.trans e21, ?_⟩
  have s18 := f18.size
  have b7' := b7.ext0 (d7.trans e21)
  refine box_ret b7' rfl _ M xs.length d fun w22 x22 => k M xs.length d w22 ((f18.trans e21).trans' x22 (fun b hb => .inr (by have := x5.size; have := x6.size; simp at hb; omega))) (fun b hb => by have := own_base own b hb; have := x22.size; omega) fun C oC hCm => (Rf.of_own own oC (hC C oC hCm)).ext x22 fun b hb hm => ?_
  have h1 := (own_base own b hb).1
  have h2 := b7.lt
  have h3 := d7.size
  simp at hm
  omega
theorem refSubset_c (ha : Rf w SA A n c) (hb : Rf w SB B n' c') {R : Ending → World → Prop}
    (k : ∀ (t : Bool) w', Ext [] w w' → (t = true ↔ ∀ i, pickP SA SB true false false i = false) → R (.returned (.bool t)) w') :
    Calls Tryd.prog 87 #[rv (SA.N : Int) A n c, rv (SB.N : Int) B n' c'] w R := by
  obtain rfl := ha.len
  obtain rfl := hb.len
  unfold rv
  apply berthref01_Subset_nf
  intro w5 h5 w6 h6
  obtain ⟨b5, x5, z5⟩ := box_new (cs := [.int .i64 (SA.N : Int), .slice A SA.count c]) h5
  obtain ⟨b6, x6, z6⟩ := box_new (cs := [.int .i64 (SB.N : Int), .slice B SB.count c']) h6
  have e6 := x5.trans x6
  refine ⟨_, _, _, cadd (b5.ext0 x6) (i := 1) rfl, _, _, _, cadd b6 (i := 1) rfl, pick_c (ha.cells.ext0 e6) (hb.cells.ext0 e6) ha.ok hb.ok true false false fun M d w11 xs e11 own hC h0 => ⟨_, _, _, rfl, ?_⟩⟩
  refine k (((xs.length : Nat) : Int) == 0) w11 (e6.trans e11) ?_
  rw [← h0]
  simp
theorem refMeets_c (ha : Rf w SA A n c) (hb : Rf w SB B n' c') {R : Ending → World → Prop}
    (k : ∀ (t : Bool) w', Ext [] w w' → (t = false ↔ ∀ i, pickP SA SB false false true i = false) → R (.returned (.bool t)) w') :
    Calls Tryd.prog 88 #[rv (SA.N : Int) A n c, rv (SB.N : Int) B n' c'] w R := by
  obtain rfl := ha.len
  obtain rfl := hb.len
  unfold rv
  apply berthref01_Meets_nf
  intro w5 h5 w6 h6
  obtain ⟨b5, x5, z5⟩ := box_new (cs := [.int .i64 (SA.N : Int), .slice A SA.count c]) h5
  obtain ⟨b6, x6, z6⟩ := box_new (cs := [.int .i64 (SB.N : Int), .slice B SB.count c']) h6
  have e6 := x5.trans x6
  refine ⟨_, _, _, cadd (b5.ext0 x6) (i := 1) rfl, _, _, _, cadd b6 (i := 1) rfl, pick_c (ha.cells.ext0 e6) (hb.cells.ext0 e6) ha.ok hb.ok false false true fun M d w11 xs e11 own hC h0 => ⟨_, _, _, rfl, ?_⟩⟩
  refine k (decide (((xs.length : Nat) : Int) > 0)) w11 (e6.trans e11) ?_
  rw [← h0, decide_eq_false_iff_not]
  omega
theorem refEqual_c (ha : Rf w SA A n c) (hb : Rf w SB B n' c') {R : Ending → World → Prop}
    (k : ∀ (t : Bool) w', Ext [] w w' → (t = true ↔ ∀ i, pickP SA SB true true false i = false) → R (.returned (.bool t)) w') :
    Calls Tryd.prog 89 #[rv (SA.N : Int) A n c, rv (SB.N : Int) B n' c'] w R := by
  obtain rfl := ha.len
  obtain rfl := hb.len
  unfold rv
  apply berthref01_Equal_nf
  intro w5 h5 w6 h6
  obtain ⟨b5, x5, z5⟩ := box_new (cs := [.int .i64 (SA.N : Int), .slice A SA.count c]) h5
  obtain ⟨b6, x6, z6⟩ := box_new (cs := [.int .i64 (SB.N : Int), .slice B SB.count c']) h6
  have e6 := x5.trans x6
  refine ⟨_, _, _, cadd (b5.ext0 x6) (i := 1) rfl, _, _, _, cadd b6 (i := 1) rfl, pick_c (ha.cells.ext0 e6) (hb.cells.ext0 e6) ha.ok hb.ok true true false fun M d w11 xs e11 own hC h0 => ⟨_, _, _, rfl, ?_⟩⟩
  refine k (((xs.length : Nat) : Int) == 0) w11 (e6.trans e11) ?_
  rw [← h0]
  simp
end
end Go.Proofs.YtbaglnffgbnekaaDoor
namespace Go.Proofs.YtbaglnffgbnekaaDoor
open Go Go.V Go.B

theorem Rf.ints {w : World} {S : SetV} {A : Option Addr} {n c : Nat} (h : Rf w S A n c) : Ints w .i64 A n S.mi := by
  refine ⟨by rw [mi_length, h.len], fun j hj => ?_⟩
  have hj' : j < S.mi.length := by rw [mi_length, ← h.len]; exact hj
  have hg : (Go.B.ints .i64 S.mi)[j]? = some (.int .i64 (S.mi.getD j 0)) := by
    unfold Go.B.ints
    rw [List.getElem?_map, List.getElem?_eq_getElem hj', List.getD_eq_getElem?_getD, List.getElem?_eq_getElem hj']; rfl
  exact h.cells j _ hg
theorem Rf.le {w : World} {S : SetV} {A : Option Addr} {n c : Nat} (h : Rf w S A n c) : n ≤ 65536 := by rw [h.len]; exact cnt_le h.ok
theorem Rf.of_mi {w : World} {B n c : Nat} {A : Option Addr} {C : SetV} (own : w.ownsRow B 3 1 (.slice A n c) n (Go.B.ints .i64 C.mi)) (oC : C.Ok) : Rf w C A n c := Rf.of_own own oC rfl
/-- Cells appended to a new empty list. -/
theorem copy_c {w : World} {Y : Option Addr} {ys : List Int} {m : Nat} (hY : Cells w Y (ints .i64 ys)) (hm : ys.length = m) (hb : m < 1000000) (cy : Nat) {K : Option Addr → Nat → Nat → World → Prop}
    (k : ∀ A' c' w', Ext [] w w' → w'.ownsRow w.heap.size 3 1 (.slice A' m c') m (ints .i64 ys) → K A' m c' w') :
    ∀ w11, w11 = World.alloc w (.cells #[] 3) → ∃ A13, ∃ A13l, ∃ A13c, ∃ w14, Sem.run Tryd.prog (Builtin.append_ #[22, 22] 22 #[.slice (some ⟨Array.size (World.heap w), 0, none⟩) 0 0, .slice Y m cy]) w11 = .ok (.slice A13 A13l A13c) w14 ∧ K A13 A13l A13c w14 := by
  intro w11 h11
  obtain ⟨b11, x11, z11⟩ := box_new (cs := []) h11
  have own0 : w11.ownsRow w.heap.size 3 1 (.slice (some ⟨w.heap.size, 0, none⟩) 0 0) 0 (ints .i64 []) := own_made (show w11.heap[w.heap.size]? = some (.cells ⟨[]⟩ 3 (0, 0)) from b11) (c := 0) (n := 0) rfl (by omega) (by omega) (Nat.le_refl _)
  obtain ⟨A', c', w', hr, own', e'⟩ := appN (P := Tryd.prog) (t := 22) (ty := 22) (e := 3) (bytes := 8) (z := .int .i64 0) (by kernel_rfl) (by kernel_rfl) rfl (by omega) own0 (m := m) (cy := cy) (Y := Y) (ys := ints .i64 ys) (by simp [hm])
    (fun j u hj => (hY.ext0 x11) j u hj) (by intro u hu; obtain ⟨x, _, rfl⟩ := List.mem_map.1 hu; rfl) x11.size (by omega)
  rw [Nat.zero_add] at hr own'
  exact ⟨A', m, c', w', hr, k A' c' w' (x11.trans' e' (fun x hx => .inr (by simp [ownF] at hx; omega))) (by simpa [ints] using own')⟩
/-- Cells appended to an own list. -/
theorem join_c {w : World} {N0 n c : Nat} {A Y : Option Addr} {xs ys : List Int} {m : Nat} (own : w.ownsRow N0 3 1 (.slice A n c) n (ints .i64 xs)) (hN : N0 ≤ w.heap.size) (hY : Cells w Y (ints .i64 ys)) (hm : ys.length = m) (hb : n + m < 1000000) (cy : Nat) {K : Option Addr → Nat → Nat → World → Prop}
    (k : ∀ A' c' w', Ext (ownF A) w w' → w'.ownsRow N0 3 1 (.slice A' (n + m) c') (n + m) (ints .i64 (xs ++ ys)) → K A' (n + m) c' w') :
    ∃ A13, ∃ A13l, ∃ A13c, ∃ w14, Sem.run Tryd.prog (Builtin.append_ #[22, 22] 22 #[.slice A n c, .slice Y m cy]) w = .ok (.slice A13 A13l A13c) w14 ∧ K A13 A13l A13c w14 := by
  obtain ⟨A', c', w', hr, own', e'⟩ := appN (P := Tryd.prog) (t := 22) (ty := 22) (e := 3) (bytes := 8) (z := .int .i64 0) (by kernel_rfl) (by kernel_rfl) rfl (by omega) own (m := m) (cy := cy) (Y := Y) (ys := ints .i64 ys) (by simp [hm])
    (fun j u hj => hY j u hj) (by intro u hu; obtain ⟨x, _, rfl⟩ := List.mem_map.1 hu; rfl) hN (by omega)
  exact ⟨A', n + m, c', w', hr, k A' c' w' e' (by rwa [show ints .i64 xs ++ ints .i64 ys = ints .i64 (xs ++ ys) by simp [ints]] at own')⟩
/-! ### lists -/
theorem pk_len (S : SetV) (t : Nat) : (pk S.mem t).length = S.rank t := by
  unfold pk SetV.rank
  rw [List.countP_eq_length_filter]
theorem pk_pre (P : Nat → Bool) {t x : Nat} (h : t ≤ x) : ∃ r, pk P x = pk P t ++ r := by
  obtain ⟨d, rfl⟩ := Nat.le.dest h
  induction d with
  | zero => exact ⟨[], by simp⟩
  | succ d ih =>
    obtain ⟨r, hr⟩ := ih (by omega)
    refine ⟨r ++ (if P (t + d) then [t + d] else []), ?_⟩
    rw [← List.append_assoc, ← hr]
    unfold pk
    rw [show t + (d + 1) = t + d + 1 by omega, List.range_succ, List.filter_append, List.filter_cons]
    simp
theorem members_pk (S : SetV) : S.members = pk S.mem S.N := rfl
theorem mem_to {S : SetV} (o : S.Ok) (t : Nat) : pk S.mem t = S.members.take (S.rank t) := by
  rcases Nat.le_total t S.N with h | h
  · obtain ⟨r, hr⟩ := pk_pre S.mem h
    rw [members_pk, hr, List.take_append_of_le_length (by rw [pk_len]; exact Nat.le_refl _), List.take_of_length_le (by rw [pk_len]; exact Nat.le_refl _)]
  · rw [pk_none h fun y h1 _ => o.tail y h1, ← members_pk, List.take_of_length_le]
    rw [members_length, rank_full o h]; exact Nat.le_refl _
theorem pk_eq {P Q : Nat → Bool} {t : Nat} (h : ∀ i, i < t → P i = Q i) : pk P t = pk Q t := by
  unfold pk
  apply List.filter_congr
  intro x hx
  exact h x (List.mem_range.1 hx)
theorem pk_at {C : SetV} (o : C.Ok) {t : Nat} (h : ∀ y, t ≤ y → C.mem y = false) : C.members = pk C.mem t := by
  rw [members_pk]
  rcases Nat.le_total t C.N with h1 | h1
  · exact pk_none h1 fun y g _ => h y g
  · exact (pk_none h1 fun y g _ => o.tail y g).symm
theorem within_list {S C : SetV} (o : S.Ok) (oC : C.Ok) {n : Nat} (hC : ∀ i, C.mem i = (S.mem i && decide (i < n))) : C.members = S.members.take (S.rank n) := by
  rw [← mem_to o, pk_at oC (t := n) fun y h => by rw [hC]; simp; omega]
  exact pk_eq fun i hi => by rw [hC]; simp [hi]
theorem pk_succ (P : Nat → Bool) (t : Nat) : pk P (t + 1) = pk P t ++ (if P t then [t] else []) := pk_step (Nat.le_refl _) fun y h1 h2 => by omega
theorem add_list {S C : SetV} (o : S.Ok) (oC : C.Ok) {i : Nat} (hi : i < C.N) (hN : C.N = S.N) (hno : S.mem i = false) (hC : ∀ j, C.mem j = (S.mem j || decide (j = i))) : C.members = S.members.take (S.rank i) ++ i :: S.members.drop (S.rank i) := by
  have key : ∀ d, pk C.mem (i + 1 + d) = (pk S.mem (i + 1 + d)).take (S.rank i) ++ i :: (pk S.mem (i + 1 + d)).drop (S.rank i) := by
    intro d
    induction d with
    | zero =>
      have e1 : pk S.mem (i + 1) = pk S.mem i := by rw [pk_succ, hno]; simp
      have e2 : pk C.mem i = pk S.mem i := pk_eq fun j hj => by rw [hC]; simp; omega
      rw [Nat.add_zero, e1, pk_succ, e2, hC i]
      simp [List.take_of_length_le (show (pk S.mem i).length ≤ S.rank i by rw [pk_len]; exact Nat.le_refl _), List.drop_of_length_le (show (pk S.mem i).length ≤ S.rank i by rw [pk_len]; exact Nat.le_refl _)]
    | succ d ih =>
      have hl : S.rank i ≤ (pk S.mem (i + 1 + d)).length := by rw [pk_len]; exact rank_mono S (by omega)
      have e : C.mem (i + 1 + d) = S.mem (i + 1 + d) := by rw [hC]; simp; omega
      rw [show i + 1 + (d + 1) = i + 1 + d + 1 by omega, pk_succ, pk_succ, ih, e, List.take_append_of_le_length hl, List.drop_append_of_le_length hl]
      simp
  have := key (C.N - (i + 1))
  rw [show i + 1 + (C.N - (i + 1)) = C.N by omega] at this
  rw [members_pk, this, hN, ← members_pk]
theorem rem_list {S C : SetV} (o : S.Ok) (oC : C.Ok) {i : Nat} (hN : C.N = S.N) (hyes : S.mem i = true) (hC : ∀ j, C.mem j = (S.mem j && decide (j ≠ i))) : C.members = S.members.take (S.rank i) ++ S.members.drop (S.rank i + 1) := by
  have hi := o.mem_lt hyes
  have key : ∀ d, pk C.mem (i + 1 + d) = (pk S.mem (i + 1 + d)).take (S.rank i) ++ (pk S.mem (i + 1 + d)).drop (S.rank i + 1) := by
    intro d
    induction d with
    | zero =>
      have e2 : pk C.mem i = pk S.mem i := pk_eq fun j hj => by rw [hC]; simp; omega
      have hl := pk_len S i
      rw [Nat.add_zero, pk_succ, pk_succ, e2, hC i, hyes]
      simp [List.take_append_of_le_length (show S.rank i ≤ (pk S.mem i).length by omega), List.take_of_length_le (show (pk S.mem i).length ≤ S.rank i by omega)]
      omega
    | succ d ih =>
      have hl : S.rank i + 1 ≤ (pk S.mem (i + 1 + d)).length := by
        rw [pk_len]
        have h1 := rank_succ S i
        rw [if_pos hyes] at h1
        have := rank_mono S (show i + 1 ≤ i + 1 + d by omega)
        omega
      have e : C.mem (i + 1 + d) = S.mem (i + 1 + d) := by rw [hC]; simp; omega
      rw [show i + 1 + (d + 1) = i + 1 + d + 1 by omega, pk_succ, pk_succ, ih, e, List.take_append_of_le_length (by omega), List.drop_append_of_le_length hl]
      simp
  have := key (C.N - (i + 1))
  rw [show i + 1 + (C.N - (i + 1)) = C.N by omega] at this
  rw [members_pk, this, hN, ← members_pk]
/-! ### a set of any places -/
def wf (f : Nat → Bool) (k : Nat) : Nat → Nat
  | 0 => 0
  | n + 1 => 2 ^ n * (f (64 * k + n)).toNat + wf f k n
theorem wf_lt (f : Nat → Bool) (k : Nat) : ∀ n, wf f k n < 2 ^ n
  | 0 => by simp [wf]
  | n + 1 => by
    have := wf_lt f k n
    have h2 : (f (64 * k + n)).toNat ≤ 1 := by cases f (64 * k + n) <;> simp
    have h3 : 2 ^ n * (f (64 * k + n)).toNat ≤ 2 ^ n := by
      have := Nat.mul_le_mul_left (2 ^ n) h2
      simpa using this
    rw [wf, Nat.pow_succ]; omega
theorem wf_bit (f : Nat → Bool) (k : Nat) : ∀ n j, j < n → (wf f k n).testBit j = f (64 * k + j)
  | 0, j, h => by omega
  | n + 1, j, h => by
    rw [wf, Nat.testBit_two_pow_mul_add _ (wf_lt f k n)]
    split
    · exact wf_bit f k n j (by omega)
    · have : j = n := by omega
      subst this
      rw [Nat.sub_self]
      cases f (64 * k + j) <;> rfl
theorem set_of {N : Nat} (hN : N ≤ 65536) (f : Nat → Bool) (hf : ∀ i, N ≤ i → f i = false) : ∃ C : SetV, C.N = N ∧ C.Ok ∧ ∀ i, C.mem i = f i := by
  have hb : ∀ i, (wf f (i / 64) 64).testBit (i % 64) = f i := fun i => by rw [wf_bit f _ 64 _ (Nat.mod_lt _ (by omega))]; congr 1; omega
  refine ⟨ofWords N (fun k => wf f k 64), rfl, ofWords_ok hN (fun k => wf_lt f k 64) fun i hi => by rw [hb, hf i hi], fun i => ?_⟩
  rw [ofWords_mem, hb]
  by_cases h : i / 64 < (N + 63) / 64
  · simp [h]
  · rw [hf i (by omega)]; simp
end Go.Proofs.YtbaglnffgbnekaaDoor
namespace Go.Proofs.YtbaglnffgbnekaaDoor
open Go Go.V Go.B

section
variable {w : World} {S : SetV} {A : Option Addr} {n c : Nat}
theorem refClone_c (h : Rf w S A n c) {R : Ending → World → Prop} (k : ∀ M m d w', Ext [] w w' → (∀ b ∈ ownF M, w.heap.size ≤ b ∧ b < w'.heap.size) → Rf w' S M m d → R (.returned (rv (S.N : Int) M m d)) w') :
    Calls Tryd.prog 72 #[rv (S.N : Int) A n c] w R := by
  have hle := h.le
  unfold rv
  apply berthref01_Clone_nf
  intro w3 h3 w4 h4
  obtain ⟨b3, x3, z3⟩ := box_new (cs := [.int .i64 (S.N : Int), .slice A n c]) h3
  obtain ⟨b4, x4, z4⟩ := box_new (cs := [.int .i64 0, .slice none 0 0]) h4
  have b3' := b3.ext0 x4
  have d4 : Ext [] w4 w4.drew := (Ext.refl _ _).drew
  have e4 := (x3.trans x4).trans d4
  refine ⟨fun w' => Ext [] w4 w', d4, _, fun w' e => cadd (b3'.ext0 e) (i := 0) rfl, _, _, _, _, cellsC_S fun w' (e : Ext [] w4 w') => cadd0 (b3'.ext0 e), MembersRef_c (h.ext0 e4).ints (by omega) fun M d w12 e12 own => ⟨_, _, _, rfl, d4.trans e12, ?_⟩⟩
  have s4 := e4.size
  refine box_ret (b4.ext0 (d4.trans e12)) rfl _ M n d fun w13 x13 => k M n d w13 ((e4.trans e12).trans' x13 (fun b hb => .inr (by have := x3.size; simp at hb; omega))) (fun b hb => by have := own_base own b hb; have := x13.size; omega) ((Rf.of_mi own h.ok).ext x13 fun b hb hm => ?_)
  have h1 := (own_base own b hb).1
  have h2 := b4.lt
  have h3 := d4.size
  simp at hm
  omega
theorem refGrow_c (h : Rf w S A n c) (N : Int) {R : Ending → World → Prop}
    (k0 : ∀ w' (e : Int), Ext [] w w' → (((N < 0 ∨ 65536 < N) ∧ e = 11) ∨ (0 ≤ N ∧ N ≤ 65536 ∧ N < (S.N : Int) ∧ e = 13)) → R (.returned (.tuple #[rv (S.N : Int) A n c, .int .i64 e])) w')
    (k1 : ∀ M m d w', Ext [] w w' → (∀ b ∈ ownF M, w.heap.size ≤ b ∧ b < w'.heap.size) → 0 ≤ N → N ≤ 65536 → (S.N : Int) ≤ N → (∀ C : SetV, C.Ok → (∀ i, C.mem i = S.mem i) → Rf w' C M m d) → R (.returned (.tuple #[rv N M m d, .int .i64 0])) w') :
    Calls Tryd.prog 75 #[rv (S.N : Int) A n c, .int .i64 N] w R := by
  have hle := h.le
  unfold rv
  apply berthref01_Grow_nf
  intro w4 h4 w5 h5
  obtain ⟨b4, x4, z4⟩ := box_new (cs := [.int .i64 (S.N : Int), .slice A n c]) h4
  obtain ⟨b5, x5, z5⟩ := box_new (cs := [.int .i64 0, .slice none 0 0]) h5
  have b4' := b4.ext0 x5
  have e5 := x4.trans x5
  have bad : ∀ (e : Int), (((N < 0 ∨ 65536 < N) ∧ e = 11) ∨ (0 ≤ N ∧ N ≤ 65536 ∧ N < (S.N : Int) ∧ e = 13)) → _ := fun e he => box_ret (K := fun N' A' n' c' w' => R (.returned (.tuple #[.agg #[.int .i64 N', .slice A' n' c'], .int .i64 e])) w') b5 rfl (S.N : Int) A n c fun w' x => k0 w' e (e5.trans' x (fun b hb => .inr (by have := x4.size; simp at hb; omega))) he
  refine sel_dec (fun h1 => ⟨_, _, _, _, cadd0 b4', bad 11 (.inl ⟨.inl h1, rfl⟩)⟩) (fun h1 => sel_dec (fun h2 => ⟨_, _, _, _, cadd0 b4', bad 11 (.inl ⟨.inr (by omega), rfl⟩)⟩) (fun h2 => ⟨_, cadd b4' (i := 0) rfl, sel_dec (fun h3 => ⟨_, _, _, _, cadd0 b4', bad 13 (.inr ⟨by omega, by omega, h3, rfl⟩)⟩) (fun h3 => ?_)⟩))
  refine ⟨_, _, _, _, cadd0 b4', MembersRef_c (h.ext0 e5).ints (by omega) fun M d w26 e26 own => ⟨_, _, _, rfl, ?_⟩⟩
  have s5 := e5.size
  refine box_ret (K := fun N' A' n' c' w' => R (.returned (.tuple #[.agg #[.int .i64 N', .slice A' n' c'], .int .i64 0])) w') (b5.ext0 e26) rfl N M n d fun w27 x27 => k1 M n d w27 ((e5.trans e26).trans' x27 (fun b hb => .inr (by have := x4.size; simp at hb; omega))) (fun b hb => by have := own_base own b hb; have := x27.size; omega) (by omega) (by omega) (by omega) fun C oC hC => (Rf.of_own (xs := S.members) own oC ?_).ext x27 fun b hb hm => ?_
  · rw [pk_at oC (t := max S.N C.N) (fun y hy => by rw [hC]; exact h.ok.tail y (by omega)), members_pk, ← pk_none (P := S.mem) (t := S.N) (x := max S.N C.N) (by omega) fun y h1 _ => h.ok.tail y h1]
    exact pk_eq fun i _ => hC i
  · have h1 := (own_base own b hb).1
    have h2 := b5.lt
    simp at hm
    omega
theorem refWithin_c (h : Rf w S A n c) (N : Int) {R : Ending → World → Prop} (k : ∀ M m d w', Ext [] w w' → (∀ b ∈ ownF M, w.heap.size ≤ b ∧ b < w'.heap.size) → (∀ C : SetV, C.Ok → (∀ i, C.mem i = (S.mem i && decide (i < N.toNat))) → Rf w' C M m d) → R (.returned (rv N M m d)) w') :
    Calls Tryd.prog 95 #[rv (S.N : Int) A n c, .int .i64 N] w R := by
  have hle := h.le
  have hcap := h.cap
  obtain rfl := h.len
  unfold rv
  apply berthref01_Within_nf
  intro w4 h4 w5 h5
  obtain ⟨b4, x4, z4⟩ := box_new (cs := [.int .i64 (S.N : Int), .slice A S.count c]) h4
  obtain ⟨b5, x5, z5⟩ := box_new (cs := [.int .i64 0, .slice none 0 0]) h5
  have b4' := b4.ext0 x5
  have e5 := x4.trans x5
  have hrc := rank_cnt h.ok N.toNat
  refine ⟨_, _, _, _, cadd0 b4', below_c (h.cells.ext0 e5) h.ok _ N fun w10 e10 => ⟨_, rfl, fun w11 h11 => ?_⟩⟩
  have hb11 : BlkT w11 w.heap.size [.int .i64 (S.N : Int), .slice A S.count c] 50 := by
    obtain ⟨_, x11, _⟩ := box_new (cs := []) h11
    exact (b4'.ext0 e10).ext0 x11
  refine ⟨_, _, _, cadd hb11 (i := 1) rfl, when_dec ⟨by omega, by omega⟩ ?_⟩
  have f10 := e5.trans e10
  have hcut : Cells w10 (V.cut A c 0 1) (ints .i64 (S.mi.take (S.rank N.toNat))) := by
    have h1 := (h.cells.ext0 f10).cut (c := c) (l := 0) (sz := 1) (fun hc => by
      have : S.count = 0 := by omega
      simp [ints, mi_length, this])
    simp only [Nat.zero_mul, List.drop_zero] at h1
    have h2 := h1.take (S.rank N.toNat)
    rwa [show (ints .i64 S.mi).take (S.rank N.toNat) = ints .i64 (S.mi.take (S.rank N.toNat)) by simp [ints, List.map_take]] at h2
  rw [Int.toNat_natCast, Nat.sub_zero, Nat.sub_zero]
  refine copy_c hcut (m := S.rank N.toNat) (by rw [List.length_take, mi_length]; omega) (by omega) c (fun M d w14 e14 own => ?_) w11 h11
  have s5 := e5.size
  have s10 := e10.size
  refine box_ret (b5.ext0 (e10.trans e14)) rfl N M _ d fun w15 x15 => k M _ d w15 ((f10.trans e14).trans' x15 (fun b hb => .inr (by have := x4.size; simp at hb; omega))) (fun b hb => by have := own_base own b hb; have := x15.size; omega) fun C oC hC => ?_
  have hm := within_list h.ok oC hC
  refine (Rf.of_own (xs := S.members.take (S.rank N.toNat)) (by rw [List.map_take]; exact own) oC hm).ext x15 fun b hb hmm => ?_
  have h1 := (own_base own b hb).1
  have h2 := b5.lt
  simp at hmm
  omega
end
end Go.Proofs.YtbaglnffgbnekaaDoor
namespace Go.Proofs.YtbaglnffgbnekaaDoor
open Go Go.V Go.B

theorem cut_front {w : World} {S : SetV} {A : Option Addr} {c : Nat} (hc : Cells w A (ints .i64 S.mi)) (hcap : S.count ≤ c) (r : Nat) : Cells w (V.cut A c 0 1) (ints .i64 (S.mi.take r)) := by
  have h1 := hc.cut (c := c) (l := 0) (sz := 1) (fun hc => by
    have : S.count = 0 := by omega
    simp [ints, mi_length, this])
  simp only [Nat.zero_mul, List.drop_zero] at h1
  have h2 := h1.take r
  rwa [show (ints .i64 S.mi).take r = ints .i64 (S.mi.take r) by simp [ints, List.map_take]] at h2
theorem cut_back {w : World} {S : SetV} {A : Option Addr} {c : Nat} (hc : Cells w A (ints .i64 S.mi)) (hcap : S.count ≤ c) (r : Nat) : Cells w (V.cut A c r 1) (ints .i64 (S.mi.drop r)) := by
  have h1 := hc.cut (c := c) (l := r) (sz := 1) (fun hc => by simp [ints, mi_length]; omega)
  rw [Nat.mul_one] at h1
  rwa [show (ints .i64 S.mi).drop r = ints .i64 (S.mi.drop r) by simp [ints, List.map_drop]] at h1
theorem mi_take (S : SetV) (r : Nat) : S.mi.take r = (S.members.take r).map Int.ofNat := by unfold SetV.mi; rw [List.map_take]
theorem mi_drop (S : SetV) (r : Nat) : S.mi.drop r = (S.members.drop r).map Int.ofNat := by unfold SetV.mi; rw [List.map_drop]
section
variable {w : World} {S T : SetV} {A B : Option Addr} {n c n' c' : Nat}
theorem refOrWith_c (ha : Rf w S A n c) (hb : Rf w T B n' c') {R : Ending → World → Prop}
    (k : ∀ M m d w', Ext [] w w' → (∀ b ∈ ownF M, w.heap.size ≤ b ∧ b < w'.heap.size) → (∀ C : SetV, C.Ok → (∀ i, C.mem i = (S.mem i || (decide (i < S.N) && T.mem i))) → Rf w' C M m d) → R (.returned (rv (S.N : Int) M m d)) w') :
    Calls Tryd.prog 77 #[rv (S.N : Int) A n c, rv (T.N : Int) B n' c'] w R := by
  obtain ⟨T', hTN, oT, hT⟩ := set_of (N := T.N) hb.ok.N (fun i => T.mem i && decide (i < S.N)) (fun i hi => by rw [hb.ok.tail i hi]; rfl)
  unfold rv
  apply berthref01_OrWith_nf
  intro w5 h5 w6 h6 w7 h7
  obtain ⟨b5, x5, z5⟩ := box_new (cs := [.int .i64 (S.N : Int), .slice A n c]) h5
  obtain ⟨b6, x6, z6⟩ := box_new (cs := [.int .i64 (T.N : Int), .slice B n' c']) h6
  obtain ⟨b7, x7, z7⟩ := box_new (cs := [.int .i64 0, .slice none 0 0]) h7
  have b5' := (b5.ext0 x6).ext0 x7
  have b6' := b6.ext0 x7
  have e7 := (x5.trans x6).trans x7
  refine ⟨_, _, _, _, cadd0 b6', _, cadd b5' (i := 0) rfl, refWithin_c (hb.ext0 e7) (S.N : Int) fun M1 m1 d1 w14 e14 hM1 hr => ⟨_, _, _, _, rfl, fun w15 h15 => ?_⟩⟩
  obtain ⟨b15, x15, z15⟩ := box_new (cs := [.int .i64 0, .slice none 0 0]) h15
  obtain ⟨w16, hr16, b16, x16⟩ := storeW (P := Tryd.prog) (t := 50) (n := 2) (vs := [.int .i64 (S.N : Int), .slice M1 m1 d1]) i50s b15 rfl rfl (fun v hv => by simp at hv; rcases hv with rfl | rfl <;> rfl)
  have s16 := x16.size
  have e16 : Ext [] w14 w16 := x15.trans' x16 (fun b hb => .inr (by simp at hb; omega))
  have hrT := (hr T' oT (fun i => by rw [hT, Int.toNat_natCast])).ext0 e16
  have f16 := (e7.trans e14).trans e16
  have d16 : Ext [] w16 w16.drew := (Ext.refl _ _).drew
  have b5'' := (b5'.ext0 e14).ext0 e16
  have ha' := (ha.ext0 f16).ext0 d16
  have hr' := hrT.ext0 d16
  obtain rfl := ha.len
  obtain rfl := hrT.len
  refine ⟨w16, hr16, fun w' => Ext [] w16 w', d16, _, fun w' e => cadd (b5''.ext0 e) (i := 0) rfl, _, _, _, fun w' e => cadd (b5''.ext0 e) (i := 1) rfl, _, _, _, fun w' e => cadd (b16.ext0 e) (i := 1) rfl, ?_⟩
  refine pick_c ha'.cells hr'.cells ha.ok oT true true true fun M d w24 xs e24 own hC h0 => ⟨_, _, _, rfl, d16.trans e24, ?_⟩
  have g24 := (f16.trans d16).trans e24
  have b7' := b7.ext0 (((e14.trans e16).trans d16).trans e24)
  have hl7 := b7.lt
  have s14 := e14.size
  have s1 := e16.size
  have s2 := d16.size
  refine box_ret b7' rfl _ M xs.length d fun w25 x25 => k M xs.length d w25 (g24.trans' x25 (fun b hb => .inr (by have := x5.size; have := x6.size; simp at hb; omega))) (fun b hb => by have := own_base own b hb; have := (f16.trans d16).size; have := x25.size; omega) fun C oC hCm => (Rf.of_own own oC (hC C oC fun i => ?_)).ext x25 fun b hb hm => ?_
  · rw [hCm]
    unfold pickP
    rw [hT]
    cases S.mem i <;> cases T.mem i <;> cases decide (i < S.N) <;> rfl
  · have h1 := (own_base own b hb).1
    simp at hm
    omega
theorem add_path {w0 w4 w21 : World} {N : Nat} {vs : List Value} (hc : Cells w21 A (ints .i64 S.mi)) (o : S.Ok) (hcap : S.count ≤ c) (i : Int) (b0 : BlkT w21 w0.heap.size [.int .i64 (S.N : Int), .slice A S.count c] 50) (b4 : BlkT w21 w4.heap.size vs 50) (hv : vs.length = 2)
    {R : Ending → World → Prop} (k : ∀ M m d w', Ext [w4.heap.size] w21 w' → (∀ b ∈ ownF M, w21.heap.size ≤ b ∧ b < w'.heap.size) → w'.ownsRow w21.heap.size 3 1 (.slice M m d) m (ints .i64 (S.mi.take (S.rank i.toNat) ++ [i] ++ S.mi.drop (S.rank i.toNat))) → R (.returned (.tuple #[rv (S.N : Int) M m d, .bool true])) w') :
    ∀ w45, w45 = (World.alloc w21 (.cells #[] 3)) →
  ∃ A46, ∃ A46l, ∃ A46c, World.cell? w45 (Addr.add ⟨Array.size (World.heap w0), 0, none⟩ 1) = some (Value.slice A46 A46l A46c) ∧
  V.when (decide ((0 : Int) ≤ ((S.rank i.toNat : Nat) : Int) ∧ (((S.rank i.toNat : Nat) : Int) : Int) ≤ ((A46c : Nat) : Int))) (∃ A47, ∃ A47l, ∃ A47c, ∃ w48, Sem.run Tryd.prog (Builtin.append_ #[22, 22] 22 #[(Value.slice (some ⟨Array.size (World.heap w21), 0, none⟩) 0 0), (Value.slice (V.cut A46 A46c 0 1) ((Int.toNat ((S.rank i.toNat : Nat) : Int)) - 0) (A46c - 0))]) w45 = .ok (Value.slice A47 A47l A47c) w48 ∧
  ∀ w49, w49 = (World.alloc w48 (.cells #[(Value.int .i64 i)] 3)) →
  ∃ A50, ∃ A50l, ∃ A50c, ∃ w51, Sem.run Tryd.prog (Builtin.append_ #[22, 22] 22 #[(Value.slice A47 A47l A47c), (Value.slice (some ⟨Array.size (World.heap w48), 0, none⟩) 1 1)]) w49 = .ok (Value.slice A50 A50l A50c) w51 ∧
  ∃ A52, ∃ A52l, ∃ A52c, World.cell? w51 (Addr.add ⟨Array.size (World.heap w0), 0, none⟩ 1) = some (Value.slice A52 A52l A52c) ∧
  V.when (decide ((0 : Int) ≤ ((S.rank i.toNat : Nat) : Int) ∧ (((S.rank i.toNat : Nat) : Int) : Int) ≤ ((A52l : Nat) : Int))) (∃ A53, ∃ A53l, ∃ A53c, ∃ w54, Sem.run Tryd.prog (Builtin.append_ #[22, 22] 22 #[(Value.slice A50 A50l A50c), (Value.slice (V.cut A52 A52c (Int.toNat ((S.rank i.toNat : Nat) : Int)) 1) (A52l - (Int.toNat ((S.rank i.toNat : Nat) : Int))) (A52c - (Int.toNat ((S.rank i.toNat : Nat) : Int))))]) w51 = .ok (Value.slice A53 A53l A53c) w54 ∧
  ∃ n55, World.cell? w54 (Addr.add ⟨Array.size (World.heap w0), 0, none⟩ 0) = some (Value.int .i64 n55) ∧
  ∃ w56, Sem.run Tryd.prog (Instr.storeAt 50 (Value.pointer (some ⟨Array.size (World.heap w4), 0, none⟩)) (Value.agg #[(Value.int .i64 n55), (Value.slice A53 A53l A53c)])) w54 = .ok () w56 ∧
  ∃ n57, ∃ A58, ∃ A58l, ∃ A58c, V.cellsC (fun a_ x_ => World.cell? w56 a_ = some x_) ⟨Array.size (World.heap w4), 0, none⟩ [(Value.int .i64 n57), (Value.slice A58 A58l A58c)] ∧
  R (Ending.returned (Value.tuple #[(Value.agg #[(Value.int .i64 n57), (Value.slice A58 A58l A58c)]), (Value.bool true)])) w56)) := by
  intro w45 h45
  have hrc := rank_cnt o i.toNat
  have hcn := cnt_le o
  have b45 : BlkT w45 w0.heap.size [.int .i64 (S.N : Int), .slice A S.count c] 50 := by
    obtain ⟨_, x, _⟩ := box_new (cs := []) h45
    exact b0.ext0 x
  refine ⟨_, _, _, cadd b45 (i := 1) rfl, when_dec ⟨by omega, by omega⟩ ?_⟩
  rw [Int.toNat_natCast, Nat.sub_zero, Nat.sub_zero]
  refine copy_c (cut_front hc hcap (S.rank i.toNat)) (m := S.rank i.toNat) (by rw [List.length_take, mi_length]; omega) (by omega) c (fun M1 d1 w48 e48 own1 => ?_) w45 h45
  have s48 := e48.size
  refine snoc_c own1 s48 (by omega) i fun M2 d2 w51 x51 own2 => ?_
  have hb1 := own_base own1
  have hl0 := b0.lt
  have hl4 := b4.lt
  have e51 : Ext [] w21 w51 := e48.trans' x51 (fun b hb => .inr (hb1 b hb).1)
  refine ⟨_, _, _, cadd (b0.ext0 e51) (i := 1) rfl, when_dec ⟨by omega, by omega⟩ ?_⟩
  have hb2 := own_base own2
  refine join_c own2 e51.size (cut_back (hc.ext0 e51) hcap (S.rank i.toNat)) (m := S.count - S.rank i.toNat) (by rw [List.length_drop, mi_length]) (by omega) _ fun M3 d3 w54 x54 own3 => ?_
  have e54 : Ext [] w21 w54 := e51.trans' x54 (fun b hb => .inr (hb2 b hb).1)
  refine ⟨_, cadd (b0.ext0 e54) (i := 0) rfl, ?_⟩
  have hb3 := own_base own3
  refine box_ret (K := fun N' A' n' c' w' => R (.returned (.tuple #[.agg #[.int .i64 N', .slice A' n' c'], .bool true])) w') (b4.ext0 e54) hv _ M3 _ d3 fun w56 x56 => k M3 _ d3 w56 (e54.up.trans x56) (fun b hb => by have := hb3 b hb; have := x56.size; omega) (own_ext own3 x56 fun b hb hm => by have := (hb3 b hb).1; simp at hm; omega)
theorem refAdd_c (h : Rf w S A n c) (i : Int) {R : Ending → World → Prop}
    (k0 : ∀ w', Ext [] w w' → (i < 0 ∨ (S.N : Int) ≤ i ∨ S.has i = true) → R (.returned (.tuple #[rv (S.N : Int) A n c, .bool false])) w')
    (k1 : ∀ M m d w', Ext [] w w' → (∀ b ∈ ownF M, w.heap.size ≤ b ∧ b < w'.heap.size) → 0 ≤ i → i < (S.N : Int) → S.has i = false → (∀ C : SetV, C.Ok → C.N = S.N → (∀ j, C.mem j = (S.mem j || decide ((j : Int) = i))) → Rf w' C M m d) → R (.returned (.tuple #[rv (S.N : Int) M m d, .bool true])) w') :
    Calls Tryd.prog 73 #[rv (S.N : Int) A n c, .int .i64 i] w R := by
  have hcap := h.cap
  have o := h.ok
  obtain rfl := h.len
  unfold rv
  apply berthref01_Add_nf
  intro w4 h4 w5 h5
  obtain ⟨b4, x4, z4⟩ := box_new (cs := [.int .i64 (S.N : Int), .slice A S.count c]) h4
  obtain ⟨b5, x5, z5⟩ := box_new (cs := [.int .i64 0, .slice none 0 0]) h5
  have b4' := b4.ext0 x5
  have e5 := x4.trans x5
  have s4 := x4.size
  have bad : ∀ {w1 : World}, Ext [] w5 w1 → (i < 0 ∨ (S.N : Int) ≤ i ∨ S.has i = true) → _ := fun {w1} e1 he => box_ret (K := fun N' A' n' c' w' => R (.returned (.tuple #[.agg #[.int .i64 N', .slice A' n' c'], .bool false])) w') (b5.ext0 e1) rfl (S.N : Int) A S.count c fun w' x => k0 w' ((e5.trans e1).trans' x (fun b hb => .inr (by simp at hb; omega))) he
  refine sel_dec (fun h1 => ⟨_, _, _, _, cadd0 b4', bad (Ext.refl _ _) (.inl h1)⟩) (fun h1 => ⟨_, cadd b4' (i := 0) rfl, sel_dec (fun h2 => ⟨_, _, _, _, cadd0 b4', bad (Ext.refl _ _) (.inr (.inl (by omega)))⟩) (fun h2 => ?_)⟩)
  refine ⟨_, _, _, _, cadd0 b4', below_c (h.cells.ext0 e5) o _ i fun w21 e21 => ⟨_, rfl, _, _, _, cadd (b4'.ext0 e21) (i := 1) rfl, ?_⟩⟩
  have f21 := e5.trans e21
  have good : S.has i = false → ∀ M m d w', Ext [w4.heap.size] w21 w' → (∀ b ∈ ownF M, w21.heap.size ≤ b ∧ b < w'.heap.size) → w'.ownsRow w21.heap.size 3 1 (.slice M m d) m (ints .i64 (S.mi.take (S.rank i.toNat) ++ [i] ++ S.mi.drop (S.rank i.toNat))) → R (.returned (.tuple #[rv (S.N : Int) M m d, .bool true])) w' := fun hno M m d w' x hM own =>
    k1 M m d w' (f21.trans' x (fun b hb => .inr (by simp at hb; omega))) (fun b hb => by have := hM b hb; have := f21.size; omega) (by omega) (by omega) hno fun C oC hCN hC => by
      obtain ⟨j, rfl⟩ : ∃ j : Nat, i = j := ⟨i.toNat, by omega⟩
      have hm := add_list o oC (i := j) (by omega) hCN (by rwa [SetV.has_nat] at hno) (fun y => by rw [hC]; congr 1; exact decide_eq_decide.2 (by omega))
      refine Rf.of_own (B := w21.heap.size) (xs := S.members.take (S.rank j) ++ j :: S.members.drop (S.rank j)) ?_ oC hm
      rw [Int.toNat_natCast] at own
      rw [List.map_append, List.map_cons, ← mi_take, ← mi_drop]
      simpa using own
  refine sel_dec (fun h3 => ?_) (fun h3 => ?_)
  · refine ⟨_, _, _, cadd (b4'.ext0 e21) (i := 1) rfl, lk (h.cells.ext0 f21) (by omega) fun ad hcell => ⟨_, hcell, ?_⟩⟩
    rw [at_rank (by omega) i rfl]
    cases hh : S.has i with
    | true => exact sel_true rfl ⟨_, _, _, _, cadd0 (b4'.ext0 e21), bad e21 (.inr (.inr hh))⟩
    | false => exact sel_false rfl (add_path (w0 := w) (w4 := w4) (N := 0) (h.cells.ext0 f21) o hcap i (b4'.ext0 e21) (b5.ext0 e21) rfl (good hh))
  · have hh := no_rank o i (by have := rank_cnt o i.toNat; omega)
    exact add_path (w0 := w) (w4 := w4) (N := 0) (h.cells.ext0 f21) o hcap i (b4'.ext0 e21) (b5.ext0 e21) rfl (good hh)
theorem refRemove_c (h : Rf w S A n c) (i : Int) {R : Ending → World → Prop}
    (k0 : ∀ w', Ext [] w w' → S.has i = false → R (.returned (.tuple #[rv (S.N : Int) A n c, .bool false])) w')
    (k1 : ∀ M m d w', Ext [] w w' → (∀ b ∈ ownF M, w.heap.size ≤ b ∧ b < w'.heap.size) → S.has i = true → (∀ C : SetV, C.Ok → C.N = S.N → (∀ j, C.mem j = (S.mem j && decide ((j : Int) ≠ i))) → Rf w' C M m d) → R (.returned (.tuple #[rv (S.N : Int) M m d, .bool true])) w') :
    Calls Tryd.prog 74 #[rv (S.N : Int) A n c, .int .i64 i] w R := by
  have hcap := h.cap
  have o := h.ok
  have hcn := cnt_le o
  obtain rfl := h.len
  unfold rv
  apply berthref01_Remove_nf
  intro w4 h4 w5 h5
  obtain ⟨b4, x4, z4⟩ := box_new (cs := [.int .i64 (S.N : Int), .slice A S.count c]) h4
  obtain ⟨b5, x5, z5⟩ := box_new (cs := [.int .i64 0, .slice none 0 0]) h5
  have b4' := b4.ext0 x5
  have e5 := x4.trans x5
  have s4 := x4.size
  have bad : ∀ {w1 : World}, Ext [] w5 w1 → S.has i = false → _ := fun {w1} e1 he => box_ret (K := fun N' A' n' c' w' => R (.returned (.tuple #[.agg #[.int .i64 N', .slice A' n' c'], .bool false])) w') (b5.ext0 e1) rfl (S.N : Int) A S.count c fun w' x => k0 w' ((e5.trans e1).trans' x (fun b hb => .inr (by simp at hb; omega))) he
  refine ⟨_, _, _, _, cadd0 b4', below_c (h.cells.ext0 e5) o _ i fun w21 e21 => ⟨_, rfl, _, _, _, cadd (b4'.ext0 e21) (i := 1) rfl, ?_⟩⟩
  have f21 := e5.trans e21
  have hrc := rank_cnt o i.toNat
  have bb := b4'.ext0 e21
  have hl0 := bb.lt
  refine sel_dec (fun h3 => ⟨_, _, _, _, cadd0 bb, bad e21 (no_rank o i (by omega))⟩) (fun h3 => ?_)
  refine ⟨_, _, _, cadd bb (i := 1) rfl, lk (h.cells.ext0 f21) (by omega) fun ad hcell => ⟨_, hcell, ?_⟩⟩
  have har := at_rank (S := S) (m := S.rank i.toNat) (by omega) i rfl
  cases hh : S.has i with
  | false =>
    rw [hh] at har
    exact sel_true (by simpa using har) ⟨_, _, _, _, cadd0 bb, bad e21 hh⟩
  | true =>
    rw [hh] at har
    refine sel_false (by simpa using har) fun w25 h25 => ?_
    have b25 : BlkT w25 w.heap.size [.int .i64 (S.N : Int), .slice A S.count c] 50 := by
      obtain ⟨_, x, _⟩ := box_new (cs := []) h25
      exact bb.ext0 x
    refine ⟨_, _, _, cadd b25 (i := 1) rfl, when_dec ⟨by omega, by omega⟩ ?_⟩
    rw [Int.toNat_natCast, Nat.sub_zero, Nat.sub_zero]
    refine copy_c (cut_front (h.cells.ext0 f21) hcap (S.rank i.toNat)) (m := S.rank i.toNat) (by rw [List.length_take, mi_length]; omega) (by omega) c (fun M1 d1 w28 e28 own1 => ?_) w25 h25
    have s28 := e28.size
    have hb1 := own_base own1
    have e1 : IntKind.wrap .i64 (((S.rank i.toNat : Nat) : Int) + 1) = ((S.rank i.toNat + 1 : Nat) : Int) := up64 _ (by omega)
    rw [e1]
    refine ⟨_, _, _, cadd (bb.ext0 e28) (i := 1) rfl, when_dec ⟨by omega, by omega⟩ ?_⟩
    rw [Int.toNat_natCast]
    refine join_c own1 s28 (cut_back ((h.cells.ext0 f21).ext0 e28) hcap (S.rank i.toNat + 1)) (m := S.count - (S.rank i.toNat + 1)) (by rw [List.length_drop, mi_length]) (by omega) _ fun M3 d3 w31 x31 own3 => ?_
    have e31 : Ext [] w21 w31 := e28.trans' x31 (fun b hb => .inr (hb1 b hb).1)
    have hb3 := own_base own3
    have hl5 := (b5.ext0 e21).lt
    refine ⟨_, cadd (bb.ext0 e31) (i := 0) rfl, box_ret (K := fun N' A' n' c' w' => R (.returned (.tuple #[.agg #[.int .i64 N', .slice A' n' c'], .bool true])) w') ((b5.ext0 e21).ext0 e31) rfl _ M3 _ d3 fun w33 x33 => k1 M3 _ d3 w33 ((f21.trans e31).trans' x33 (fun b hb => .inr (by simp at hb; omega))) (fun b hb => by have := hb3 b hb; have := f21.size; have := x33.size; omega) hh fun C oC hCN hC => ?_⟩
    unfold SetV.has at hh
    simp only [Bool.and_eq_true, decide_eq_true_eq] at hh
    obtain ⟨j, rfl⟩ : ∃ j : Nat, i = j := ⟨i.toNat, by omega⟩
    have hm := rem_list o oC (i := j) hCN hh.2 (fun y => by rw [hC]; congr 1; exact decide_eq_decide.2 (by omega))
    refine (Rf.of_own (B := w21.heap.size) (xs := S.members.take (S.rank j) ++ S.members.drop (S.rank j + 1)) ?_ oC hm).ext x33 fun b hb hmm => by have := (hb3 b hb).1; simp at hmm; omega
    rw [Int.toNat_natCast] at own3
    rw [List.map_append, ← mi_take, ← mi_drop]
    exact own3
end
end Go.Proofs.YtbaglnffgbnekaaDoor
namespace Go.Proofs.YtbaglnffgbnekaaDoor
open Go Go.V Go.B

theorem NewRefBad_c {n : Int} (hn : n < 0 ∨ 65536 < n) {w : World} {R : Ending → World → Prop} (k : ∀ w', Ext [] w w' → R (.returned (.tuple #[.agg #[.int .i64 0, .slice none 0 0], .int .i64 11])) w') :
    Calls Tryd.prog 60 #[.int .i64 n] w R := by
  apply berthref01_New_nf
  refine sel_dec (fun h => ?_) (fun h1 => sel_dec (fun h => ?_) (fun h => by omega))
  all_goals
    refine pair_put (Blk.new w [.int .i64 0, .slice none 0 0] _) (.int .i64 0) (.slice none 0 0) fun b2 e2 => ⟨_, pair0 b2, _, _, _, pair1 b2, k _ ?_⟩
    exact ((Ext.refl [] w).alloc _).trans' e2 (fun x hx => .inr (by simp at hx; omega))
theorem FromRefBad_c {n : Int} (hn : n < 0 ∨ 65536 < n) {w : World} {A : Option Addr} {l c : Nat} {R : Ending → World → Prop} (k : ∀ w', Ext [] w w' → R (.returned (.tuple #[.agg #[.int .i64 0, .slice none 0 0], .int .i64 11])) w') :
    Calls Tryd.prog 63 #[.int .i64 n, .slice A l c] w R := by
  apply berthref01_From_nf
  have b0 := Blk.new w [.int .i64 0, .slice none 0 0] 50
  have e0 : Ext [] w (w.alloc (.cells #[.int .i64 0, .slice none 0 0] 50)) := (Ext.refl _ _).alloc _
  refine NewRefBad_c hn fun w7 e7 => ⟨_, _, _, _, _, rfl, ?_⟩
  have s0 := e0.size
  have s7 := e7.size
  have hl0 := (b0.ext e7 (by simp)).lt
  refine pair_put (Blk.new w7 [.int .i64 0, .slice none 0 0] _) (.int .i64 0) (.slice none 0 0) fun b8 e8 => sel_true rfl ⟨_, pair0 b8, _, _, _, pair1 b8, ?_⟩
  have b0' := ((b0.ext e7 (by simp)).ext ((Ext.refl [] w7).alloc _) (by simp)).ext e8 (by simp; omega)
  refine pair_put b0' (.int .i64 0) (.slice none 0 0) fun b9 e9 => ⟨_, pair0 b9, _, _, _, pair1 b9, k _ ?_⟩
  exact (((e0.trans e7).trans ((Ext.refl [] w7).alloc _)).trans' e8 (fun x hx => .inr (by simp at hx; omega))).trans' e9 (fun x hx => .inr (by simp at hx; omega))
theorem FromRefPlace_c {N : Nat} (hN : N ≤ 65536) {w : World} {A : Option Addr} {l c : Nat} {xs : List Int} (hx : Ints w .i64 A l xs) (hl : l < 4611686018427387904) (hbad : ∃ j, j < l ∧ (xs.getD j 0 < 0 ∨ (N : Int) ≤ xs.getD j 0)) {R : Ending → World → Prop}
    (k : ∀ w', Ext [] w w' → R (.returned (.tuple #[.agg #[.int .i64 0, .slice none 0 0], .int .i64 12])) w') :
    Calls Tryd.prog 63 #[.int .i64 (N : Int), .slice A l c] w R := by
  apply berthref01_From_nf
  have b0 := Blk.new w [.int .i64 0, .slice none 0 0] 50
  have e0 : Ext [] w (w.alloc (.cells #[.int .i64 0, .slice none 0 0] 50)) := (Ext.refl _ _).alloc _
  refine NewRef_c hN fun w7 e7 => ⟨_, _, _, _, _, rfl, ?_⟩
  have s0 := e0.size
  have s7 := e7.size
  have hl0 := (b0.ext e7 (by simp)).lt
  refine pair_put (Blk.new w7 [.int .i64 0, .slice none 0 0] _) (.int .i64 (N : Int)) (.slice none 0 0) fun b8 e8 => sel_false rfl ?_
  have b0' := ((b0.ext e7 (by simp)).ext ((Ext.refl [] w7).alloc _) (by simp)).ext e8 (by simp; omega)
  have f8 := ((e0.trans e7).trans ((Ext.refl [] w7).alloc _)).trans' e8 (fun x hx => .inr (by simp at hx; omega))
  obtain ⟨w8, hw8⟩ : ∃ w8, w8 = ((w7.alloc (.cells #[.int .i64 0, .slice none 0 0] 50)).setCell (Addr.add ⟨w7.heap.size, 0, none⟩ 0) (.int .i64 (N : Int))).setCell (Addr.add ⟨w7.heap.size, 0, none⟩ 1) (.slice none 0 0) := ⟨_, rfl⟩
  have hx8 : Ints w8 .i64 A l xs := by rw [hw8]; exact hx.ext0 f8
  have b8' : Blk w8 w.heap.size [.int .i64 0, .slice none 0 0] := by rw [hw8]; exact b0'
  have f8' : Ext [] w w8 := by rw [hw8]; exact f8
  refine ⟨fun i w' => ∃ m : Nat, i = m ∧ m ≤ l ∧ w' = w8 ∧ ∀ j, j < m → 0 ≤ xs.getD j 0 ∧ xs.getD j 0 < (N : Int), fun i _ => l - i.toNat, ⟨0, rfl, by omega, by rw [hw8], fun j h => by omega⟩, ?_⟩
  clear hw8
  rintro _ _ _ ⟨m, rfl, hm, rfl, hg⟩
  refine sel_dec (fun hlt => ?_) (fun hge => ?_)
  · have hlt : m < l := by omega
    refine when_dec ⟨by omega, by omega⟩ (Ints.at hx8 hlt fun ad hc => ⟨_, by rw [Int.toNat_natCast, Nat.mul_one]; exact hc, sel_dec (fun h1 => ?_) (fun h1 => ?_)⟩)
    · exact pair_put b8' (.int .i64 0) (.slice none 0 0) fun b9 e9 => ⟨_, pair0 b9, _, _, _, pair1 b9, k _ (f8'.trans' e9 (fun x hx => .inr (by simp at hx; omega)))⟩
    · refine when_dec ⟨by omega, by omega⟩ (Ints.at hx8 hlt fun ad hc => ⟨_, by rw [Int.toNat_natCast, Nat.mul_one]; exact hc, sel_dec (fun h2 => ?_) (fun h2 => ?_)⟩)
      · exact pair_put b8' (.int .i64 0) (.slice none 0 0) fun b9 e9 => ⟨_, pair0 b9, _, _, _, pair1 b9, k _ (f8'.trans' e9 (fun x hx => .inr (by simp at hx; omega)))⟩
      · rw [up64 m (by omega)]
        refine ⟨⟨m + 1, rfl, by omega, rfl, fun j hj => ?_⟩, down (by omega)⟩
        rcases Nat.lt_or_ge j m with h3 | h3
        · exact hg j h3
        · have : j = m := by omega
          subst this
          exact ⟨by omega, by omega⟩
  · exfalso
    obtain ⟨j, h1, h2⟩ := hbad
    have := hg j (by omega)
    omega
end Go.Proofs.YtbaglnffgbnekaaDoor
namespace Go.Proofs.YtbaglnffgbnekaaDoor
open Go Go.V Go.B

theorem bit_c {x b : Nat} (hx : x < 18446744073709551616) (hb : b ≤ 64) {w : World} {R : Ending → World → Prop} (k : R (.returned (.bool (x.testBit b))) w) : Calls Tryd.prog 90 #[.int .u64 (x : Int), .int .i64 (b : Int)] w R := by
  apply berthref01_bit_nf
  refine ⟨fun v i w' => w' = w ∧ ∃ j : Nat, i = j ∧ j ≤ b ∧ v = ((x / 2 ^ j : Nat) : Int), fun _ i _ => b - i.toNat, ⟨rfl, 0, rfl, by omega, by simp⟩, ?_⟩
  rintro _ _ _ _ ⟨rfl, j, rfl, hj, rfl⟩
  have hle : x / 2 ^ j ≤ x := Nat.div_le_self _ _
  refine sel_dec (fun hlt => ?_) (fun hge => ?_)
  · have e : IntKind.wrap .u64 (Int.tdiv ((x / 2 ^ j : Nat) : Int) 2) = ((x / 2 ^ (j + 1) : Nat) : Int) := by
      have h2 : x / 2 ^ (j + 1) ≤ x := Nat.div_le_self _ _
      rw [show (2 : Int) = ((2 : Nat) : Int) from rfl, tdiv_nat, Nat.div_div_eq_div_mul, ← Nat.pow_succ]
      generalize x / 2 ^ (j + 1) = y at h2
      exact u64 (by omega) (by omega)
    rw [e, up64 j (by omega)]
    exact ⟨⟨rfl, j + 1, rfl, by omega, rfl⟩, by simp only [Int.toNat_natCast]; omega⟩
  · have : j = b := by omega
    subst this
    have e : (Int.tmod ((x / 2 ^ j : Nat) : Int) 2 == 1) = x.testBit j := by
      rw [show (2 : Int) = ((2 : Nat) : Int) from rfl, tmod_nat, Nat.testBit_eq_decide_div_mod_eq]
      by_cases h : x / 2 ^ j % 2 = 1
      · simp [h]
      · have : x / 2 ^ j % 2 = 0 := by omega
        simp [this]
    rw [e]; exact k
def memw (ws : List Nat) (j : Nat) : Bool := (ws.getD (j / 64) 0).testBit (j % 64)
theorem i22s : (Tryd.prog.info? 22).map (·.size) = some 1 := by kernel_rfl
theorem FromWordsRef_c {N : Nat} (hN : N ≤ 65536) {w : World} {A : Option Addr} {l c : Nat} {ws : List Nat} (hx : Ints w .u64 A l (wi ws)) (hw : ∀ j, ws.getD j 0 < 18446744073709551616) (hl : l * 8 ≤ 140737488355328) {R : Ending → World → Prop}
    (klen : ∀ w' (v : Value), l ≠ (N + 63) / 64 → Ext [] w w' → v = rv 0 none 0 0 → R (.returned (.tuple #[v, .int .i64 14])) w')
    (kbad : ∀ w' (v : Value), l = (N + 63) / 64 → (∃ j, N ≤ j ∧ memw ws j = true) → Ext [] w w' → v = rv 0 none 0 0 → R (.returned (.tuple #[v, .int .i64 12])) w')
    (k : ∀ M m d w', l = (N + 63) / 64 → Ext [] w w' → (∀ b ∈ ownF M, w.heap.size ≤ b) → (∀ j, N ≤ j → j < 64 * l → memw ws j = false) → w'.ownsRow w.heap.size 3 1 (.slice M m d) m (ints .i64 ((pk (memw ws) N).map Int.ofNat)) → R (.returned (.tuple #[rv (N : Int) M m d, .int .i64 0])) w') :
    Calls Tryd.prog 66 #[.int .i64 (N : Int), .slice A l c] w R := by
  apply berthref01_FromWords_nf
  intro w3 h3
  obtain ⟨b3, x3, z3⟩ := box_new (cs := [.int .i64 0, .slice none 0 0]) h3
  refine NewRef_c hN fun w8 e8 => ⟨_, _, _, _, _, rfl, fun w9 h9 => ?_⟩
  obtain ⟨b9, x9, z9⟩ := box_new (cs := [.int .i64 0, .slice none 0 0]) h9
  obtain ⟨w10, hr10, b10, x10⟩ := storeW (P := Tryd.prog) (t := 50) (n := 2) (vs := [.int .i64 (N : Int), .slice none 0 0]) i50s b9 rfl rfl (fun v hv => by simp at hv; rcases hv with rfl | rfl <;> rfl)
  have s3 := x3.size
  have s8 := e8.size
  have s10 := x10.size
  have e10 : Ext [] w w10 := ((x3.trans e8).trans x9).trans' x10 (fun b hb => .inr (by simp at hb; omega))
  have b3' : BlkT w10 w.heap.size [.int .i64 0, .slice none 0 0] 50 := ((b3.ext0 e8).ext0 x9).ext x10 (by simp; omega)
  refine ⟨w10, hr10, sel_false rfl ?_⟩
  have enw : IntKind.wrap .i64 (Int.tdiv (IntKind.wrap .i64 ((N : Int) + 63)) 64) = (((N + 63) / 64 : Nat) : Int) := by
    rw [w64 (x := (N : Int) + 63) (by omega) (by omega), show (N : Int) + 63 = ((N + 63 : Nat) : Int) by omega, show (64 : Int) = ((64 : Nat) : Int) from rfl, tdiv_nat, w64 (by omega) (by omega)]
  rw [enw]
  by_cases hlen : l = (N + 63) / 64
  rotate_left
  · refine sel_true (by simp; omega) (box_ret (K := fun N' A' n' c' w' => R (.returned (.tuple #[.agg #[.int .i64 N', .slice A' n' c'], .int .i64 14])) w') b3' rfl 0 none 0 0 fun w' x => klen w' _ hlen (e10.trans' x (fun b hb => .inr (by simp at hb; omega))) rfl)
  refine sel_false (by simp [hlen]) ?_
  have hl6 : l ≤ 1024 := by omega
  obtain ⟨I, hI⟩ : ∃ I : Nat → World → Prop, I = fun t w' => Ext [w8.heap.size] w10 w' ∧ (∃ M m d, BlkT w' w8.heap.size [.int .i64 (N : Int), .slice M m d] 50 ∧ w'.ownsRow w10.heap.size 3 1 (.slice M m d) m (ints .i64 ((pk (memw ws) t).map Int.ofNat))) ∧ ∀ j, N ≤ j → j < t → memw ws j = false := ⟨_, rfl⟩
  have i0 : I 0 w10 := by
    rw [hI]
    exact ⟨Ext.refl _ _, ⟨none, 0, 0, b10, own_nil _ _ _⟩, fun j _ h => by omega⟩
  have back : ∀ {t w'}, I t w' → Ext [] w w' ∧ BlkT w' w.heap.size [.int .i64 0, .slice none 0 0] 50 ∧ Ints w' .u64 A l (wi ws) := fun {t w'} h => by
    rw [hI] at h
    have e : Ext [] w w' := e10.trans' h.1 (fun b hb => .inr (by simp at hb; omega))
    exact ⟨e, b3'.ext h.1 (by simp; omega), hx.ext0 e⟩
  refine ⟨fun i w' => ∃ a : Nat, i = a ∧ a ≤ l ∧ I (64 * a) w', fun i _ => l - i.toNat, ⟨0, rfl, by omega, i0⟩, ?_⟩
  rintro _ _ w23 ⟨a, rfl, ha, i23⟩
  refine sel_dec (fun hlt => ?_) (fun hge => ?_)
  · have hlt : a < l := by omega
    have next : ∀ w', I (64 * a + 64) w' → (∃ a1 : Nat, IntKind.wrap .i64 ((a : Int) + 1) = (a1 : Int) ∧ a1 ≤ l ∧ I (64 * a1) w') ∧ l - (IntKind.wrap .i64 ((a : Int) + 1)).toNat < l - (a : Int).toNat := fun w' h => by
      rw [up64 a (by omega)]
      exact ⟨⟨a + 1, rfl, by omega, h⟩, by simp only [Int.toNat_natCast]; omega⟩
    have hbit : ∀ j, j < 64 → memw ws (64 * a + j) = (ws.getD a 0).testBit j := fun j hj => by unfold memw; rw [show (64 * a + j) / 64 = a by omega, show (64 * a + j) % 64 = j by omega]
    refine when_dec ⟨by omega, by omega⟩ (Ints.at (back i23).2.2 hlt fun ad hc => ⟨(wi ws).getD a 0, by rw [Int.toNat_natCast, Nat.mul_one]; exact hc, ?_⟩)
    rw [wi_get]
    refine sel_intro (fun hz => next _ ?_) (fun hnz => ?_)
    · have hz : ws.getD a 0 = 0 := by simpa using hz
      have hn : ∀ y, 64 * a ≤ y → y < 64 * a + 64 → memw ws y = false := fun y h1 h2 => by
        have := hbit (y - 64 * a) (by omega)
        rw [hz, show 64 * a + (y - 64 * a) = y by omega] at this
        simpa using this
      rw [hI] at i23 ⊢
      obtain ⟨q1, q2, q3⟩ := i23
      refine ⟨q1, by rw [pk_none (by omega) hn]; exact q2, fun j h1 h2 => ?_⟩
      rcases Nat.lt_or_ge j (64 * a) with h | h
      · exact q3 j h1 h
      · exact hn j h h2
    · refine ⟨fun b w' => ∃ q : Nat, b = q ∧ q ≤ 64 ∧ I (64 * a + q) w', fun b _ => 64 - b.toNat, ⟨0, rfl, by omega, i23⟩, ?_⟩
      rintro _ _ w30 ⟨q, rfl, hq, i30⟩
      refine sel_dec (fun hltq => ?_) (fun hgeq => next _ (by rwa [show q = 64 by omega] at i30))
      have hltq : q < 64 := by omega
      refine when_dec ⟨by omega, by omega⟩ (Ints.at (back i30).2.2 hlt fun ad hc => ⟨(wi ws).getD a 0, by rw [Int.toNat_natCast, Nat.mul_one]; exact hc, ?_⟩)
      rw [wi_get]
      refine bit_c (hw a) (by omega) ⟨_, rfl, ?_⟩
      rw [← hbit q hltq]
      have ex : IntKind.wrap .i64 (IntKind.wrap .i64 (64 * (a : Int)) + (q : Int)) = ((64 * a + q : Nat) : Int) := by
        rw [w64 (x := 64 * (a : Int)) (by omega) (by omega), w64 (by omega) (by omega)]; omega
      rw [ex, up64 q (by omega)]
      have hst := pk_succ (memw ws) (64 * a + q)
      have i30' := i30
      rw [hI] at i30'
      obtain ⟨q1, ⟨M, m, d, bM, own⟩, q3⟩ := i30'
      have skip : memw ws (64 * a + q) = false → (∃ q1 : Nat, ((q + 1 : Nat) : Int) = (q1 : Int) ∧ q1 ≤ 64 ∧ I (64 * a + q1) w30) ∧ 64 - ((q + 1 : Nat) : Int).toNat < 64 - (q : Int).toNat := fun hf => by
        refine ⟨⟨q + 1, rfl, by omega, ?_⟩, by simp only [Int.toNat_natCast]; omega⟩
        rw [hI]
        rw [hf] at hst
        refine ⟨q1, ⟨M, m, d, bM, by rw [show 64 * a + (q + 1) = 64 * a + q + 1 by omega, hst]; simpa using own⟩, fun j h1 h2 => ?_⟩
        rcases Nat.lt_or_ge j (64 * a + q) with h | h
        · exact q3 j h1 h
        · rw [show j = 64 * a + q by omega]; exact hf
      have hml : m ≤ 64 * a + q := by
        have h1 := own.1
        simp [ints] at h1
        have : (pk (memw ws) (64 * a + q)).length ≤ 64 * a + q := by
          unfold pk
          exact Nat.le_trans (List.length_filter_le _ _) (by simp)
        omega
      have add : memw ws (64 * a + q) = true → 64 * a + q < N → ∃ A39, ∃ A39l, ∃ A39c, World.cell? w30 (Addr.add ⟨Array.size (World.heap w8), 0, none⟩ 1) = some (Value.slice A39 A39l A39c) ∧
          ∀ w40, w40 = (World.alloc w30 (.cells #[(Value.int .i64 ((64 * a + q : Nat) : Int))] 3)) →
          ∃ A41, ∃ A41l, ∃ A41c, ∃ w42, Sem.run Tryd.prog (Builtin.append_ #[22, 22] 22 #[(Value.slice A39 A39l A39c), (Value.slice (some ⟨Array.size (World.heap w30), 0, none⟩) 1 1)]) w40 = .ok (Value.slice A41 A41l A41c) w42 ∧
          ∃ w43, Sem.run Tryd.prog (Instr.storeAt 22 (Value.pointer (some (Addr.add ⟨Array.size (World.heap w8), 0, none⟩ 1))) (Value.slice A41 A41l A41c)) w42 = .ok () w43 ∧
          (∃ q1 : Nat, ((q + 1 : Nat) : Int) = (q1 : Int) ∧ q1 ≤ 64 ∧ I (64 * a + q1) w43) ∧ 64 - ((q + 1 : Nat) : Int).toNat < 64 - (q : Int).toNat := fun ht hin => by
        refine ⟨_, _, _, cadd bM (i := 1) rfl, snoc_c own q1.size (by omega) _ fun A' c' w42 x42 own' => ?_⟩
        have hb := own_base own
        obtain ⟨w43, hr43, b43, x43⟩ := store1a (P := Tryd.prog) (v := .slice A' (m + 1) c') i22s (bM.ext x42 (fun hm => by have := (hb _ hm).1; omega)) (i := 1) (by simp) rfl rfl
        refine ⟨w43, hr43, ⟨q + 1, rfl, by omega, ?_⟩, by simp only [Int.toNat_natCast]; omega⟩
        rw [hI]
        rw [ht] at hst
        refine ⟨(q1.trans' x42 (fun b hb' => .inr (hb b hb').1)).trans' x43 (fun b hb' => .inl hb'), ⟨A', m + 1, c', b43, ?_⟩, fun j h1 h2 => q3 j h1 (by omega)⟩
        rw [show 64 * a + (q + 1) = 64 * a + q + 1 by omega, hst, List.map_append]
        exact own_ext own' x43 fun b hb' hm => by have := (own_base own' b hb').1; simp at hm; omega
      obtain ⟨be, b3e, _⟩ := back i30
      refine sel_intro (fun ht => sel_dec (fun hge => ?_) (fun hlt' => sel_true ht (add ht (by omega)))) (fun hf => sel_false hf (skip hf))
      exact box_ret (K := fun N' A' n' c' w' => R (.returned (.tuple #[.agg #[.int .i64 N', .slice A' n' c'], .int .i64 12])) w') b3e rfl 0 none 0 0 fun w' x => kbad w' _ hlen ⟨64 * a + q, by omega, ht⟩ (be.trans' x (fun b hb => .inr (by simp at hb; omega))) rfl
  · have : a = l := by omega
    subst this
    obtain ⟨be, b3e, _⟩ := back i23
    rw [hI] at i23
    obtain ⟨q1, ⟨M, m, d, bM, own⟩, q3⟩ := i23
    have hb := own_base own
    rw [pk_none (P := memw ws) (t := N) (x := 64 * a) (by omega) fun y h1 h2 => q3 y h1 h2] at own
    have hl0 := b3e.lt
    refine ⟨_, _, _, _, cadd0 bM, box_ret (K := fun N' A' n' c' w' => R (.returned (.tuple #[.agg #[.int .i64 N', .slice A' n' c'], .int .i64 0])) w') b3e rfl (N : Int) M m d fun w' x => k M m d w' hlen (be.trans' x (fun b hb => .inr (by simp at hb; omega))) (fun b hb' => by have := (hb b hb').1; have := e10.size; omega) q3 (own_weaken (own_ext own x fun b hb' hm => by have := (hb b hb').1; simp at hm; omega) e10.size)⟩
end Go.Proofs.YtbaglnffgbnekaaDoor
namespace Go.Proofs.YtbaglnffgbnekaaDoor
open Go Go.V Go.B

theorem wf_congr {f g : Nat → Bool} {k : Nat} : ∀ {n : Nat}, (∀ j, j < n → f (64 * k + j) = g (64 * k + j)) → wf f k n = wf g k n
  | 0, _ => rfl
  | n + 1, h => by rw [wf, wf, h n (by omega), wf_congr fun j hj => h j (by omega)]
theorem wf_one {f g : Nat → Bool} {k p : Nat} : ∀ {n : Nat}, p < n → f (64 * k + p) = false → g (64 * k + p) = true → (∀ j, j < n → j ≠ p → f (64 * k + j) = g (64 * k + j)) → wf g k n = wf f k n + 2 ^ p
  | 0, h, _, _, _ => by omega
  | n + 1, h, hf, hg, he => by
    rw [wf, wf]
    by_cases e : p = n
    · subst e
      rw [hf, hg, wf_congr (f := g) (g := f) (n := p) fun j hj => (he j (by omega) (by omega)).symm]
      simp; omega
    · rw [← he n (by omega) (fun h => e h.symm), wf_one (f := f) (g := g) (n := n) (by omega) hf hg fun j hj hn => he j (by omega) hn]
      omega
/-- The word k of the members below t. -/
def wk (S : SetV) (t k : Nat) : Nat := wf (fun j => S.mem j && decide (j < t)) k 64
theorem wk_lt (S : SetV) (t k : Nat) : wk S t k < 18446744073709551616 := wf_lt _ k 64
theorem wk_zero (S : SetV) (k : Nat) : wk S 0 k = 0 := by
  have : ∀ n, wf (fun j => S.mem j && decide (j < 0)) k n = 0 := fun n => by
    induction n with
    | zero => rfl
    | succ n ih => rw [wf, ih]; simp
  exact this 64
theorem wk_step {S : SetV} {t m : Nat} (ht : t ≤ m) (hm : S.mem m = true) (hn : ∀ y, t ≤ y → y < m → S.mem y = false) (k : Nat) : wk S (m + 1) k = if k = m / 64 then wk S t k + 2 ^ (m % 64) else wk S t k := by
  unfold wk
  have same : ∀ y, y ≠ m → (S.mem y && decide (y < t)) = (S.mem y && decide (y < m + 1)) := fun y hy => by
    by_cases h1 : y < t
    · simp [h1, show y < m + 1 by omega]
    · by_cases h2 : y < m + 1
      · rw [hn y (by omega) (by omega)]; rfl
      · simp [h1, h2]
  split
  · rename_i e
    subst e
    refine wf_one (p := m % 64) (Nat.mod_lt _ (by omega)) ?_ ?_ fun j hj hne => same _ (by omega)
    · rw [show 64 * (m / 64) + m % 64 = m by omega]; simp; omega
    · rw [show 64 * (m / 64) + m % 64 = m by omega]; simp [hm]
  · rename_i e
    exact (wf_congr fun j hj => same _ (fun h => e (by omega))).symm
theorem wk_full {S : SetV} {t : Nat} (hn : ∀ y, t ≤ y → S.mem y = false) (hlt : ∀ k, S.w k < 18446744073709551616) (k : Nat) : wk S t k = S.w k := by
  apply Nat.eq_of_testBit_eq
  intro j
  by_cases hj : j < 64
  · unfold wk
    rw [wf_bit _ _ 64 j hj, S.w_bit _ _ hj]
    by_cases h : 64 * k + j < t
    · simp [h]
    · rw [hn _ (by omega)]; rfl
  · rw [Nat.testBit_lt_two_pow (Nat.lt_of_lt_of_le (wk_lt S t k) (by rw [show (18446744073709551616 : Nat) = 2 ^ 64 from rfl]; exact Nat.pow_le_pow_right (by omega) (by omega))), Nat.testBit_lt_two_pow (Nat.lt_of_lt_of_le (hlt k) (by rw [show (18446744073709551616 : Nat) = 2 ^ 64 from rfl]; exact Nat.pow_le_pow_right (by omega) (by omega)))]
def wc (S : SetV) (nw t : Nat) : List Value := (List.range nw).map fun k => Value.int .u64 (wk S t k : Int)
theorem wc_get {S : SetV} {nw t k : Nat} (h : k < nw) : (wc S nw t)[k]? = some (.int .u64 (wk S t k : Int)) := by simp [wc, h]
theorem wc_len (S : SetV) (nw t : Nat) : (wc S nw t).length = nw := by simp [wc]
theorem wc_step {S : SetV} {nw t m : Nat} (ht : t ≤ m) (hm : S.mem m = true) (hn : ∀ y, t ≤ y → y < m → S.mem y = false) (hk : m / 64 < nw) : (wc S nw t).set (m / 64) (.int .u64 ((wk S t (m / 64) + 2 ^ (m % 64) : Nat) : Int)) = wc S nw (m + 1) := by
  apply List.ext_getElem?
  intro k
  rw [List.getElem?_set]
  by_cases h : m / 64 = k
  · subst h
    rw [if_pos rfl, if_pos (by rw [wc_len]; exact hk), wc_get hk, wk_step ht hm hn, if_pos rfl]
  · rw [if_neg h]
    by_cases hk2 : k < nw
    · rw [wc_get hk2, wc_get hk2, wk_step ht hm hn, if_neg (fun e => h e.symm)]
    · rw [List.getElem?_eq_none (by rw [wc_len]; omega), List.getElem?_eq_none (by rw [wc_len]; omega)]
theorem i63s : (Tryd.prog.info? 63).map (·.size) = some 1 := by kernel_rfl
theorem rep_eq (n : Nat) (v : Value) : V.rep n [v] = List.replicate n v := by
  cases n <;> simp [V.rep]
set_option maxRecDepth 100000 in
theorem refWords_c {w : World} {S : SetV} {A : Option Addr} {n c : Nat} (h : Rf w S A n c) {R : Ending → World → Prop}
    (k : ∀ b w', Ext [] w w' → w.heap.size ≤ b → Ints w' .u64 (some ⟨b, 0, none⟩) S.ws.length (wi S.ws) → R (.returned (.slice (some ⟨b, 0, none⟩) S.ws.length S.ws.length)) w') :
    Calls Tryd.prog 86 #[rv (S.N : Int) A n c] w R := by
  have o := h.ok
  have hN := o.N
  have hws := o.len
  have hcn := cnt_le o
  obtain rfl := h.len
  unfold rv
  apply berthref01_Words_nf
  intro w3 h3
  obtain ⟨b3, x3, z3⟩ := box_new (cs := [.int .i64 (S.N : Int), .slice A S.count c]) h3
  have enw : IntKind.wrap .i64 (Int.tdiv (IntKind.wrap .i64 ((S.N : Int) + 63)) 64) = (((S.N + 63) / 64 : Nat) : Int) := by
    rw [w64 (x := (S.N : Int) + 63) (by omega) (by omega), show (S.N : Int) + 63 = ((S.N + 63 : Nat) : Int) by omega, show (64 : Int) = ((64 : Nat) : Int) from rfl, tdiv_nat, w64 (by omega) (by omega)]
  refine ⟨_, cadd b3 (i := 0) rfl, ?_⟩
  rw [enw]
  refine when_dec ⟨by omega, by omega, by omega, by omega⟩ fun w5 h5 => ?_
  rw [Int.toNat_natCast] at h5 ⊢
  rw [← hws] at h5 ⊢
  rw [rep_eq] at h5
  obtain ⟨b5, x5, z5⟩ := box_new h5
  have b5' : BlkT w5 w3.heap.size (wc S S.ws.length 0) 63 := by
    have : List.replicate S.ws.length (Value.int .u64 0) = wc S S.ws.length 0 := by
      apply List.ext_getElem?
      intro k
      by_cases hk : k < S.ws.length
      · rw [wc_get hk, wk_zero, List.getElem?_replicate, if_pos hk]; rfl
      · rw [List.getElem?_eq_none (by simp; omega), List.getElem?_eq_none (by rw [wc_len]; omega)]
    rw [← this]; exact b5
  have s3 := x3.size
  have hl3 := b3.lt
  have keep : ∀ {w'}, Ext [w3.heap.size] w5 w' → Ext [] w w' ∧ BlkT w' w.heap.size [.int .i64 (S.N : Int), .slice A S.count c] 50 ∧ Cells w' A (ints .i64 S.mi) := fun {w'} e => by
    have e' : Ext [] w w' := (x3.trans x5).trans' e (fun b hb => .inr (by simp at hb; omega))
    exact ⟨e', (b3.ext0 x5).ext e (by simp; omega), h.cells.ext0 e'⟩
  refine ⟨fun i w' => ∃ t : Nat, i = (S.rank t : Int) ∧ Ext [w3.heap.size] w5 w' ∧ BlkT w' w3.heap.size (wc S S.ws.length t) 63, fun i _ => S.count - i.toNat, ⟨0, by simp [SetV.rank], Ext.refl _ _, b5'⟩, ?_⟩
  rintro _ _ w10 ⟨t, rfl, e10, bw10⟩
  obtain ⟨f10, b10, c10⟩ := keep e10
  have hrc := rank_cnt o t
  refine ⟨_, _, _, cadd b10 (i := 1) rfl, sel_dec (fun hlt => ?_) (fun hge => ?_)⟩
  · have hlt : S.rank t < S.count := by omega
    obtain ⟨n1, n2, n3, n4⟩ := next_at hlt
    obtain ⟨m, hm⟩ : ∃ m, m = mv S (S.rank t) := ⟨_, rfl⟩
    have hmN : m < S.N := by rw [hm]; exact o.mem_lt n2
    refine ⟨fun v b w' => w' = w10 ∧ ∃ q : Nat, b = q ∧ q ≤ m % 64 ∧ v = ((2 ^ q : Nat) : Int), fun _ b _ => 64 - b.toNat, ⟨rfl, 0, rfl, by omega, rfl⟩, ?_⟩
    rintro _ _ _ _ ⟨rfl, q, rfl, hq, rfl⟩
    rename_i w10
    have hq64 : q < 64 := by omega
    have hp64 : (2 : Nat) ^ (q + 1) ≤ 18446744073709551616 := by rw [show (18446744073709551616 : Nat) = 2 ^ 64 from rfl]; exact Nat.pow_le_pow_right (by omega) (by omega)
    have hp64 := trivial
    refine ⟨_, _, _, cadd b10 (i := 1) rfl, lk c10 hlt fun ad hc => ⟨_, hc, ?_⟩⟩
    rw [← hm]
    have etm : Int.tmod ((m : Nat) : Int) 64 = ((m % 64 : Nat) : Int) := by rw [show (64 : Int) = ((64 : Nat) : Int) from rfl, tmod_nat]
    have etd : IntKind.wrap .i64 (Int.tdiv ((m : Nat) : Int) 64) = ((m / 64 : Nat) : Int) := by rw [show (64 : Int) = ((64 : Nat) : Int) from rfl, tdiv_nat, w64 (by omega) (by omega)]
    rw [etm]
    refine sel_dec (fun hb => ?_) (fun hb => ?_)
    · have e2 : IntKind.wrap .u64 (2 * ((2 ^ q : Nat) : Int)) = ((2 ^ (q + 1) : Nat) : Int) := by
        have h1 : (2 : Int) * ((2 ^ q : Nat) : Int) = ((2 ^ (q + 1) : Nat) : Int) := by rw [Nat.pow_succ]; omega
        have h2 : (2 : Nat) ^ (q + 1) ≤ 2 ^ 63 := Nat.pow_le_pow_right (by omega) (by omega)
        rw [h1]
        generalize 2 ^ (q + 1) = y at h2
        exact u64 (by omega) (by omega)
      rw [e2, up64 q (by omega)]
      exact ⟨⟨rfl, q + 1, rfl, by omega, rfl⟩, by simp only [Int.toNat_natCast]; omega⟩
    · have hqm : q = m % 64 := by omega
      have hk : m / 64 < S.ws.length := by omega
      refine ⟨_, _, _, cadd b10 (i := 1) rfl, lk c10 hlt fun ad hc => ⟨_, hc, _, _, _, cadd b10 (i := 1) rfl, lk c10 hlt fun ad hc => ⟨_, hc, ?_⟩⟩⟩
      rw [← hm, etd, Int.toNat_natCast, Nat.mul_one]
      refine when_dec ⟨by omega, by omega⟩ ⟨_, cadd bw10 (wc_get hk), when_dec ⟨by omega, by omega⟩ ?_⟩
      have hstep := wc_step (nw := S.ws.length) (hm ▸ n1) (hm ▸ n2) (hm ▸ n3) hk
      have hsum : wk S t (m / 64) + 2 ^ (m % 64) < 18446744073709551616 := by
        have h1 := wk_step (hm ▸ n1 : t ≤ m) (hm ▸ n2) (hm ▸ n3) (m / 64)
        rw [if_pos rfl] at h1
        rw [← h1]; exact wk_lt _ _ _
      have ew : IntKind.wrap .u64 ((wk S t (m / 64) : Int) + ((2 ^ q : Nat) : Int)) = ((wk S t (m / 64) + 2 ^ (m % 64) : Nat) : Int) := by
        rw [hqm]
        generalize 2 ^ (m % 64) = y at hsum
        rw [u64 (by omega) (by omega)]; omega
      rw [ew]
      obtain ⟨w28, hr28, b28, x28⟩ := store1a (P := Tryd.prog) (v := .int .u64 ((wk S t (m / 64) + 2 ^ (m % 64) : Nat) : Int)) i63s (show BlkT w10.drew w3.heap.size _ _ from bw10) (i := m / 64) (by rw [wc_len]; exact hk) rfl rfl
      rw [hstep] at b28
      have x28 := x28.undrew
      refine ⟨w28, hr28, ?_⟩
      rw [up64 _ (by omega)]
      exact ⟨⟨m + 1, by rw [hm, n4], e10.trans x28, b28⟩, by simp only [Int.toNat_natCast]; omega⟩
  · have hno := no_more o (t := t) (by omega)
    refine k w3.heap.size w10 f10 x3.size ⟨by simp [wi], fun j hj => ⟨_, rfl, ?_⟩⟩
    have := cadd bw10 (wc_get (t := t) hj)
    rw [wk_full hno (fun k => o.lt k)] at this
    rw [wi_get]; exact this
end Go.Proofs.YtbaglnffgbnekaaDoor
