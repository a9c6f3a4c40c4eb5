/- The document's set of a list of places: made, and its members listed. -/
import Derived.Test.YtbaglnffgbnekaaS15
set_option linter.unusedVariables false
set_option linter.unusedSimpArgs false
namespace Go.Proofs.Ytbaglnffgbnekaa
open Go Go.V Go.B

theorem pair0 {w : World} {b : Nat} {x y : Value} (h : Blk w b [x, y]) : w.cell? (Addr.add ⟨b, 0, none⟩ 0) = some x := by rw [Addr.add0]; exact h.cell rfl
theorem pair1 {w : World} {b : Nat} {x y : Value} (h : Blk w b [x, y]) : w.cell? (Addr.add ⟨b, 0, none⟩ 1) = some y := by rw [Addr.add0]; exact h.cell rfl
theorem pair_put {w : World} {b : Nat} {x y : Value} (h : Blk w b [x, y]) (v0 v1 : Value) {K : Prop} (k : Blk ((w.setCell (Addr.add ⟨b, 0, none⟩ 0) v0).setCell (Addr.add ⟨b, 0, none⟩ 1) v1) b [v0, v1] → Ext [b] w ((w.setCell (Addr.add ⟨b, 0, none⟩ 0) v0).setCell (Addr.add ⟨b, 0, none⟩ 1) v1) → K) :
    (∃ u, w.cell? (Addr.add ⟨b, 0, none⟩ 0) = some u) ∧ w.frozen? (Addr.add ⟨b, 0, none⟩ 0) = false ∧ (∃ u, (w.setCell (Addr.add ⟨b, 0, none⟩ 0) v0).cell? (Addr.add ⟨b, 0, none⟩ 1) = some u) ∧ (w.setCell (Addr.add ⟨b, 0, none⟩ 0) v0).frozen? (Addr.add ⟨b, 0, none⟩ 1) = false ∧ K := by
  simp only [Addr.add0] at k ⊢
  have h1 := h.set 0 v0
  refine ⟨⟨_, h.cell rfl⟩, h.frozen _, ⟨y, h1.cell rfl⟩, h1.frozen _, k (h1.set 1 v1) ?_⟩
  exact ((Ext.refl _ _).setCell _ _ (.inl (by simp))).setCell _ _ (.inl (by simp))
theorem NewRef_c {n : Nat} (hn : n ≤ 65536) {w : World} {R : Ending → World → Prop} (k : ∀ w', Ext [] w w' → R (.returned (.tuple #[.agg #[.int .i64 (n : Int), .slice none 0 0], .int .i64 0])) w') :
    Calls Try.prog 72 #[.int .i64 (n : Int)] w R := by
  apply berthref01_New_nf
  refine sel_dec (fun h => by omega) (fun _ => sel_dec (fun h => by omega) (fun _ => ?_))
  refine pair_put (Blk.new w [.int .i64 0, .slice none 0 0] _) (.int .i64 (n : Int)) (.slice none 0 0) fun b2 e2 => ⟨_, pair0 b2, _, _, _, pair1 b2, k _ ?_⟩
  exact ((Ext.refl [] w).alloc _).trans' e2 (fun x hx => .inr (by simp at hx; omega))
/-- The places of a list, rising. -/
def placed (N : Nat) (xs : List Int) : List Int := ((List.range N).filter fun i : Nat => decide ((i : Int) ∈ xs)).map Int.ofNat
theorem placed_len (N : Nat) (xs : List Int) : (placed N xs).length ≤ N := by
  unfold placed
  rw [List.length_map]
  exact Nat.le_trans (List.length_filter_le _ _) (by simp)
def bools (N : Nat) (xs : List Int) : List Value := (List.range N).map fun i : Nat => Value.bool (decide ((i : Int) ∈ xs))
theorem bools_get {N i : Nat} {xs : List Int} (h : i < N) : (bools N xs)[i]? = some (.bool (decide ((i : Int) ∈ xs))) := by simp [bools, h]
theorem bools_set {N q : Nat} {xs : List Int} (h : q < N) : (bools N xs).set q (.bool true) = bools N (xs ++ [(q : Int)]) := by
  apply List.ext_getElem (by simp [bools])
  intro i h1 h2
  have hi : i < N := by simpa [bools] using h2
  simp only [bools, List.getElem_set, List.getElem_map, List.getElem_range, List.mem_append, List.mem_singleton]
  by_cases hq : q = i
  · subst hq; simp
  · have : ¬ ((i : Int) = (q : Int)) := by omega
    simp [hq, this]
set_option maxRecDepth 4000 in
theorem FromRef_c {N : Nat} (hN : N ≤ 65536) {w : World} {A : Option Addr} {l c : Nat} {xs : List Int} (hx : Ints w .i64 A l xs) (hl : l < 4611686018427387904) (hin : ∀ j, j < l → 0 ≤ xs.getD j 0 ∧ xs.getD j 0 < (N : Int)) {R : Ending → World → Prop}
    (k : ∀ M ml mc w', Ext [] w w' → w'.ownsRow w.heap.size 3 1 (.slice M ml mc) ml (ints .i64 (placed N xs)) → R (.returned (.tuple #[.agg #[.int .i64 (N : Int), .slice M ml mc], .int .i64 0])) w') :
    Calls Try.prog 55 #[.int .i64 (N : Int), .slice A l c] w R := by
  apply berthref01_From_nf
  have hlen := hx.len
  have e0 : Ext [] w (w.alloc (.cells #[.int .i64 0, .slice none 0 0] 38)) := (Ext.refl _ _).alloc _
  have r0 : Blk (w.alloc (.cells #[.int .i64 0, .slice none 0 0] 38)) w.heap.size [.int .i64 0, .slice none 0 0] := Blk.new _ _ _
  refine NewRef_c hN fun w1 e1 => ⟨_, _, _, _, _, rfl, ?_⟩
  have r1 := r0.ext e1 (by simp)
  have hr1 := r1.lt
  have e2 : Ext [] w1 (w1.alloc (.cells #[.int .i64 0, .slice none 0 0] 38)) := (Ext.refl _ _).alloc _
  refine pair_put (Blk.new w1 [.int .i64 0, .slice none 0 0] _) (.int .i64 (N : Int)) (.slice none 0 0) fun s3 e3 => sel_false rfl ?_
  have f3 := ((e0.trans e1).trans e2).trans' e3 (fun x hx => .inr (by
    simp at hx
    have := e1.size; have := e0.size; omega))
  have r3 := (r1.ext e2 (by simp)).ext e3 (by simp; omega)
  generalize ((w1.alloc (.cells #[.int .i64 0, .slice none 0 0] 38)).setCell (Addr.add ⟨w1.heap.size, 0, none⟩ 0) (.int .i64 (N : Int))).setCell (Addr.add ⟨w1.heap.size, 0, none⟩ 1) (.slice none 0 0) = w3 at *
  have sz3 := e3.size
  have szA := e2.size
  have szB := e1.size
  have szC := e0.size
  -- all are inside
  refine ⟨fun i w' => w' = w3 ∧ ∃ m : Nat, i = m ∧ m ≤ l, fun i _ => l - i.toNat, ⟨rfl, 0, rfl, by omega⟩, ?_⟩
  rintro _ _ _ ⟨rfl, m, rfl, hm⟩
  rename_i w3
  have hx3 := hx.ext0 f3
  refine sel_dec (fun hlt => ?_) (fun hge => ?_)
  · have hml : m < l := by omega
    have hb := hin m hml
    refine when_dec ⟨by omega, by omega⟩ (Ints.at hx3 hml fun ad hc => ?_)
    rw [Int.toNat_natCast, Nat.mul_one]
    refine ⟨_, hc, sel_dec (fun h => by omega) (fun _ => ?_)⟩
    refine when_dec ⟨by omega, by omega⟩ (Ints.at hx3 hml fun ad hc => ⟨_, hc, sel_dec (fun h => by omega) (fun _ => ?_)⟩)
    rw [up64 m (by omega)]
    exact ⟨⟨rfl, m + 1, rfl, by omega⟩, down (by omega)⟩
  clear hge hm m
  refine when_dec ⟨by omega, by omega, by omega, by omega⟩ ?_
  rw [Int.toNat_natCast]
  have hb0 : V.rep N [Value.bool false] = bools N [] := by
    simp [V.rep, bools, List.map_const']
  rw [hb0]
  have e4 : Ext [] w3 (w3.alloc (.cells ⟨bools N []⟩ 4)) := (Ext.refl _ _).alloc _
  have g4 : Blk (w3.alloc (.cells ⟨bools N []⟩ 4)) w3.heap.size (bools N []) := Blk.new _ _ _
  have s4 := s3.ext e4 (by simp)
  have r4 := r3.ext e4 (by simp)
  have hsl := s3.lt
  refine ⟨fun i w' => ∃ m : Nat, i = m ∧ m ≤ l ∧ Ext [] w3 w' ∧ Blk w' w3.heap.size (bools N (xs.take m)), fun i _ => l - i.toNat, ⟨0, rfl, by omega, e4, by simpa using g4⟩, ?_⟩
  rintro _ _ w5 ⟨m, rfl, hm, e5, g5⟩
  refine sel_dec (fun hlt => ?_) (fun hge => ?_)
  · have hml : m < l := by omega
    have hb := hin m hml
    have htk := getD_take_succ xs m (by omega)
    obtain ⟨q, hq⟩ : ∃ q : Nat, xs.getD m 0 = q := ⟨(xs.getD m 0).toNat, by omega⟩
    refine when_dec ⟨by omega, by omega⟩ (Ints.at ((hx.ext0 f3).ext0 e5) hml fun ad hc => ?_)
    try rw [Int.toNat_natCast, Nat.mul_one]
    rw [hq] at hc hb htk
    refine ⟨_, hc, when_dec ⟨by omega, by omega⟩ ?_⟩
    simp only [Int.toNat_natCast, Nat.mul_one, Addr.addAdd]
    rw [up64 m (by omega)]
    have hqN : q < N := by omega
    refine ⟨⟨_, g5.cell (bools_get hqN)⟩, g5.frozen _, ⟨m + 1, rfl, by omega, e5.setCell _ _ (.inr (Nat.le_refl _)), ?_⟩, down (by omega)⟩
    have := g5.set q (.bool true)
    rw [bools_set hqN, ← htk] at this
    exact this
  obtain rfl : m = l := by omega
  rw [List.take_of_length_le (by omega)] at g5
  have s5 := s3.ext e5 (by simp)
  have r5 := r3.ext e5 (by simp)
  have sz5 := e5.size
  have hg5 := g5.lt
  refine ⟨fun i w' => ∃ (q : Nat) (M : Option Addr) (ml mc : Nat), i = q ∧ q ≤ N ∧ Ext [w1.heap.size] w5 w' ∧ Blk w' w1.heap.size [.int .i64 (N : Int), .slice M ml mc] ∧ w'.ownsRow w5.heap.size 3 1 (.slice M ml mc) ml (ints .i64 (placed q xs)), fun i _ => N - i.toNat,
    ⟨0, none, 0, 0, rfl, by omega, Ext.refl _ _, s5, own_nil _ _ _⟩, ?_⟩
  rintro _ _ w6 ⟨q, M, ml, mc, rfl, hq, e6, s6, own6⟩
  have sz6 := e6.size
  have g6 := g5.ext e6 (by simp; omega)
  have hml : ml ≤ q := by
    have := placed_len q xs
    have h1 := own6.1
    simp at h1; omega
  refine sel_dec (fun hlt => ?_) (fun hge => ?_)
  · have hqN : q < N := by omega
    refine when_dec ⟨by omega, by omega⟩ ⟨_, by rw [Addr.add0, Int.toNat_natCast, Nat.mul_one]; exact g6.cell (bools_get hqN), ?_⟩
    rw [up64 q (by omega)]
    have hp : placed (q + 1) xs = if (q : Int) ∈ xs then placed q xs ++ [(q : Int)] else placed q xs := by
      unfold placed
      rw [List.range_succ, List.filter_append, List.map_append]
      by_cases h : (q : Int) ∈ xs
      · simp [h]
      · simp [h]
    refine sel_dec (fun hmem => ?_) (fun hmem => ?_)
    · refine ⟨_, _, _, pair1 s6, ?_⟩
      obtain ⟨M', c', w7, hr7, own7, e7⟩ := app1 (P := Try.prog) (t := 25) (ty := 25) (e := 3) (bytes := 8) (z := .int .i64 0) (by kernel_rfl) (by kernel_rfl) rfl own6 (x := .int .i64 (q : Int)) rfl (by omega) (by omega) (by omega)
      have hM := own_base own6
      have s7 := s6.ext e7 (fun h => by have := (hM _ h).1; omega)
      refine ⟨_, _, _, _, hr7, ?_⟩
      simp only [Addr.addAdd]
      have e8 : Ext [w1.heap.size] w7 (w7.setCell ⟨w1.heap.size, 1, none⟩ (.slice M' (ml + 1) c')) := (Ext.refl _ _).setCell _ _ (.inl (by simp))
      refine ⟨⟨_, s7.cell (i := 1) rfl⟩, s7.frozen _, ⟨q + 1, M', ml + 1, c', rfl, by omega, ?_, by simpa using s7.set 1 (.slice M' (ml + 1) c'), ?_⟩, down (by omega)⟩
      · exact (e6.trans' e7 (fun x hx => .inr (hM x hx).1)).trans e8
      · rw [hp, if_pos hmem]
        have hM7 := own_base own7
        exact own_ext (own_snoc own7) e8 (fun b hb => by have := (hM7 b hb).1; simp; omega)
    · exact ⟨⟨q + 1, M, ml, mc, rfl, by omega, e6, s6, by rw [hp, if_neg hmem]; exact own6⟩, down (by omega)⟩
  · obtain rfl : q = N := by omega
    refine ⟨_, pair0 s6, _, _, _, pair1 s6, ?_⟩
    have r6 := r5.ext e6 (by simp; omega)
    refine pair_put r6 (.int .i64 (q : Int)) (.slice M ml mc) fun r7 e7 => ⟨_, pair0 r7, _, _, _, pair1 r7, ?_⟩
    have hM := own_base own6
    have f5 := f3.trans e5
    have szf := f3.size
    refine k M ml mc _ ?_ ?_
    · refine (f5.trans' e6 (fun x hx => .inr ?_)).trans' e7 (fun x hx => .inr ?_)
      · simp only [List.mem_singleton] at hx; omega
      · simp only [List.mem_singleton] at hx; omega
    · have := own_ext own6 e7 (fun b hb => by have := (hM b hb).1; simp; omega)
      refine ⟨this.1, ?_⟩
      rcases this.2 with h2 | ⟨g, cap, cur, hv, hb, rest⟩
      · exact .inl h2
      · exact .inr ⟨g, cap, cur, hv, by omega, rest⟩
end Go.Proofs.Ytbaglnffgbnekaa
