/- Counts of sets, and the walk of 'counted'. -/
import Derived.Test.YtbaglnffgbnekaaS8
set_option linter.unusedVariables false
set_option linter.unusedSimpArgs false
namespace Go.Proofs.Ytbaglnffgbnekaa
open Go Go.V Go.B

theorem count_at {S : SetV} (h : S.Ok) {M : Nat} (hM : S.N ≤ M) : S.count = S.rank M := (rank_full h hM).symm
theorem rank_congr {S T : SetV} (h : ∀ i, S.mem i = T.mem i) (M : Nat) : S.rank M = T.rank M := by
  unfold SetV.rank
  apply List.countP_congr
  intro i _
  rw [h i]
theorem count_or_and {A B C D : SetV} (ha : A.Ok) (hb : B.Ok) (hc : C.Ok) (hd : D.Ok) (hor : ∀ i, C.mem i = (A.mem i || B.mem i)) (hand : ∀ i, D.mem i = (A.mem i && B.mem i)) : C.count + D.count = A.count + B.count := by
  obtain ⟨M, h1, h2, h3, h4⟩ : ∃ M, A.N ≤ M ∧ B.N ≤ M ∧ C.N ≤ M ∧ D.N ≤ M := ⟨A.N + B.N + C.N + D.N, by omega, by omega, by omega, by omega⟩
  rw [count_at ha h1, count_at hb h2, count_at hc h3, count_at hd h4]
  clear h1 h2 h3 h4
  induction M with
  | zero => rfl
  | succ M ih =>
    rw [rank_succ, rank_succ, rank_succ, rank_succ, hor M, hand M]
    cases A.mem M <;> cases B.mem M <;> simp <;> omega
theorem count_pos {S : SetV} (h : S.Ok) : 0 < S.count ↔ ∃ i, S.mem i = true := by
  rw [← members_length]
  constructor
  · intro hp
    obtain ⟨i, hi⟩ := List.exists_mem_of_length_pos hp
    exact ⟨i, (mem_members h i).1 hi⟩
  · rintro ⟨i, hi⟩
    exact List.length_pos_of_mem ((mem_members h i).2 hi)
/-- How many places of a universe stand in a list. -/
def cnt (N : Nat) (l : List Int) : Nat := (List.range N).countP fun i : Nat => decide ((i : Int) ∈ l)
theorem cnt_nil (N : Nat) : cnt N [] = 0 := by simp [cnt, List.countP_eq_zero]
theorem cnt_succ' (N : Nat) (l : List Int) : cnt (N + 1) l = cnt N l + (if (N : Int) ∈ l then 1 else 0) := by
  unfold cnt
  rw [List.range_succ, List.countP_append]
  simp [List.countP_cons]
theorem cnt_snoc (N : Nat) (l : List Int) (x : Int) : cnt N (l ++ [x]) = cnt N l + (if (0 ≤ x ∧ x < (N : Int)) ∧ x ∉ l then 1 else 0) := by
  induction N with
  | zero =>
    have : ¬ ((0 ≤ x ∧ x < ((0 : Nat) : Int)) ∧ x ∉ l) := by omega
    rw [if_neg this]; simp [cnt]
  | succ N ih =>
    rw [cnt_succ', cnt_succ', ih]
    by_cases hx : x ∈ l
    · have e : ((N : Int) ∈ l ++ [x]) ↔ (N : Int) ∈ l := by
        rw [List.mem_append, List.mem_singleton]
        exact ⟨fun h => h.elim id (fun h => by rw [h]; exact hx), .inl⟩
      simp [hx, e]
    · by_cases hN : (N : Int) = x
      · subst hN
        have : (N : Int) ∈ l ++ [(N : Int)] := by simp
        rw [if_pos this, if_neg hx, if_neg (by omega), if_pos ⟨by omega, hx⟩]
      · have e : ((N : Int) ∈ l ++ [x]) ↔ (N : Int) ∈ l := by
          rw [List.mem_append, List.mem_singleton]
          exact ⟨fun h => h.elim id (fun h => absurd h hN), .inl⟩
        have e2 : ((0 ≤ x ∧ x < ((N + 1 : Nat) : Int)) ∧ x ∉ l) ↔ ((0 ≤ x ∧ x < (N : Int)) ∧ x ∉ l) := by
          refine and_congr_left fun _ => ?_
          omega
        simp only [e, e2]
        omega
theorem cnt_le (N : Nat) (l : List Int) : cnt N l ≤ N := by
  have := List.countP_le_length (p := fun i : Nat => decide ((i : Int) ∈ l)) (l := List.range N)
  simpa [cnt] using this
theorem Hd.n {w : World} {x : Nat} {t : Three} (h : Blk w x t.cells) : w.cell? (Addr.add ⟨x, 0, none⟩ 0) = some (.int .i64 t.n) := by
  rw [Addr.add0]; exact h.cell rfl
theorem Hd.a {w : World} {x : Nat} {t : Three} (h : Blk w x t.cells) : w.cell? (Addr.add ⟨x, 0, none⟩ 1) = some (.slice t.A t.la t.ca) := by
  rw [Addr.add0]; exact h.cell rfl
theorem Hd.b {w : World} {x : Nat} {t : Three} (h : Blk w x t.cells) : w.cell? (Addr.add ⟨x, 0, none⟩ 2) = some (.slice t.B t.lb t.cb) := by
  rw [Addr.add0]; exact h.cell rfl
theorem Hd.d {w : World} {x : Nat} {t : Three} (h : Blk w x t.cells) : w.cell? (Addr.add ⟨x, 0, none⟩ 3) = some (.slice t.D t.ld t.cd) := by
  rw [Addr.add0]; exact h.cell rfl
set_option maxRecDepth 4000 in
theorem counted_c {t : Three} {N : Nat} (hN : t.n = N) {w : World} (ht : t.In w) {q : Option Addr} {C : SetV} {f : List Nat} (hC : RefAt w q C f) (hCN : C.N = N) (hm : ∀ i : Nat, C.mem i = (decide (i < N) && decide ((i : Int) ∈ t.xs))) {R : Ending → World → Prop}
    (k : ∀ w', Ext [] w w' → R (.returned (.bool true)) w') : Calls Try.prog 39 #[t.val, .pointer q] w R := by
  unfold Three.val Three.cells
  apply berthlaw01_counted_nf
  have hlen := ht.a.len
  have hal := ht.al
  have hN65 := hC.ok.N
  have e0 : Ext [] w (w.alloc (.cells ⟨t.cells⟩ 27)) := (Ext.refl _ _).alloc _
  have b0 : Blk (w.alloc (.cells ⟨t.cells⟩ 27)) w.heap.size t.cells := Blk.new _ _ _
  have hcount : t.la ≤ 300 → C.count = cnt N (t.xs.take t.la) := fun _ => by
    unfold SetV.count SetV.rank cnt
    rw [hCN, List.take_of_length_le (by omega)]
    apply List.countP_congr
    intro i hi
    rw [hm i]
    simp [List.mem_range.1 hi]
  refine ⟨fun a i w' => ∃ m : Nat, i = m ∧ m ≤ t.la ∧ m ≤ 300 ∧ a = ((cnt N (t.xs.take m) : Nat) : Int) ∧ Ext [] w w' ∧ Blk w' w.heap.size t.cells, fun _ i _ => 301 - i.toNat, ⟨0, rfl, by omega, by omega, by rw [List.take_zero, cnt_nil]; rfl, e0, b0⟩, ?_⟩
  rintro _ _ _ w1 ⟨m, rfl, hm1, hm2, rfl, e1, b1⟩
  have hcm := cnt_le N (t.xs.take m)
  have fin : ∀ (K : Prop), (t.la = m ∨ m = 300) → R (.returned (.bool true)) w1 → ∃ A56, ∃ A56l, ∃ A56c, w1.cell? (Addr.add ⟨w.heap.size, 0, none⟩ 1) = some (.slice A56 A56l A56c) ∧
      V.sel (decide (((A56l : Nat) : Int) > 300)) (R (.returned (.bool true)) w1) (Calls Try.prog 29 #[.pointer q] w1 fun e58 w59 => ∃ n57, e58 = .returned (.int .i64 n57) ∧ R (.returned (.bool (n57 == ((cnt N (t.xs.take m) : Nat) : Int)))) w59) := fun _ hend hk => by
    refine ⟨_, _, _, Hd.a b1, sel_dec (fun _ => hk) (fun hle => ?_)⟩
    refine Count_c (hC.ext0 e1) ⟨_, rfl, ?_⟩
    have hml : m = t.la := by omega
    rw [hcount (by omega), hml]
    simpa using hk
  refine ⟨_, _, _, Hd.a b1, sel_dec (fun hlt => ?_) (fun hge => fin True (.inl (by omega)) (k _ e1))⟩
  refine sel_intro (fun hlt3 => ?_) (fun hge3 => fin True (.inr (by have := of_decide_eq_false hge3; omega)) (k _ e1))
  have hlt3 := of_decide_eq_true hlt3
  have hml : m < t.la := by omega
  have htk := getD_take_succ t.xs m (by omega)
  have ha1 := ht.a.ext0 e1
  refine ⟨_, _, _, Hd.a b1, when_dec ⟨by omega, by omega⟩ (Ints.at ha1 hml fun ad hc => ?_)⟩
  try rw [Int.toNat_natCast, Nat.mul_one]
  refine ⟨_, hc, ?_⟩
  have hcs := cnt_snoc N (t.xs.take m) (t.xs.getD m 0)
  rw [← htk] at hcs
  refine sel_dec (fun hneg => ?_) (fun hneg => ?_)
  · refine ⟨fun s j w' => ∃ r : Nat, j = r ∧ r ≤ m ∧ Ext [] w w' ∧ Blk w' w.heap.size t.cells ∧ (s = true ↔ (¬ (0 ≤ t.xs.getD m 0 ∧ t.xs.getD m 0 < (N : Int)) ∨ t.xs.getD m 0 ∈ t.xs.take r)), fun _ j _ => m - j.toNat,
      ⟨0, rfl, by omega, e1.drew, b1, ⟨fun _ => .inl (by omega), fun _ => rfl⟩⟩, ?_⟩
    rintro s _ _ w2 ⟨r, rfl, hr, e2, b2, hs⟩
    have ha2 := ht.a.ext0 e2
    refine sel_dec (fun hlt2 => ?_) (fun hge2 => ?_)
    · have hrm : r < m := by omega
      have htr := getD_take_succ t.xs r (by omega)
      rw [up64 r (by omega)]
      refine sel_intro (fun hse => ?_) (fun hse => ?_)
      · refine ⟨⟨r + 1, rfl, by omega, e2.drew, b2, fun _ => ?_, fun _ => rfl⟩, down (by omega)⟩
        rw [htr]
        rcases hs.1 hse with h | h
        · exact .inl h
        · exact .inr (List.mem_append.2 (.inl h))
      · refine ⟨_, _, _, Hd.a b2, when_dec ⟨by omega, by omega⟩ (Ints.at ha2 (show r < t.la by omega) fun ad hc2 => ?_)⟩
        try rw [Int.toNat_natCast, Nat.mul_one]
        refine ⟨_, hc2, _, _, _, Hd.a b2, when_dec ⟨by omega, by omega⟩ (Ints.at ha2 hml fun ad hc3 => ?_)⟩
        try rw [Int.toNat_natCast, Nat.mul_one]
        refine ⟨_, hc3, ⟨r + 1, rfl, by omega, e2.drew, b2, ?_⟩, down (by omega)⟩
        rw [htr, List.mem_append, List.mem_singleton, beq_iff_eq]
        have hno : ¬ (¬ (0 ≤ t.xs.getD m 0 ∧ t.xs.getD m 0 < (N : Int)) ∨ t.xs.getD m 0 ∈ t.xs.take r) := fun h => by rw [hs.2 h] at hse; cases hse
        exact ⟨fun h => .inr (.inr h.symm), fun h => h.elim (fun h => absurd (.inl h) hno) fun h => h.elim (fun h => absurd (.inr h) hno) fun h => h.symm⟩
    · obtain rfl : r = m := by omega
      refine sel_intro (fun hse => ?_) (fun hse => ?_)
      · have hse : s = false := by simpa using hse
        have hno : ¬ (¬ (0 ≤ t.xs.getD r 0 ∧ t.xs.getD r 0 < (N : Int)) ∨ t.xs.getD r 0 ∈ t.xs.take r) := fun h => by rw [hs.2 h] at hse; cases hse
        have hins : 0 ≤ t.xs.getD r 0 ∧ t.xs.getD r 0 < (N : Int) := Classical.byContradiction fun h => hno (.inl h)
        have hnin : t.xs.getD r 0 ∉ t.xs.take r := fun h => hno (.inr h)
        refine ⟨_, _, _, Hd.a b2, when_dec ⟨by omega, by omega⟩ (Ints.at ha2 hml fun ad hc2 => ?_)⟩
        try rw [Int.toNat_natCast, Nat.mul_one]
        refine ⟨_, hc2, Has_c (hC.ext0 e2) _ ⟨_, rfl, ?_⟩⟩
        have hhas : C.has (t.xs.getD r 0) = true := by
          unfold SetV.has
          rw [hm]
          have hmem : t.xs.getD r 0 ∈ t.xs := by
            simp [List.getD_eq_getElem?_getD, show r < t.xs.length by omega]
          have e3 : ((t.xs.getD r 0).toNat : Int) = t.xs.getD r 0 := by omega
          rw [e3]
          simp only [hmem, decide_true, Bool.and_true, Bool.and_eq_true, decide_eq_true_eq]
          omega
        rw [hhas]
        refine sel_false rfl ⟨⟨r + 1, ?_, by omega, by omega, ?_, e2, b2⟩, ?_⟩
        · exact up64 r (by omega)
        · rw [hcs, if_pos ⟨hins, hnin⟩, up64 _ (by omega)]
        · rw [up64 r (by omega)]; exact down (by omega)
      · have hse : s = true := by simpa using hse
        refine ⟨⟨r + 1, ?_, by omega, by omega, ?_, e2, b2⟩, ?_⟩
        · exact up64 r (by omega)
        · rw [hcs, if_neg (fun h => (hs.1 hse).elim (fun h' => h' h.1) h.2), Nat.add_zero]
        · rw [up64 r (by omega)]; exact down (by omega)
  · refine ⟨_, _, _, Hd.a b1, when_dec ⟨by omega, by omega⟩ (Ints.at ha1 hml fun ad hc => ?_)⟩
    try rw [Int.toNat_natCast, Nat.mul_one]
    refine ⟨_, hc, _, Hd.n b1, ?_⟩
    rw [hN]
    refine ⟨fun s j w' => ∃ r : Nat, j = r ∧ r ≤ m ∧ Ext [] w w' ∧ Blk w' w.heap.size t.cells ∧ (s = true ↔ (¬ (0 ≤ t.xs.getD m 0 ∧ t.xs.getD m 0 < (N : Int)) ∨ t.xs.getD m 0 ∈ t.xs.take r)), fun _ j _ => m - j.toNat,
      ⟨0, rfl, by omega, e1.drew, b1, ⟨fun h => .inl (by have := of_decide_eq_true h; omega), fun h => decide_eq_true (h.elim (fun h => by omega) (fun h => by simp at h))⟩⟩, ?_⟩
    rintro s _ _ w2 ⟨r, rfl, hr, e2, b2, hs⟩
    have ha2 := ht.a.ext0 e2
    refine sel_dec (fun hlt2 => ?_) (fun hge2 => ?_)
    · have hrm : r < m := by omega
      have htr := getD_take_succ t.xs r (by omega)
      rw [up64 r (by omega)]
      refine sel_intro (fun hse => ?_) (fun hse => ?_)
      · refine ⟨⟨r + 1, rfl, by omega, e2.drew, b2, fun _ => ?_, fun _ => rfl⟩, down (by omega)⟩
        rw [htr]
        rcases hs.1 hse with h | h
        · exact .inl h
        · exact .inr (List.mem_append.2 (.inl h))
      · refine ⟨_, _, _, Hd.a b2, when_dec ⟨by omega, by omega⟩ (Ints.at ha2 (show r < t.la by omega) fun ad hc2 => ?_)⟩
        try rw [Int.toNat_natCast, Nat.mul_one]
        refine ⟨_, hc2, _, _, _, Hd.a b2, when_dec ⟨by omega, by omega⟩ (Ints.at ha2 hml fun ad hc3 => ?_)⟩
        try rw [Int.toNat_natCast, Nat.mul_one]
        refine ⟨_, hc3, ⟨r + 1, rfl, by omega, e2.drew, b2, ?_⟩, down (by omega)⟩
        rw [htr, List.mem_append, List.mem_singleton, beq_iff_eq]
        have hno : ¬ (¬ (0 ≤ t.xs.getD m 0 ∧ t.xs.getD m 0 < (N : Int)) ∨ t.xs.getD m 0 ∈ t.xs.take r) := fun h => by rw [hs.2 h] at hse; cases hse
        exact ⟨fun h => .inr (.inr h.symm), fun h => h.elim (fun h => absurd (.inl h) hno) fun h => h.elim (fun h => absurd (.inr h) hno) fun h => h.symm⟩
    · obtain rfl : r = m := by omega
      refine sel_intro (fun hse => ?_) (fun hse => ?_)
      · have hse : s = false := by simpa using hse
        have hno : ¬ (¬ (0 ≤ t.xs.getD r 0 ∧ t.xs.getD r 0 < (N : Int)) ∨ t.xs.getD r 0 ∈ t.xs.take r) := fun h => by rw [hs.2 h] at hse; cases hse
        have hins : 0 ≤ t.xs.getD r 0 ∧ t.xs.getD r 0 < (N : Int) := Classical.byContradiction fun h => hno (.inl h)
        have hnin : t.xs.getD r 0 ∉ t.xs.take r := fun h => hno (.inr h)
        refine ⟨_, _, _, Hd.a b2, when_dec ⟨by omega, by omega⟩ (Ints.at ha2 hml fun ad hc2 => ?_)⟩
        try rw [Int.toNat_natCast, Nat.mul_one]
        refine ⟨_, hc2, Has_c (hC.ext0 e2) _ ⟨_, rfl, ?_⟩⟩
        have hhas : C.has (t.xs.getD r 0) = true := by
          unfold SetV.has
          rw [hm]
          have hmem : t.xs.getD r 0 ∈ t.xs := by
            simp [List.getD_eq_getElem?_getD, show r < t.xs.length by omega]
          have e3 : ((t.xs.getD r 0).toNat : Int) = t.xs.getD r 0 := by omega
          rw [e3]
          simp only [hmem, decide_true, Bool.and_true, Bool.and_eq_true, decide_eq_true_eq]
          omega
        rw [hhas]
        refine sel_false rfl ⟨⟨r + 1, ?_, by omega, by omega, ?_, e2, b2⟩, ?_⟩
        · exact up64 r (by omega)
        · rw [hcs, if_pos ⟨hins, hnin⟩, up64 _ (by omega)]
        · rw [up64 r (by omega)]; exact down (by omega)
      · have hse : s = true := by simpa using hse
        refine ⟨⟨r + 1, ?_, by omega, by omega, ?_, e2, b2⟩, ?_⟩
        · exact up64 r (by omega)
        · rw [hcs, if_neg (fun h => (hs.1 hse).elim (fun h' => h' h.1) h.2), Nat.add_zero]
        · rw [up64 r (by omega)]; exact down (by omega)
end Go.Proofs.Ytbaglnffgbnekaa
