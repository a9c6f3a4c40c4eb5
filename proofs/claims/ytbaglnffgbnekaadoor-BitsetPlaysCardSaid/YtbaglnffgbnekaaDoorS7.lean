/- The helpers of the statements on sets: of, all, ints, awake, sized, SameInts. -/
import Derived.Test.YtbaglnffgbnekaaDoorS6
set_option linter.unusedVariables false
set_option linter.unusedSimpArgs false
namespace Go.Proofs.YtbaglnffgbnekaaDoor
open Go Go.V Go.B

theorem num_c (e : Int) {w : World} {R : Ending → World → Prop} (k : R (.returned (.int .i64 e)) w) : Calls Tryd.prog 20 #[.int .i64 e] w R := by
  apply berthlaw01_num_nf; exact k
theorem sized_c (n : Int) {w : World} {R : Ending → World → Prop} (k : R (.returned (.bool (decide (0 ≤ n ∧ n ≤ 65536)))) w) : Calls Tryd.prog 7 #[.int .i64 n] w R := by
  apply berthlaw01_sized_nf
  refine sel_dec (fun h => ?_) (fun h => ?_)
  · have : decide (n ≤ 65536) = decide (0 ≤ n ∧ n ≤ 65536) := by rw [Bool.eq_iff_iff]; simp; omega
    rw [this]; exact k
  · have : false = decide (0 ≤ n ∧ n ≤ 65536) := by rw [Bool.eq_iff_iff]; simp; omega
    rw [this]; exact k
theorem all_c {w : World} {b l c : Nat} (ps : List Addr) (hb : Blk w b (ps.map fun a => Value.pointer (some a))) (hl : ps.length = l) (hs : l < 1000000) {R : Ending → World → Prop} (k : R (.returned (.bool true)) w) :
    Calls Tryd.prog 33 #[.slice (some ⟨b, 0, none⟩) l c] w R := by
  apply berthlaw01_all_nf
  refine ⟨fun i w' => w' = w ∧ ∃ n : Nat, i = n ∧ n ≤ l, fun i _ => l - i.toNat, ⟨rfl, 0, rfl, by omega⟩, ?_⟩
  rintro _ _ _ ⟨rfl, n, rfl, hn⟩
  refine sel_dec (fun hlt => ?_) (fun hge => k)
  have hnl : n < ps.length := by omega
  refine when_dec ⟨by omega, by omega⟩ (ptr_in ⟨some ps[n], ?_, sel_false rfl ?_⟩)
  · rw [Addr.add0, Int.toNat_natCast, Nat.mul_one]; exact hb.cell (by simp [hnl])
  · rw [up64 n (by omega)]
    exact ⟨⟨rfl, n + 1, rfl, by omega⟩, down (by omega)⟩
theorem ints_c {w : World} {A : Option Addr} {l c : Nat} {xs : List Int} (hx : Ints w .i64 A l xs) (hl : l * 8 ≤ 140737488355328) {R : Ending → World → Prop}
    (k : ∀ A' c' w', Ext [] w w' → w'.ownsRow w.heap.size 3 1 (.slice A' l c') l (ints .i64 xs) → R (.returned (.slice A' l c')) w') :
    Calls Tryd.prog 62 #[.slice A l c] w R := by
  apply berthlaw01_ints_nf
  have e0 : Ext [] w (w.alloc (.cells #[] 3)) := (Ext.refl _ _).alloc _
  have own0 : (w.alloc (.cells #[] 3)).ownsRow w.heap.size 3 1 (.slice (some ⟨w.heap.size, 0, none⟩) 0 0) 0 (ints .i64 []) := by
    have hh : (w.alloc (.cells #[] 3)).heap[w.heap.size]? = some (.cells ⟨[]⟩ 3 (0, 0)) := by
      show (w.heap.push _)[w.heap.size]? = _; simp
    exact own_made hh (c := 0) (n := 0) rfl (by omega) (by omega) (Nat.le_refl _)
  have hx0 := hx.ext0 e0
  have hlen := hx.len
  obtain ⟨A', c', w', hr, own', e'⟩ := appN (P := Tryd.prog) (t := 22) (ty := 22) (e := 3) (bytes := 8) (z := .int .i64 0) (by kernel_rfl) (by kernel_rfl) rfl (by omega) own0 (m := l) (cy := c) (Y := A) (ys := ints .i64 xs) (by simp [hlen])
    (by intro j u hj
        have hj' : j < l := by
          have := (List.getElem?_eq_some_iff.1 hj).1
          simpa [hlen] using this
        obtain ⟨ad, ha, hc⟩ := hx0.cells j hj'
        rw [ints_get (by omega)] at hj
        exact ⟨ad, ha, by rw [hc]; exact hj⟩)
    (by intro u hu
        obtain ⟨x, _, rfl⟩ := List.mem_map.1 hu
        rfl) e0.size (by omega)
  refine ⟨_, _, _, _, hr, ?_⟩
  rw [Nat.zero_add] at own' ⊢
  exact k A' c' w' (e0.trans' e' (fun x hx => .inr (by simp [ownF] at hx; omega))) (by simpa [ints] using own')
theorem SameInts_c {w : World} {A B : Option Addr} {l c m d : Nat} {xs ys : List Int} (hx : Ints w .i64 A l xs) (hy : Ints w .i64 B m ys) (hl : l < 4611686018427387904) {R : Ending → World → Prop}
    (k : ∀ w', Ext [] w w' → R (.returned (.bool (decide (xs = ys)))) w') :
    Calls Tryd.prog 84 #[.slice A l c, .slice B m d] w R := by
  apply berthref01_SameInts_nf
  have hxl := hx.len
  have hyl := hy.len
  refine sel_intro (fun hne => ?_) (fun heq => ?_)
  · have : decide (xs = ys) = false := by
      rw [decide_eq_false_iff_not]
      rintro rfl
      rw [← hxl, ← hyl] at hne; simp at hne
    rw [← this]; exact k w (Ext.refl _ _)
  have hlm : l = m := Int.ofNat_inj.1 (bne_eq_false_iff_eq.1 heq)
  subst hlm
  refine ⟨fun i w' => Ext [] w w' ∧ ∃ n : Nat, i = n ∧ n ≤ l ∧ ∀ j, j < n → xs.getD j 0 = ys.getD j 0, fun i _ => l - i.toNat, ⟨Ext.refl _ _, 0, rfl, by omega, by omega⟩, ?_⟩
  rintro _ _ w2 ⟨e2, n, rfl, hn, hall⟩
  refine sel_dec (fun hlt => ?_) (fun hge => ?_)
  · refine when_dec ⟨by omega, by omega⟩ (Ints.at (hx.ext0 e2) (show n < l by omega) fun ad hc => ?_)
    rw [Int.toNat_natCast, Nat.mul_one]
    refine ⟨_, hc, when_dec ⟨by omega, by omega⟩ (Ints.at (hy.ext0 e2) (show n < l by omega) fun ad' hc' => ⟨_, hc', sel_intro (fun hne => ?_) (fun heq => ?_)⟩)⟩
    · have : decide (xs = ys) = false := by
        rw [decide_eq_false_iff_not]
        rintro rfl
        simp at hne
      rw [← this]; exact k _ e2.drew
    · have heq := bne_eq_false_iff_eq.1 heq
      rw [up64 n (by omega)]
      refine ⟨⟨e2.drew, n + 1, rfl, by omega, fun j hj => ?_⟩, down (by omega)⟩
      by_cases hjn : j = n
      · subst hjn; exact heq
      · exact hall j (by omega)
  · have : decide (xs = ys) = true := by
      rw [decide_eq_true_eq]
      apply List.ext_getElem (by omega)
      intro j h1 h2
      have := hall j (by omega)
      simpa [List.getD_eq_getElem?_getD, h1, h2] using this
    rw [← this]; exact k _ e2
/-- The places of a list that lie in the universe. -/
def inside (n : Nat) (xs : List Int) : List Int := xs.filter fun x => decide (0 ≤ x ∧ x < (n : Int))
theorem inside_snoc (n : Nat) (xs : List Int) (x : Int) : inside n (xs ++ [x]) = if 0 ≤ x ∧ x < (n : Int) then inside n xs ++ [x] else inside n xs := by
  unfold inside
  rw [List.filter_append]
  by_cases h : 0 ≤ x ∧ x < (n : Int)
  · simp [h]
  · simp only [List.filter_cons, h, decide_false, Bool.false_eq_true, if_false, List.filter_nil, List.append_nil]
theorem of_c {n : Nat} (hn : n ≤ 65536) {w : World} {A : Option Addr} {l c : Nat} {xs : List Int} (hx : Ints w .i64 A l xs) (hl : l * 8 ≤ 140737488355328) {R : Ending → World → Prop}
    (k : ∀ p bw w' C, Ext [] w w' → w.heap.size ≤ p → w.heap.size ≤ bw → SetAt w' p bw C → C.N = n → (∀ i : Nat, C.mem i = (decide (i < n) && decide ((i : Int) ∈ xs))) → R (.returned (.pointer (some ⟨p, 0, none⟩))) w') :
    Calls Tryd.prog 8 #[.int .i64 (n : Int), .slice A l c] w R := by
  apply berthlaw01_of_nf
  have hlen := hx.len
  refine ⟨fun B lb cb t w' => ∃ m : Nat, t = m ∧ m ≤ l ∧ Ext [] w w' ∧ lb ≤ m ∧ w'.ownsRow w.heap.size 3 1 (.slice B lb cb) lb (ints .i64 (inside n (xs.take m))), fun _ _ _ t _ => l - t.toNat,
    ⟨0, rfl, by omega, Ext.refl _ _, by omega, own_nil _ _ _⟩, ?_⟩
  rintro B lb cb _ _ w2 ⟨m, rfl, hm, e2, hlb, own⟩
  refine sel_dec (fun hlt => ?_) (fun hge => ?_)
  · have hml : m < l := by omega
    have hx2 := hx.ext0 e2
    have htk := getD_take_succ xs m (by omega)
    have step : ∀ B' lb' cb' w', Ext [] w w' → lb' ≤ m + 1 → w'.ownsRow w.heap.size 3 1 (.slice B' lb' cb') lb' (ints .i64 (inside n (xs.take (m + 1)))) →
        (∃ m' : Nat, ((m + 1 : Nat) : Int) = m' ∧ m' ≤ l ∧ Ext [] w w' ∧ lb' ≤ m' ∧ w'.ownsRow w.heap.size 3 1 (.slice B' lb' cb') lb' (ints .i64 (inside n (xs.take m')))) ∧ l - Int.toNat ((m + 1 : Nat) : Int) < l - Int.toNat (m : Int) :=
      fun B' lb' cb' w' e h1 h2 => ⟨⟨m + 1, rfl, by omega, e, h1, h2⟩, down (by omega)⟩
    rw [up64 m (by omega)]
    refine when_dec ⟨by omega, by omega⟩ (Ints.at hx2 hml fun ad hc => ?_)
    rw [Int.toNat_natCast, Nat.mul_one]
    have skip : ¬ (0 ≤ xs.getD m 0 ∧ xs.getD m 0 < (n : Int)) → w2.ownsRow w.heap.size 3 1 (.slice B lb cb) lb (ints .i64 (inside n (xs.take (m + 1)))) := fun h => by
      rw [htk, inside_snoc, if_neg h]; exact own
    refine ⟨_, hc, sel_dec (fun h0 => ?_) (fun h0 => step _ _ _ _ e2 (by omega) (skip fun h => h0 h.1))⟩
    refine when_dec ⟨by omega, by omega⟩ (Ints.at hx2 hml fun ad hc => ⟨_, hc, sel_dec (fun h1 => ?_) (fun h1 => step _ _ _ _ e2 (by omega) (skip fun h => h1 h.2))⟩)
    refine when_dec ⟨by omega, by omega⟩ (Ints.at hx2 hml fun ad hc => ⟨_, hc, ?_⟩)
    obtain ⟨A', c', w', hrun, own', e'⟩ := app1 (P := Tryd.prog) (t := 22) (ty := 22) (e := 3) (bytes := 8) (z := .int .i64 0) (by kernel_rfl) (by kernel_rfl) rfl own (x := .int .i64 (xs.getD m 0)) rfl e2.size (by omega) (by omega)
    refine ⟨_, _, _, _, hrun, step _ _ _ _ (e2.trans' e' fun x hx => .inr ((own_base own x hx).1)) (by omega) ?_⟩
    rw [htk, inside_snoc, if_pos ⟨h0, h1⟩]
    exact own_snoc own'
  · obtain rfl : m = l := by omega
    rw [List.take_of_length_le (by omega)] at own
    have hin := own_ints own
    refine From_c hn hin (by omega) (fun j w' hj hbad _ => ?_) (fun p bw w' C hr e hp hbw hs hN hmem => ⟨_, _, rfl, k p bw w' C (e2.trans e) (Nat.le_trans e2.size hp) (Nat.le_trans e2.size hbw) hs hN fun i => ?_⟩)
    · exfalso
      have hjl : j < (inside n xs).length := by rw [hin.len]; exact hj
      have hmem : (inside n xs).getD j 0 ∈ inside n xs := by
        simp [List.getD_eq_getElem?_getD, hjl]
      have := (List.mem_filter.1 hmem).2
      simp only [decide_eq_true_eq] at this
      omega
    · rw [hmem i, ← Bool.decide_and]
      apply decide_eq_decide.2
      unfold inside
      rw [List.mem_filter]
      simp only [decide_eq_true_eq]
      exact ⟨fun h => ⟨by omega, h.1⟩, fun h => ⟨h.2, by omega⟩⟩
theorem awake_c {w : World} {R : Ending → World → Prop} (k : ∀ w', Ext [] w w' → R (.returned (.bool true)) w') : Calls Tryd.prog 6 #[] w R := by
  apply berthlaw01_awake_nf
  have e0 : Ext [] w (w.alloc (.cells #[.int .i64 2, .int .i64 0] 3)) := (Ext.refl _ _).alloc _
  have hx : Ints (w.alloc (.cells #[.int .i64 2, .int .i64 0] 3)) .i64 (some ⟨w.heap.size, 0, none⟩) 2 [2, 0] :=
    Ints.of_blk (xs := [2, 0]) (Blk.new w _ _) (fun j hj => by
      have : j < 2 := hj
      rcases (show j = 0 ∨ j = 1 by omega) with rfl | rfl <;> rfl)
  refine From_c (n := 3) (by omega) hx (by omega) (fun j w' hj hbad _ => ?_) (fun p bw w1 C _ e1 hp hbw hs hN hmem => ⟨_, _, rfl, sel_false rfl (num_c _ ⟨_, rfl, sel_false rfl ?_⟩)⟩)
  · exfalso
    rcases (show j = 0 ∨ j = 1 by omega) with rfl | rfl <;> simp at hbad
  have hmi : C.mi = [0, 2] := by
    unfold SetV.mi SetV.members
    rw [hN]
    have h0 : C.mem 0 = true := by rw [hmem]; simp
    have h1 : C.mem 1 = false := by rw [hmem]; simp
    have h2 : C.mem 2 = true := by rw [hmem]; simp
    simp [List.range_succ, h0, h1, h2]
  have hcount : C.count = 2 := by rw [← mi_length, hmi]; rfl
  refine Members_c hs.ref fun A c w2 e2 own => ⟨_, _, _, rfl, ?_⟩
  rw [hcount] at own ⊢
  have hr := own_ints own
  rw [hmi] at hr
  have e3 : Ext [] w w2 := (e0.trans e1).trans e2
  refine sel_true rfl (when_dec ⟨by omega, by omega⟩ (Ints.at hr (j := 0) (by omega) fun ad hc => ⟨_, hc, sel_true rfl (when_dec ⟨by omega, by omega⟩ (Ints.at hr (j := 1) (by omega) fun ad hc => ⟨_, hc, ?_⟩))⟩))
  exact k w2 e3
end Go.Proofs.YtbaglnffgbnekaaDoor
