/- Labels: what Make takes; lengths of the pieces; no program. -/
import Derived.Test.YtcohengppaighaaGreatDoorLp6
set_option linter.unusedVariables false
set_option linter.unusedSimpArgs false
namespace Go.B

theorem makeGo_none : ∀ {l : List Lab} {seen : List ByteArray}, makeGo seen l = none → (∀ x ∈ l, keyS (bs x.1) = true) ∧ (∀ x ∈ l, valS (bs x.2) = true) ∧ (keys l).Nodup ∧ ∀ q ∈ seen, q ∉ keys l
  | [], seen, _ => ⟨by simp, by simp, by simp [keys], by simp [keys]⟩
  | x :: r, seen, h => by
    rw [makeGo] at h
    cases hk : keyS (bs x.1)
    · rw [hk, if_pos rfl] at h; cases h
    rw [hk, if_neg (by simp)] at h
    cases hv : valS (bs x.2)
    · rw [hv, if_pos rfl] at h; cases h
    rw [hv, if_neg (by simp)] at h
    by_cases hs : (seen.any fun q => decide (q = x.1)) = true
    · rw [if_pos hs] at h; cases h
    rw [if_neg hs] at h
    obtain ⟨a, b, c, d⟩ := makeGo_none h
    have hx : x.1 ∉ seen := fun hm => hs (List.any_eq_true.2 ⟨x.1, hm, by simp⟩)
    refine ⟨fun y hy => ?_, fun y hy => ?_, ?_, fun q hq hm => ?_⟩
    · rcases List.mem_cons.1 hy with rfl | hy
      · exact hk
      · exact a y hy
    · rcases List.mem_cons.1 hy with rfl | hy
      · exact hv
      · exact b y hy
    · unfold keys at c ⊢
      rw [List.map_cons, List.nodup_cons]
      exact ⟨d x.1 (by simp), c⟩
    · unfold keys at hm
      rw [List.map_cons, List.mem_cons] at hm
      rcases hm with rfl | hm
      · exact hx hq
      · exact d q (by simp [hq]) hm
theorem makeGo_some : ∀ {l : List Lab} {seen : List ByteArray} {k : ByteArray} {e : Int}, makeGo seen l = some (k, e) → e ≠ 0
  | [], seen, k, e, h => by cases h
  | x :: r, seen, k, e, h => by
    rw [makeGo] at h
    split at h
    · cases h; decide
    split at h
    · cases h; decide
    split at h
    · cases h; decide
    · exact makeGo_some h
theorem make_ok {l : List Lab} (h : (makeS l).2.2 = 0) : l.length ≤ 32 ∧ (keys l).Nodup ∧ makeS l = (sortS l, ByteArray.empty, 0) ∧ OkL (sortS l) := by
  unfold makeS at h ⊢
  by_cases h0 : 32 < l.length
  · rw [if_pos h0] at h; exact absurd h (by decide)
  rw [if_neg h0] at h ⊢
  cases hg : makeGo [] l with
  | none =>
    obtain ⟨a, b, c, _⟩ := makeGo_none hg
    exact ⟨by omega, c, rfl, okL_sort (by omega) a b c⟩
  | some p =>
    obtain ⟨k, e⟩ := p
    rw [hg] at h
    exact absurd h (makeGo_some hg)
theorem make_bad {l : List Lab} (h : (makeS l).2.2 ≠ 0) : (makeS l).1 = [] ∧ ((makeS l).2.1 = ByteArray.empty ∨ l.length ≤ 32) := by
  unfold makeS at h ⊢
  by_cases h0 : 32 < l.length
  · rw [if_pos h0]; exact ⟨rfl, .inl rfl⟩
  rw [if_neg h0] at h ⊢
  cases hg : makeGo [] l with
  | none => rw [hg] at h; exact absurd rfl h
  | some p => exact ⟨rfl, .inr (by omega)⟩
/-- Make of what rises is the same. -/
theorem make_ris {l : List Lab} (hl : l.length ≤ 32) (hk : ∀ x ∈ l, keyS (bs x.1) = true) (hv : ∀ x ∈ l, valS (bs x.2) = true) (hn : (keys l).Nodup) : makeS l = (sortS l, ByteArray.empty, 0) := by
  have hg : ∀ (r : List Lab) (seen : List ByteArray), (∀ x ∈ r, keyS (bs x.1) = true) → (∀ x ∈ r, valS (bs x.2) = true) → (keys r).Nodup → (∀ q ∈ seen, q ∉ keys r) → makeGo seen r = none := by
    intro r
    induction r with
    | nil => intros; rfl
    | cons x r ih =>
      intro seen a b c d
      have hx : ¬ (seen.any fun q => decide (q = x.1)) = true := fun h => by
        obtain ⟨q, hq, e⟩ := List.any_eq_true.1 h
        rw [decide_eq_true_eq] at e
        exact d q hq (by rw [e]; simp [keys])
      unfold keys at c
      rw [List.map_cons, List.nodup_cons] at c
      rw [makeGo, if_neg (by simp [a x (by simp)]), if_neg (by simp [b x (by simp)]), if_neg hx]
      refine ih _ (fun y hy => a y (by simp [hy])) (fun y hy => b y (by simp [hy])) c.2 fun q hq hm => ?_
      rcases List.mem_cons.1 hq with rfl | hq
      · exact c.1 hm
      · exact d q hq (by unfold keys at hm ⊢; rw [List.map_cons]; exact List.mem_cons_of_mem _ hm)
  unfold makeS
  rw [if_neg (by omega), hg l [] hk hv hn (by simp)]
theorem sum_cut (c : UInt8) : ∀ (n : Nat) (l : List UInt8), l.length ≤ n → ((cutS c l).map fun x => x.length + 1).sum = l.length + 1 := by
  intro n
  induction n with
  | zero =>
    intro l h
    obtain rfl := List.length_eq_zero_iff.1 (Nat.le_zero.1 h)
    rfl
  | succ n ih =>
    intro l h
    rcases cut_cases c l with h1 | ⟨a, b, rfl, h1⟩
    · rw [cutS_not h1]; simp
    · rw [cutS_app h1, List.map_cons, List.sum_cons, ih b (by simp at h; omega)]; simp; omega
theorem sum_take_le (l : List Nat) {a : Nat} {x : Nat} (h : l[a]? = some x) : (l.take a).sum + x ≤ l.sum := by
  obtain ⟨h1, h2⟩ := List.getElem?_eq_some_iff.1 h
  conv => rhs; rw [← List.take_append_drop a l]
  rw [List.sum_append, List.drop_eq_getElem_cons h1, List.sum_cons, h2]
  omega
theorem item_cut1 {s x y : ByteArray} (h : bs s = bs x ++ 61 :: bs y) (hx : (61 : UInt8) ∉ bs x) : itemS (bs s) = (x, y, true) := by
  unfold itemS
  rw [h, cut1_app hx]; rfl
theorem item_not {s : ByteArray} (h : (61 : UInt8) ∉ bs s) : itemS (bs s) = (s, ByteArray.empty, false) := by
  unfold itemS
  rw [cut1_not h]; rfl
theorem join_snoc : ∀ {l : List Lab} (x : Lab), l ≠ [] → joinT (l ++ [x]) = joinT l ++ 44 :: itemT x
  | [], x, h => absurd rfl h
  | [y], x, _ => rfl
  | y :: z :: r, x, _ => by
    have := join_snoc (l := z :: r) x (by simp)
    simp only [List.cons_append] at this ⊢
    rw [joinT, this, joinT]; simp
theorem join_le {l : List Lab} (a : Nat) : (joinT (l.take a)).length ≤ (joinT l).length := by
  by_cases h0 : l.take a = []
  · rw [h0]; simp [joinT]
  · by_cases h1 : l.drop a = []
    · have : l.take a = l := by
        have := List.take_append_drop a l
        rw [h1, List.append_nil] at this
        exact this
      rw [this]; omega
    · have e1 := join_len h0
      have hl : l ≠ [] := fun e => h0 (by rw [e]; exact List.take_nil)
      have e2 := join_len hl
      have : sumT l = sumT (l.take a) + sumT (l.drop a) := by
        unfold sumT
        conv => lhs; rw [← List.take_append_drop a l]
        rw [List.map_append, List.sum_append]
      omega
end Go.B
