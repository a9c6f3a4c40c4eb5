/- Ordered: how many slots the rows of a column have, together. -/
import Derived.Test.YtjlkdadafddodaaGreatDoorO13
set_option linter.unusedVariables false
set_option linter.unusedSimpArgs false
namespace Go.Proofs.YtjlkdadafddodaaGreatDoor
open Go Go.V Go.B

def total (rows : List Rw) : Nat := (rows.map fun r => r.S.count).sum
theorem total_snoc (rows : List Rw) (r : Rw) : total (rows ++ [r]) = total rows + r.S.count := by simp [total]
theorem total_app (a b : List Rw) : total (a ++ b) = total a + total b := by simp [total]
def Apart (rows : List Rw) : Prop := rows.Pairwise fun r s => ∀ i, ¬ (r.S.mem i = true ∧ s.S.mem i = true)
theorem one_of : ∀ {rows : List Rw}, Apart rows → ∀ k, (rows.map fun r => if r.S.mem k then 1 else 0).sum = if rows.any (fun r => r.S.mem k) then 1 else 0
  | [], _, k => rfl
  | r :: rows, h, k => by
    obtain ⟨h1, h2⟩ := List.pairwise_cons.1 h
    have ih := one_of h2 k
    simp only [List.map_cons, List.sum_cons, List.any_cons, ih]
    by_cases hr : r.S.mem k = true
    · have : rows.any (fun r => r.S.mem k) = false := by
        rw [← Bool.not_eq_true, List.any_eq_true]
        rintro ⟨s, hs, hm⟩
        exact h1 s hs k ⟨hr, hm⟩
      simp [this, hr]
    · simp [hr]
theorem sum_add : ∀ (rows : List Rw) (f g : Rw → Nat), (rows.map fun r => f r + g r).sum = (rows.map f).sum + (rows.map g).sum
  | [], _, _ => rfl
  | r :: rows, f, g => by
    simp only [List.map_cons, List.sum_cons, sum_add rows f g]; omega
theorem rank_sum {rows : List Rw} (h : Apart rows) : ∀ k, (rows.map fun r => r.S.rank k).sum = (List.range k).countP fun i => rows.any fun r => r.S.mem i
  | 0 => by
    have : ∀ (l : List Rw), (l.map fun r => r.S.rank 0).sum = 0 := fun l => by
      induction l with
      | nil => rfl
      | cons a l ih => simp only [List.map_cons, List.sum_cons, ih]; rfl
    exact this rows
  | k + 1 => by
    have e : (rows.map fun r => r.S.rank (k + 1)) = rows.map fun r => r.S.rank k + (if r.S.mem k then 1 else 0) := by
      apply List.map_congr_left
      intro r _
      exact rank_succ r.S k
    rw [e, sum_add, rank_sum h k, one_of h k, List.range_succ, List.countP_append]
    simp [List.countP_cons]
theorem ClOk.apart {N : Nat} {C : Cl} (h : ClOk N C) : Apart C.rows := by
  refine h.rise.imp_of_mem fun {r s} hr hs hlt i => ?_
  rintro ⟨h1, h2⟩
  have g1 := (h.tell i r.n).2 ⟨r, hr, rfl, h1⟩
  have g2 := (h.tell i s.n).2 ⟨s, hs, rfl, h2⟩
  rw [g1] at g2
  have := Option.some.inj g2
  omega
/-- All rows' slots are the column's. -/
theorem total_count {N : Nat} {C : Cl} (h : ClOk N C) {S : SetV} (hN : S.N = N) (hm : ∀ i, S.mem i = true ↔ ∃ n, mget C.of (i : Int) = some n) : total C.rows = S.count := by
  have e : total C.rows = (C.rows.map fun r => r.S.rank N).sum := by
    unfold total
    congr 1
    apply List.map_congr_left
    intro r hr
    unfold SetV.count
    rw [h.size r hr]
  rw [e, rank_sum h.apart]
  unfold SetV.count SetV.rank
  rw [hN]
  refine List.countP_congr fun i _ => ?_
  rw [hm i, List.any_eq_true]
  constructor
  · rintro ⟨r, hr, h1⟩
    exact ⟨r.n, (h.tell i r.n).2 ⟨r, hr, rfl, h1⟩⟩
  · rintro ⟨n, hn⟩
    obtain ⟨r, hr, _, h1⟩ := (h.tell i n).1 hn
    exact ⟨r, hr, h1⟩
theorem total_tell {a b : List Rw} (h : a.map Rw.tell = b.map Rw.tell) : total a = total b := by
  have e : ∀ l : List Rw, total l = ((l.map Rw.tell).map fun p => p.2.count).sum := fun l => by
    unfold total
    rw [List.map_map]; rfl
  rw [e, e, h]
theorem full_pos {S : SetV} (h : S.Ok) {i : Nat} (hi : S.mem i = true) : 0 < S.count := by
  rcases Nat.eq_zero_or_pos S.count with h0 | h0
  · have := (count_zero h).1 h0 i
    rw [hi] at this; cases this
  · exact h0
end Go.Proofs.YtjlkdadafddodaaGreatDoor
