/- Rows of the call's own: append, copy; generic, no program. -/
import Derived.Test.YtoaeefjcjdhlkaaGreatB
import Derived.Maps.AppendAt
import Derived.Laws.CopyRow
import Derived.Laws.IdiomCopy
set_option linter.unusedVariables false
set_option linter.unusedSimpArgs false
namespace Go.B
open Go.V Go.RowKit

def ownF : Option Addr → List Nat
  | some a => [a.block]
  | none => []
theorem Ext.of_grown {w w' : World} {A : Option Addr} {n c : Nat} (h : w.grownBy w' (Value.ownBlock (.slice A n c))) : Ext (ownF A) w w' :=
  ⟨h.os, h.tape, h.output, h.size, fun b hb hF => h.block b hb (by
    cases A with
    | none => simp [Value.ownBlock]
    | some a => simp [Value.ownBlock, ownF] at hF ⊢; exact hF)⟩
theorem own_ext {F : List Nat} {w w' : World} {B : Nat} {e : TypeId} {size n m c : Nat} {A : Option Addr} {xs : List Value} (h : w.ownsRow B e size (.slice A n c) m xs) (k : Ext F w w') (hF : ∀ b ∈ ownF A, b ∉ F) : w'.ownsRow B e size (.slice A n c) m xs := by
  refine ⟨h.1, ?_⟩
  rcases h.2 with h2 | ⟨g, cap, cur, hv, hb, hh, rest⟩
  · exact .inl h2
  · refine .inr ⟨g, cap, cur, hv, hb, ?_, rest⟩
    injection hv with hA _ _
    subst hA
    rw [k.same g (Array.getElem?_eq_some_iff.1 hh).1 (hF g (by simp [ownF]))]
    exact hh
theorem own_base {w : World} {B : Nat} {e : TypeId} {size n m c : Nat} {A : Option Addr} {xs : List Value} (h : w.ownsRow B e size (.slice A n c) m xs) : ∀ b ∈ ownF A, B ≤ b ∧ b < w.heap.size := by
  rcases h.2 with ⟨hv, _⟩ | ⟨g, cap, cur, hv, hb, hh, rest⟩
  · injection hv with hA _ _; subst hA; simp [ownF]
  · injection hv with hA _ _; subst hA
    intro b hb'
    simp [ownF] at hb'; subst hb'
    exact ⟨hb, (Array.getElem?_eq_some_iff.1 hh).1⟩
theorem own_len {w : World} {B : Nat} {e : TypeId} {size n m c : Nat} {A : Option Addr} {xs : List Value} (h : w.ownsRow B e size (.slice A n c) m xs) : n = m := by
  rcases h.2 with ⟨hv, h0⟩ | ⟨g, cap, cur, hv, _⟩
  · injection hv with _ hn _; omega
  · injection hv with _ hn _
/-- append(s, x), x one cell; s a row of the call's own. -/
theorem app1 {P : Program} {t ty e : TypeId} {z : Value} {bytes : Nat} (ht : P.underlying t = some (.slice e)) (hi : (P.info? e).map (fun i => (i.zero, i.size, i.bytes)) = some (some z, 1, bytes)) (hz : z.cells.size = 1)
    {w : World} {B n c : Nat} {A : Option Addr} {xs : List Value} {x : Value} (own : w.ownsRow B e 1 (.slice A n c) n xs) (hx : x.oneCell' = true) (hB : B ≤ w.heap.size) (hl : (n + 1) * bytes ≤ 140737488355328) (hl2 : n + 1 ≤ 140737488355328) :
    ∃ A' c' w', (Builtin.append_ #[t, t] ty #[.slice A n c, .slice (some ⟨w.heap.size, 0, none⟩) 1 1]).run P (w.alloc (.cells #[x] e)) = .ok (.slice A' (n + 1) c') w' ∧ w'.ownsRow B e 1 (.slice A' (n + 1) c') (n + 1) (xs ++ [x]) ∧ Ext (ownF A) w w' := by
  obtain ⟨i, hi1, hz0, hz1, hz2⟩ := info_parts hi
  have hown : (w.alloc (.cells #[x] e)).ownsRow B e 1 (.slice A n c) n xs := own_ext own ((Ext.refl [] w).alloc _) (by simp)
  obtain ⟨v', w', hr, ho, hg, hn, hat⟩ := run_append_own_at (P := P) (w := w.alloc (.cells #[x] e)) B t ty e i z 1 bytes ht hi1 hz0 hz1 hz2 hz (by omega) (.slice A n c) n xs hown ⟨w.heap.size, 0, none⟩ 1 1 [x] (by simp)
    (by intro j u hj; cases j with
        | zero => simp at hj; subst hj; rw [Addr.add_zero']; exact World.cell?_alloc_new _ _ _ 0
        | succ j => simp at hj) (by simpa using hx) (by simp only [maxLen]; omega) hl (by rw [World.size_alloc]; omega)
  obtain ⟨A', c', rfl⟩ : ∃ A' c', v' = .slice A' (n + 1) c' := by
    rcases ho.2 with ⟨rfl, h0⟩ | ⟨g, cap, cur, rfl, _⟩
    · omega
    · exact ⟨_, _, rfl⟩
  refine ⟨A', c', w', hr, ho, ((Ext.refl (ownF A) w).alloc _).trans (Ext.of_grown hg)⟩
/-- append(s, ys...): s a row of the call's own, ys cells that are read. -/
theorem appN {P : Program} {t ty e : TypeId} {z : Value} {bytes : Nat} (ht : P.underlying t = some (.slice e)) (hi : (P.info? e).map (fun i => (i.zero, i.size, i.bytes)) = some (some z, 1, bytes)) (hz : z.cells.size = 1) (hb0 : 0 < bytes)
    {w : World} {B n c m cy : Nat} {A Y : Option Addr} {xs ys : List Value} (own : w.ownsRow B e 1 (.slice A n c) n xs) (hy : ys.length = m) (hys : ∀ j u, ys[j]? = some u → ∃ ad : Addr, Y = some ad ∧ w.cell? (ad.add j) = some u) (h1 : ∀ u ∈ ys, u.oneCell' = true)
    (hB : B ≤ w.heap.size) (hl : (n + m) * bytes ≤ 140737488355328) :
    ∃ A' c' w', (Builtin.append_ #[t, t] ty #[.slice A n c, .slice Y m cy]).run P w = .ok (.slice A' (n + m) c') w' ∧ w'.ownsRow B e 1 (.slice A' (n + m) c') (n + m) (xs ++ ys) ∧ Ext (ownF A) w w' := by
  obtain ⟨i, hi1, hz0, hz1, hz2⟩ := info_parts hi
  have hnm : n + m ≤ 140737488355328 := Nat.le_trans (Nat.le_mul_of_pos_right _ hb0) hl
  cases Y with
  | none =>
    have h0 : ys = [] := by
      cases ys with
      | nil => rfl
      | cons y ys => obtain ⟨ad, h, _⟩ := hys 0 y (by simp); cases h
    subst h0
    simp at hy; subst hy
    have hnc : n ≤ c := by
      rcases own.2 with ⟨hv, h0⟩ | ⟨g, cap, cur, hv, _, _, hnc, _⟩
      · injection hv with _ hn hc; omega
      · injection hv with _ hn hc; omega
    refine ⟨A, c, w, ?_, by simpa using own, Ext.refl _ _⟩
    have hu : (underlying t).run P w = .ok (.slice e) w := run_underlying' ht w
    cases A with
    | none => simp [Builtin.append_, run_underlying ht, sizeOf, typeInfo, hi1, Builtin.lenOf, Builtin.firstCells, hnc]
    | some a => simp [Builtin.append_, run_underlying ht, sizeOf, typeInfo, hi1, Builtin.lenOf, Builtin.firstCells, hnc, storeCells]
  | some ad =>
    obtain ⟨v', w', hr, ho, hg, hn, hat⟩ := run_append_own_at (P := P) (w := w) B t ty e i z 1 bytes ht hi1 hz0 hz1 hz2 hz (by omega) (.slice A n c) n xs own ad m cy ys (by omega)
      (by intro j u hj; obtain ⟨ad', h, hc⟩ := hys j u hj; cases h; exact hc) h1 (by simp only [maxLen]; omega) hl hB
    obtain ⟨A', c', rfl⟩ : ∃ A' c', v' = .slice A' (n + m) c' := by
      rcases ho.2 with ⟨rfl, h0⟩ | ⟨g, cap, cur, rfl, _⟩
      · exact ⟨none, 0, by simp [h0]⟩
      · exact ⟨_, _, rfl⟩
    exact ⟨A', c', w', hr, ho, Ext.of_grown hg⟩
theorem own_nil (w : World) (B : Nat) (e : TypeId) : w.ownsRow B e 1 (.slice none 0 0) 0 [] := ⟨by simp, .inl ⟨rfl, rfl⟩⟩
/-- A block that was just made with room for c, of which n cells count. -/
theorem own_made {w : World} {b B n c : Nat} {e : TypeId} {cs : List Value} (h : w.heap[b]? = some (.cells ⟨cs⟩ e (0, 0))) (hc : cs.length = c) (hn : n ≤ c) (hm : c ≤ 9223372036854775807) (hB : B ≤ b) : w.ownsRow B e 1 (.slice (some ⟨b, 0, none⟩) n c) n (cs.take n) :=
  ⟨by simp; omega, .inr ⟨b, c, ⟨cs⟩, rfl, hB, h, hn, by simpa [maxLen] using hm, by simp [hc], by simp⟩⟩
/-- What is owned can be read. -/
theorem own_ints {w : World} {B n c : Nat} {e : TypeId} {k : IntKind} {A : Option Addr} {xs : List Int} (h : w.ownsRow B e 1 (.slice A n c) n (ints k xs)) : Ints w k A n xs := by
  have hl : xs.length = n := by have := h.1; simpa using this
  refine ⟨hl, fun j hj => ?_⟩
  rcases h.2 with ⟨_, h0⟩ | ⟨g, cap, cur, hv, _, hh, _, _, _, ht⟩
  · omega
  · injection hv with hA _ _
    subst hA
    refine ⟨_, rfl, ?_⟩
    rw [Addr.add0]
    have e1 : (cur.toList.take (n * 1))[j]? = some (.int k (xs.getD j 0)) := by rw [ht]; exact ints_get (by omega)
    have e2 : cur[j]? = some (.int k (xs.getD j 0)) := by
      rw [List.getElem?_take] at e1
      split at e1
      · simpa using e1
      · cases e1
    simp [World.cell?, hh, e2]
theorem own_snoc {w : World} {B n c : Nat} {e : TypeId} {k : IntKind} {A : Option Addr} {xs : List Int} {x : Int} (h : w.ownsRow B e 1 (.slice A n c) n (ints k xs ++ [.int k x])) : w.ownsRow B e 1 (.slice A n c) n (ints k (xs ++ [x])) := by
  simpa [ints] using h
/-- copy(dst, src) of one-cell elements; dst the whole of a block. -/
theorem copyRow {P : Program} {dT sT ty e : TypeId} (hu : P.underlying dT = some (.slice e)) (hs : (P.info? e).map (·.size) = some 1) {w : World} {b nd cd ns cap : Nat} {Y : Option Addr} {cs ys : List Value}
    {T : TypeId} (hb : BlkT w b cs T) (hcs : nd ≤ cs.length) (hy : ys.length = ns) (hys : ∀ j u, ys[j]? = some u → ∃ ad : Addr, Y = some ad ∧ w.cell? (ad.add j) = some u) (h1 : ∀ u ∈ ys, u.oneCell' = true) :
    ∃ w', (Builtin.copy_ #[dT, sT] ty #[.slice (some ⟨b, 0, none⟩) nd cd, .slice Y ns cap]).run P w = .ok (.int .i64 ((min ns nd : Nat) : Int)) w' ∧ BlkT w' b (ys.take nd ++ cs.drop (min ns nd)) T ∧ Ext [b] w w' := by
  rcases Nat.eq_zero_or_pos (min ns nd) with h0 | h0
  · refine ⟨w, ?_, ?_, Ext.refl _ _⟩
    · rw [h0]; exact run_copy_none w dT sT ty e _ _ _ _ _ _ hu hs h0
    · have : ys.take nd = [] := by
        apply List.eq_nil_of_length_eq_zero
        simp [hy]; omega
      rw [this, h0]; simpa using hb
  · have hh := hb
    unfold BlkT at hh
    obtain ⟨ad, rfl⟩ : ∃ ad, Y = some ad := by
      cases ys with
      | nil => simp at hy; omega
      | cons y ys => obtain ⟨ad, h, _⟩ := hys 0 y (by simp); exact ⟨ad, h⟩
    have hlen : (ys.take nd).length = Nat.min ns nd := by simp [hy, Nat.min_comm]
    have hr := run_copy_row (P := P) w dT sT ty e b 0 nd cd ad ns cap ⟨cs⟩ T (ys.take nd) hu hs hh hlen
      (by intro j v hj
          have : ys[j]? = some v := by rw [List.getElem?_take] at hj; split at hj <;> simp_all
          obtain ⟨ad', h, hc⟩ := hys j v this; cases h; exact hc)
      (by rw [hlen]; simp only [Nat.zero_add]; show min ns nd ≤ cs.length; omega)
      (fun v hv => h1 v (List.mem_of_mem_take hv))
    have e1 : (ys.take nd).length = min ns nd := hlen
    rw [e1] at hr
    refine ⟨_, hr, ?_, ?_⟩
    · unfold BlkT; simp [World.setRow, Array.getElem?_modify, hh]
    · refine ⟨rfl, rfl, rfl, ?_, fun x hx hF => ?_⟩
      · simp [World.setRow]
      · have : b ≠ x := fun e => hF (by simp [e])
        simp [World.setRow, Array.getElem?_modify, this]
end Go.B
