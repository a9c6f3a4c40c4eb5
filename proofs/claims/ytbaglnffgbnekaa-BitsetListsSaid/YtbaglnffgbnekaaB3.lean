/- Rows that are written and made longer, side by side; generic, no program. -/
import Derived.Test.YtbaglnffgbnekaaB2
import Derived.ArgAppend
set_option linter.unusedVariables false
set_option linter.unusedSimpArgs false
namespace Go.B
open Go.V Go.RowKit

/-- A row of the call's own. -/
def Own (w : World) (e : TypeId) (k : IntKind) (A : Option Addr) (n c : Nat) (xs : List Int) : Prop := w.ownsRow 0 e 1 (.slice A n c) n (ints k xs)
theorem Own.of {w : World} {B : Nat} {e : TypeId} {k : IntKind} {A : Option Addr} {n c : Nat} {xs : List Int} (h : w.ownsRow B e 1 (.slice A n c) n (ints k xs)) : Own w e k A n c xs := by
  refine ⟨h.1, ?_⟩
  rcases h.2 with h2 | ⟨g, cap, cur, hv, hb, rest⟩
  · exact .inl h2
  · exact .inr ⟨g, cap, cur, hv, Nat.zero_le _, rest⟩
theorem Own.read {w : World} {e : TypeId} {k : IntKind} {A : Option Addr} {n c : Nat} {xs : List Int} (h : Own w e k A n c xs) : Ints w k A n xs := own_ints h
theorem Own.len {w : World} {e : TypeId} {k : IntKind} {A : Option Addr} {n c : Nat} {xs : List Int} (h : Own w e k A n c xs) : xs.length = n := (own_ints h).len
theorem Own.ext {F : List Nat} {w w' : World} {e : TypeId} {k : IntKind} {A : Option Addr} {n c : Nat} {xs : List Int} (h : Own w e k A n c xs) (x : Ext F w w') (hF : ∀ b ∈ ownF A, b ∉ F) : Own w' e k A n c xs := own_ext h x hF
theorem Own.lt {w : World} {e : TypeId} {k : IntKind} {A : Option Addr} {n c : Nat} {xs : List Int} (h : Own w e k A n c xs) : ∀ b ∈ ownF A, b < w.heap.size := fun b hb => (own_base h b hb).2
/-- A row made of a block. -/
theorem Own.mk {w : World} {e : TypeId} {k : IntKind} {b n : Nat} {xs : List Int} (h : BlkT w b (ints k xs) e) (hn : xs.length = n) (hm : n ≤ 9223372036854775807) : Own w e k (some ⟨b, 0, none⟩) n n xs := by
  have := own_made (w := w) (b := b) (B := 0) (n := n) (c := n) h (by simp [hn]) (Nat.le_refl _) hm (Nat.zero_le _)
  rw [List.take_of_length_le (by simp [hn])] at this
  exact this
theorem Own.set {w : World} {e : TypeId} {k : IntKind} {A : Option Addr} {n c : Nat} {xs : List Int} (h : Own w e k A n c xs) {j : Nat} (hj : j < n) (v : Int) :
    ∃ g, A = some ⟨g, 0, none⟩ ∧ (∃ u, w.cell? ⟨g, j, none⟩ = some u) ∧ w.frozen? ⟨g, j, none⟩ = false ∧ Own (w.setCell ⟨g, j, none⟩ (.int k v)) e k A n c (xs.set j v) := by
  have hl := h.len
  rcases h.2 with ⟨_, h0⟩ | ⟨g, cap, cur, hv, hb, hh, hcap, hm, hsz, ht⟩
  · omega
  · injection hv with hA hn hc
    subst hA hc
    have hblk : BlkT w g cur.toList e := hh
    have hs2 := hblk.set j (.int k v)
    have hcl : cur.toList.length = c := by simpa using hsz
    refine ⟨g, rfl, ?_, hblk.frozen _, ?_, .inr ⟨g, c, ⟨cur.toList.set j (.int k v)⟩, rfl, hb, hs2, hcap, hm, by simp [hcl], ?_⟩⟩
    · exact ⟨_, hblk.cell (List.getElem?_eq_getElem (by omega))⟩
    · simp [hl]
    · show (cur.toList.set j (.int k v)).take (n * 1) = _
      rw [← ints_set, ← ht, List.take_set]
/-- One element more: in place, or in a new block with the old one left as it was. -/
theorem Own.step {P : Program} {t ty e : TypeId} {k : IntKind} {bytes : Nat} (ht : P.underlying t = some (.slice e)) (hi : (P.info? e).map (fun i => (i.zero, i.size, i.bytes)) = some (some (.int k 0), 1, bytes))
    {w : World} {A : Option Addr} {n c : Nat} {xs : List Int} (h : Own w e k A n c xs) (x : Int) (hl : (n + 1) * bytes ≤ 140737488355328) (hl2 : n + 1 ≤ 140737488355328) :
    ∃ A' c' w', (Builtin.append_ #[t, t] ty #[.slice A n c, .slice (some ⟨w.heap.size, 0, none⟩) 1 1]).run P (w.alloc (.cells #[.int k x] e)) = .ok (.slice A' (n + 1) c') w' ∧ Own w' e k A' (n + 1) c' (xs ++ [x]) ∧
      ((A' = A ∧ Ext (ownF A) w w') ∨ ((∀ b ∈ ownF A', w.heap.size ≤ b) ∧ Ext [] w w')) := by
  have fresh : ∀ (A' : Option Addr) (c' : Nat) (w' : World), w'.ownsRow (w.alloc (.cells #[.int k x] e)).heap.size e 1 (.slice A' (n + 1) c') (n + 1) (ints k xs ++ [.int k x]) → ∀ b ∈ ownF A', w.heap.size ≤ b := fun A' c' w' ho b hb => by
    have := (own_base ho b hb).1
    rw [World.size_alloc] at this; omega
  obtain ⟨A', c', w', hr, ho, he⟩ := app1 (P := P) (t := t) (ty := ty) (e := e) (bytes := bytes) (z := .int k 0) ht hi rfl h (x := .int k x) rfl (Nat.zero_le _) hl hl2
  have ho' : Own w' e k A' (n + 1) c' (xs ++ [x]) := own_snoc ho
  rcases h.2 with ⟨hv, h0⟩ | ⟨g, cap, cur, hv, hb, hh, hcap, hm, hsz, htk⟩
  · injection hv with hA hn hc
    subst hA hc
    subst h0
    have hb0 : w.ownsRow w.heap.size e 1 (.slice none 0 0) 0 (ints k xs) := ⟨h.1, .inl ⟨rfl, rfl⟩⟩
    obtain ⟨A2, c2, w2, hr2, ho2, he2⟩ := app1 (P := P) (t := t) (ty := ty) (e := e) (bytes := bytes) (z := .int k 0) ht hi rfl hb0 (x := .int k x) rfl (Nat.le_refl _) hl hl2
    refine ⟨A2, c2, w2, hr2, Own.of (own_snoc ho2), .inr ⟨fun b hb => (own_base ho2 b hb).1, he2⟩⟩
  · injection hv with hA hn hc
    subst hA hc
    obtain ⟨i, hi1, hz0, hz1, hz2⟩ := info_parts hi
    have hg : g < w.heap.size := (Array.getElem?_eq_some_iff.1 hh).1
    have hblk : BlkT (w.alloc (.cells #[.int k x] e)) g cur.toList e := (show BlkT w g cur.toList e from hh).alloc _
    have hcl : cur.toList.length = c := by simpa using hsz
    have hnews : ∀ j u, [Value.int k x][j]? = some u → (w.alloc (.cells #[.int k x] e)).cell? ((⟨w.heap.size, 0, none⟩ : Addr).add j) = some u := by
      intro j u hj
      cases j with
      | zero => simp at hj; subst hj; rw [Addr.add_zero']; exact World.cell?_alloc_new _ _ _ 0
      | succ j => simp at hj
    by_cases hfit : n + 1 ≤ c
    · have hr2 := run_append_room_cells (P := P) (w.alloc (.cells #[.int k x] e)) t ty e i ht hi1 g 0 n c ⟨w.heap.size, 0, none⟩ 1 1 [.int k x] (by simp [hz1]) hnews (by simp [Value.oneCell']) hfit
        (by intro j hj
            simp only [List.length_singleton] at hj
            have : j = 0 := by omega
            subst this
            rw [hz1]
            have := hblk.cell (i := n) (List.getElem?_eq_getElem (by omega))
            simp only [Nat.zero_add, Nat.mul_one, Nat.add_zero]
            rw [this]; rfl)
        (by intro j hj
            exact hblk.frozen _)
      rw [hr2] at hr
      injection hr with hr3 hr4
      injection hr3 with hA _ hc
      subst hA hc
      exact ⟨_, _, w', by rw [hr2, hr4], ho', .inl ⟨rfl, he⟩⟩
    · have hints := own_ints h
      have hl' := h.len
      obtain ⟨v', w2, hr2, ho2, hg2⟩ := run_append_arg_grows (P := P) (w.alloc (.cells #[.int k x] e)) t ty e i (.int k 0) 1 bytes ht hi1 hz0 hz1 hz2 rfl (by omega) ⟨g, 0, none⟩ n c (ints k xs) (by simp [hl'])
        (by intro j u hj
            have hj' : j < n := by
              have := (List.getElem?_eq_some_iff.1 hj).1
              simpa [hl'] using this
            obtain ⟨ad, ha, hc⟩ := hints.cells j hj'
            cases ha
            rw [ints_get (by omega)] at hj
            injection hj with hj
            subst hj
            exact cell_ext ((Ext.refl [] w).alloc _) hc (by simp))
        ⟨w.heap.size, 0, none⟩ 1 1 [.int k x] (by simp) hnews (by omega) (by simp only [maxLen]; omega) hl
      obtain ⟨A2, c2, rfl⟩ : ∃ A2 c2, v' = .slice A2 (n + 1) c2 := by
        rcases ho2.2 with ⟨rfl, h0⟩ | ⟨g, cap, cur, rfl, _⟩
        · omega
        · exact ⟨_, _, rfl⟩
      refine ⟨A2, c2, w2, hr2, Own.of (own_snoc ho2), .inr ⟨fresh A2 c2 w2 ho2, ?_⟩⟩
      have := Ext.of_grown (A := none) (n := 0) (c := 0) hg2
      exact ((Ext.refl [] w).alloc _).trans this
end Go.B
