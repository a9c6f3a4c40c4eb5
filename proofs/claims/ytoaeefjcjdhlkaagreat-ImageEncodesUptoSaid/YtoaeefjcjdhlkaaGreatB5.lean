/- Rows of elements of several cells each: append, copy, clear; generic, no program. -/
import Derived.Test.YtoaeefjcjdhlkaaGreatB2
import Derived.Lib.AppendZerosOnto
import Derived.Lib.Overlaps
import Derived.DataElems
set_option linter.unusedVariables false
set_option linter.unusedSimpArgs false
namespace Go.B
open Go.V Go.RowKit

/-! ### cells that are read -/
def Cells (w : World) (A : Option Addr) (cs : List Value) : Prop := ∀ j v, cs[j]? = some v → ∃ ad, A = some ad ∧ w.cell? (ad.add j) = some v
theorem Cells.nil (w : World) (A : Option Addr) : Cells w A [] := fun j v h => by simp at h
theorem add_block (a : Addr) (n : Nat) : (a.add n).block = a.block := by unfold Addr.add; split <;> rfl
theorem Cells.ext {F : List Nat} {w w' : World} {A : Option Addr} {cs : List Value} (h : Cells w A cs) (e : Ext F w w') (hF : ∀ b ∈ ownF A, b ∉ F) : Cells w' A cs := fun j v hj => by
  obtain ⟨ad, rfl, hc⟩ := h j v hj
  exact ⟨ad, rfl, cell_ext e hc (by rw [add_block]; exact hF _ (by simp [ownF]))⟩
theorem Cells.ext0 {w w' : World} {A : Option Addr} {cs : List Value} (h : Cells w A cs) (e : Ext [] w w') : Cells w' A cs := h.ext e (by simp)
theorem Cells.take {w : World} {A : Option Addr} {cs : List Value} (h : Cells w A cs) (n : Nat) : Cells w A (cs.take n) := fun j v hj => by
  rw [List.getElem?_take] at hj
  split at hj
  · exact h j v hj
  · cases hj
theorem Cells.left {w : World} {A : Option Addr} {cs ds : List Value} (h : Cells w A (cs ++ ds)) : Cells w A cs := by
  have := h.take cs.length
  simpa using this
theorem Cells.drop {w : World} {A : Option Addr} {cs : List Value} (h : Cells w A cs) (n : Nat) : Cells w (A.map (·.add n)) (cs.drop n) := fun j v hj => by
  rw [List.getElem?_drop] at hj
  obtain ⟨ad, rfl, hc⟩ := h _ v hj
  exact ⟨ad.add n, rfl, by rw [Addr.add_add]; exact hc⟩
theorem Cells.cut {w : World} {A : Option Addr} {cs : List Value} (h : Cells w A cs) {c l sz : Nat} (hc : c = l → cs.length ≤ l * sz) : Cells w (cut A c l sz) (cs.drop (l * sz)) := by
  unfold V.cut
  split
  · rename_i e
    rw [List.drop_eq_nil_of_le (hc e)]
    exact Cells.nil _ _
  · exact h.drop _
theorem Cells.at_blk {w : World} {g : Nat} {cs : List Value} (h : Blk w g cs) (o : Nat) : Cells w (some ⟨g, o, none⟩) (cs.drop o) := fun j v hj => by
  rw [List.getElem?_drop] at hj
  exact ⟨_, rfl, by rw [Addr.add_lit]; exact h.cell hj⟩
theorem Cells.of_blk {w : World} {g : Nat} {cs : List Value} (h : Blk w g cs) : Cells w (some ⟨g, 0, none⟩) cs := by
  have := Cells.at_blk h 0
  simpa using this

/-! ### rows of the call's own -/
theorem own_cells {w : World} {B sz n c : Nat} {e : TypeId} {A : Option Addr} {xs : List Value} (h : w.ownsRow B e sz (.slice A n c) n xs) : Cells w A xs := by
  rcases h.2 with ⟨_, h0⟩ | ⟨g, cap, cur, hv, _, hh, _, _, _, ht⟩
  · have := h.1
    rw [h0, Nat.zero_mul] at this
    rw [List.eq_nil_of_length_eq_zero this]
    exact Cells.nil _ _
  · injection hv with hA _ _
    subst hA
    rw [← ht]
    exact (Cells.of_blk (w := w) (g := g) (cs := cur.toList) ⟨e, hh⟩).take _
theorem own_cap {w : World} {B sz n c : Nat} {e : TypeId} {A : Option Addr} {xs : List Value} (h : w.ownsRow B e sz (.slice A n c) n xs) : n ≤ c := by
  rcases h.2 with ⟨hv, h0⟩ | ⟨g, cap, cur, hv, _, _, hnc, _⟩
  · injection hv with _ hn hc; omega
  · injection hv with _ hn hc; omega
theorem own_blk {w : World} {B sz n c : Nat} {e : TypeId} {A : Option Addr} {xs : List Value} (h : w.ownsRow B e sz (.slice A n c) n xs) (hn : 0 < n) : ∃ g bs, A = some ⟨g, 0, none⟩ ∧ B ≤ g ∧ BlkT w g bs e ∧ bs.length = c * sz ∧ c ≤ maxLen ∧ bs.take (n * sz) = xs := by
  rcases h.2 with ⟨hv, h0⟩ | ⟨g, cap, cur, hv, hB, hh, _, hm, hs, ht⟩
  · omega
  · injection hv with hA hn hc
    subst hA
    subst hc
    exact ⟨g, cur.toList, rfl, hB, hh, by simpa using hs, hm, ht⟩
theorem own_of {w : World} {B sz n c g : Nat} {e : TypeId} {bs xs : List Value} (hb : BlkT w g bs e) (hB : B ≤ g) (hnc : n ≤ c) (hm : c ≤ maxLen) (hs : bs.length = c * sz) (ht : bs.take (n * sz) = xs) : w.ownsRow B e sz (.slice (some ⟨g, 0, none⟩) n c) n xs := by
  refine ⟨?_, .inr ⟨g, c, ⟨bs⟩, rfl, hB, hb, hnc, hm, by simpa using hs, ht⟩⟩
  rw [← ht, List.length_take, hs]
  have := Nat.mul_le_mul_right sz hnc
  omega
theorem own_weaken {w : World} {B B' sz n c : Nat} {e : TypeId} {A : Option Addr} {xs : List Value} (h : w.ownsRow B e sz (.slice A n c) n xs) (hB : B' ≤ B) : w.ownsRow B' e sz (.slice A n c) n xs := by
  refine ⟨h.1, ?_⟩
  rcases h.2 with h2 | ⟨g, cap, cur, hv, hb, rest⟩
  · exact .inl h2
  · exact .inr ⟨g, cap, cur, hv, by omega, rest⟩
/-- append(s, ys...): s a row of the call's own, ys cells that are read. -/
theorem appR {P : Program} {t ty e : TypeId} {z : Value} {sz bytes : Nat} (ht : P.underlying t = some (.slice e)) (hi : (P.info? e).map (fun i => (i.zero, i.size, i.bytes)) = some (some z, sz, bytes)) (hz : z.cells.size = sz) (hsz : 0 < sz) (hb0 : 0 < bytes)
    {w : World} {B n c m cy : Nat} {A Y : Option Addr} {xs ys : List Value} (own : w.ownsRow B e sz (.slice A n c) n xs) (hy : ys.length = m * sz) (hys : Cells w Y ys) (h1 : ∀ u ∈ ys, u.oneCell' = true)
    (hB : B ≤ w.heap.size) (hl : (n + m) * bytes ≤ 140737488355328) :
    ∃ A' c' w', (Builtin.append_ #[t, t] ty #[.slice A n c, .slice Y m cy]).run P w = .ok (.slice A' (n + m) c') w' ∧ w'.ownsRow B e sz (.slice A' (n + m) c') (n + m) (xs ++ ys) ∧ Ext (ownF A) w w' ∧ (ownF A' = ownF A ∨ ownF A' = [w.heap.size]) := by
  obtain ⟨i, hi1, hz0, hz1, hz2⟩ := info_parts hi
  have hnm : n + m ≤ 140737488355328 := Nat.le_trans (Nat.le_mul_of_pos_right _ hb0) hl
  cases Y with
  | none =>
    have h0 : ys = [] := by
      cases ys with
      | nil => rfl
      | cons y ys => obtain ⟨ad, h, _⟩ := hys 0 y (by simp); cases h
    subst h0
    have hm : m = 0 := by
      rcases Nat.eq_zero_or_pos m with h | h
      · exact h
      · have := Nat.mul_pos h hsz
        simp at hy; omega
    subst hm
    have hnc := own_cap own
    refine ⟨A, c, w, ?_, by simpa using own, Ext.refl _ _, .inl rfl⟩
    have hu : (underlying t).run P w = .ok (.slice e) w := run_underlying' ht w
    cases A with
    | none => simp [Builtin.append_, run_underlying ht, sizeOf, typeInfo, hi1, Builtin.lenOf, Builtin.firstCells, hnc]
    | some a => simp [Builtin.append_, run_underlying ht, sizeOf, typeInfo, hi1, Builtin.lenOf, Builtin.firstCells, hnc, storeCells]
  | some ad =>
    obtain ⟨v', w', hr, ho, hg, hn, hat⟩ := run_append_own_at (P := P) (w := w) B t ty e i z sz bytes ht hi1 hz0 hz1 hz2 hz hsz (.slice A n c) n xs own ad m cy ys hy
      (by intro j u hj; obtain ⟨ad', h, hc⟩ := hys j u hj; cases h; exact hc) h1 (by simp only [maxLen]; omega) hl hB
    obtain ⟨A', c', rfl⟩ : ∃ A' c', v' = .slice A' (n + m) c' := by
      rcases ho.2 with ⟨rfl, h0⟩ | ⟨g, cap, cur, rfl, _⟩
      · exact ⟨none, 0, by simp [h0]⟩
      · exact ⟨_, _, rfl⟩
    refine ⟨A', c', w', hr, ho, Ext.of_grown hg, ?_⟩
    rcases hat with h | h
    · left
      cases A <;> cases A' <;> simp [Value.ownBlock, ownF] at h ⊢
      exact h
    · right
      cases A' <;> simp [Value.ownBlock, ownF] at h ⊢
      exact h
/-- append(s, ys...) in place. -/
theorem appRoom {P : Program} {t ty e : TypeId} {sz : Nat} (ht : P.underlying t = some (.slice e)) (hs : (P.info? e).map (·.size) = some sz)
    {w : World} {g n c m cy : Nat} {Y : Option Addr} {bs ys : List Value} (hb : BlkT w g bs e) (hy : ys.length = m * sz) (hys : Cells w Y ys) (h1 : ∀ u ∈ ys, u.oneCell' = true) (hsz : 0 < sz)
    (hroom : n + m ≤ c) (hfit : n * sz + ys.length ≤ bs.length) :
    ∃ w', (Builtin.append_ #[t, t] ty #[.slice (some ⟨g, 0, none⟩) n c, .slice Y m cy]).run P w = .ok (.slice (some ⟨g, 0, none⟩) (n + m) c) w' ∧ BlkT w' g (bs.take (n * sz) ++ ys ++ bs.drop (n * sz + ys.length)) e ∧ Ext [g] w w' := by
  cases hq : P.info? e with
  | none => simp [hq] at hs
  | some i =>
    have hi : i.size = sz := by simpa [hq] using hs
    subst hi
    cases Y with
    | none =>
      have h0 : ys = [] := by
        cases ys with
        | nil => rfl
        | cons y ys => obtain ⟨ad, h, _⟩ := hys 0 y (by simp); cases h
      subst h0
      have hm : m = 0 := by
        rcases Nat.eq_zero_or_pos m with h | h
        · exact h
        · have := Nat.mul_pos h hsz
          simp at hy; omega
      subst hm
      refine ⟨w, ?_, by simpa using hb, Ext.refl _ _⟩
      have hnc : n ≤ c := by omega
      simp [Builtin.append_, run_underlying ht, sizeOf, typeInfo, hq, Builtin.lenOf, Builtin.firstCells, hnc, storeCells]
    | some ad =>
      have hr := run_append_room (P := P) (w := w) (ty := ty) t e i ht hq g n c ⟨bs⟩ hb ad m cy ys hy (by intro j u hj; obtain ⟨ad', h, hc⟩ := hys j u hj; cases h; exact hc) h1 hroom (by simpa using hfit)
      refine ⟨_, hr, ?_, ?_⟩
      · unfold BlkT at hb ⊢
        simp [World.setRow, Array.getElem?_modify, hb]
      · refine ⟨rfl, rfl, rfl, by simp [World.setRow], fun x hx hF => ?_⟩
        have : g ≠ x := fun e => hF (by simp [e])
        simp [World.setRow, Array.getElem?_modify, this]
/-- copy(dst, src), dst in a block. -/
theorem copyR {P : Program} {dT sT ty e : TypeId} {sz : Nat} (hu : P.underlying dT = some (.slice e)) (hs : (P.info? e).map (·.size) = some sz) {w : World} {g o nd cd ns cap : Nat} {Y : Option Addr} {bs ys : List Value}
    {T : TypeId} (hb : BlkT w g bs T) (hy : ys.length = min ns nd * sz) (hys : Cells w Y ys) (h1 : ∀ u ∈ ys, u.oneCell' = true) (hfit : o + ys.length ≤ bs.length) (hsz : 0 < sz) :
    ∃ w', (Builtin.copy_ #[dT, sT] ty #[.slice (some ⟨g, o, none⟩) nd cd, .slice Y ns cap]).run P w = .ok (.int .i64 ((min ns nd : Nat) : Int)) w' ∧ BlkT w' g (bs.take o ++ ys ++ bs.drop (o + ys.length)) T ∧ Ext [g] w w' := by
  cases hq : P.info? e with
  | none => simp [hq] at hs
  | some i =>
    have hi : i.size = sz := by simpa [hq] using hs
    have hmin : Nat.min ns nd = min ns nd := rfl
    rcases Nat.eq_zero_or_pos (min ns nd) with h0 | h0
    · have hy0 : ys = [] := List.eq_nil_of_length_eq_zero (by rw [hy, h0, Nat.zero_mul])
      subst hy0
      refine ⟨w, ?_, by simpa using hb, Ext.refl _ _⟩
      cases Y with
      | none => simp [Builtin.copy_, run_underlying hu, Builtin.lenOf, Builtin.firstCells, sizeOf, typeInfo, hq, hmin, h0, storeCells, loadCells, loadCellsFrom, goInt]
      | some ad => simp [Builtin.copy_, run_underlying hu, Builtin.lenOf, Builtin.firstCells, sizeOf, typeInfo, hq, hmin, h0, storeCells, loadCells, loadCellsFrom, goInt]
    · have hh := hb
      unfold BlkT at hh
      obtain ⟨ad, rfl⟩ : ∃ ad, Y = some ad := by
        have : 0 < min ns nd * sz := Nat.mul_pos h0 hsz
        cases ys with
        | nil => simp at hy; omega
        | cons y ys => obtain ⟨ad, h, _⟩ := hys 0 y (by simp); exact ⟨ad, h⟩
      have hl := run_loadCells_list (P := P) w ad ys (by intro j v hj; obtain ⟨ad', h, hc⟩ := hys j v hj; cases h; exact hc)
      have hst := run_storeCells_at P g o T ys 0 ⟨bs⟩ w hh (by simpa using hfit) h1
      refine ⟨w.setRow g (bs.take o ++ ys ++ bs.drop (o + ys.length)).toArray, ?_, ?_, ?_⟩
      · simp only [Nat.add_zero] at hst
        rw [hy] at hl
        simp [Builtin.copy_, run_underlying hu, Builtin.lenOf, Builtin.firstCells, sizeOf, typeInfo, hq, hi, hmin, hl, hst, goInt]
      · unfold BlkT; simp [World.setRow, Array.getElem?_modify, hh]
      · refine ⟨rfl, rfl, rfl, by simp [World.setRow], fun x hx hF => ?_⟩
        have : g ≠ x := fun e => hF (by simp [e])
        simp [World.setRow, Array.getElem?_modify, this]
/-- copy(dst, src) of nothing. -/
theorem copyR0 {P : Program} {dT sT ty e : TypeId} (hu : P.underlying dT = some (.slice e)) (hs : ((P.info? e).map (·.size)).isSome = true) {w : World} {nd cd ns cap : Nat} {D Y : Option Addr} (h0 : min ns nd = 0) :
    (Builtin.copy_ #[dT, sT] ty #[.slice D nd cd, .slice Y ns cap]).run P w = .ok (.int .i64 0) w := by
  have hmin : Nat.min ns nd = 0 := h0
  cases hq : P.info? e with
  | none => simp [hq] at hs
  | some i => cases Y <;> cases D <;> simp [Builtin.copy_, run_underlying hu, Builtin.lenOf, Builtin.firstCells, sizeOf, typeInfo, hq, hmin, storeCells, loadCells, loadCellsFrom, goInt]
/-- append(s, make([]T, k)...) where s has no room for so many. -/
theorem zerosR {P : Program} {t tn ty e : TypeId} {z : Value} {kn kq : IntKind} {sz bytes : Nat} (ht : P.underlying t = some (.slice e)) (htn : P.underlying tn = some (.int kn)) (hi : (P.info? e).map (fun i => (i.zero, i.size, i.bytes)) = some (some z, sz, bytes)) (hz : z.cells.size = sz) (hsz : 0 < sz) (hb0 : 0 < bytes)
    {w : World} {n c k : Nat} {A : Option Addr} {xs : List Value} (hx : xs.length = n * sz) (hxs : Cells w A xs) (hA : A = none → n = 0) (h0 : 0 < k) (hg : c < n + k) (hl : (n + k) * bytes ≤ 140737488355328) :
    ∃ g c' bs w', (Builtin.append_ #[t, tn] ty #[.slice A n c, .int kq (k : Int)]).run P w = .ok (.slice (some ⟨g, 0, none⟩) (n + k) c') w' ∧ BlkT w' g bs e ∧ bs.length = c' * sz ∧ n + k ≤ c' ∧ c' ≤ maxLen ∧ bs.take (n * sz) = xs ∧ w.heap.size ≤ g ∧ Ext [] w w' := by
  obtain ⟨i, hi1, hz0, hz1, hz2⟩ := info_parts hi
  have hnk : n + k ≤ 140737488355328 := Nat.le_trans (Nat.le_mul_of_pos_right _ hb0) hl
  have hold : (Builtin.firstCells i.size n (.slice A n c)).run P w.drew = .ok xs.toArray w.drew := by
    cases A with
    | none =>
      have := hA rfl
      subst this
      have hx0 : xs = [] := List.eq_nil_of_length_eq_zero (by simpa using hx)
      subst hx0
      simp [Builtin.firstCells]
    | some ad => exact run_firstCells_some (P := P) w.drew i.size n ad n c xs (by rw [hx, hz1]) (by intro j v hj; obtain ⟨ad', h, hc⟩ := hxs j v hj; cases h; exact hc)
  have hfit := growslice_fits (need := n + k) (old := c) (bytes := i.bytes) hg (by rw [hz2]; exact hl)
  have hr := Lib.run_append_grow_zeros (P := P) w t tn ty e i z kq kn ht htn hi1 hz0 A n c xs hold k h0 (by omega) hg (by omega) (by
    have := Nat.le_mul_of_pos_left (k * bytes) (show 0 < 1 by omega)
    have h2 : k * bytes ≤ (n + k) * bytes := Nat.mul_le_mul_right _ (by omega)
    rw [hz2]; omega) hfit
  have hge := grownCap_ge w (n + k) c e
  refine ⟨_, _, (xs.toArray ++ Builtin.zeroCells z.cells k ++ Builtin.zeroCells z.cells (grownCap w (n + k) c e - (n + k))).toList, _, hr, ?_, ?_, hge, grownCap_le_maxLen w (n + k) c e (by simp only [maxLen]; omega), ?_, Nat.le_refl _, ?_⟩
  · exact BlkT.new w.drew _ _
  · simp only [Array.length_toList, Array.size_append, List.size_toArray, size_zeroCells, hz, hx, ← Nat.add_mul]
    congr 1; omega
  · simp only [Array.toList_append, List.append_assoc]
    rw [← hx]; exact List.take_left
  · exact ((Ext.refl [] w).drew).alloc _
/-- clear(s), s at the end of a row. -/
theorem clearR {P : Program} {t ty e : TypeId} {z : Value} {sz : Nat} (ht : P.underlying t = some (.slice e)) (hi : (P.info? e).map (fun i => (i.zero, i.size)) = some (some z, sz)) (hz : z.cells.size = sz) (h1 : ∀ u ∈ z.cells.toList, u.oneCell' = true)
    {w : World} {g o n c : Nat} {bs : List Value} {T : TypeId} (hb : BlkT w g bs T) (hfit : o + n * sz ≤ bs.length) :
    ∃ w', (Builtin.clear_ #[t] ty #[.slice (some ⟨g, o, none⟩) n c]).run P w = .ok (.tuple #[]) w' ∧ (∃ zs, zs.length = n * sz ∧ BlkT w' g (bs.take o ++ zs ++ bs.drop (o + n * sz)) T) ∧ Ext [g] w w' := by
  obtain ⟨i, hi1, hz0, hz1⟩ : ∃ i, P.info? e = some i ∧ i.zero = some z ∧ i.size = sz := by
    cases hq : P.info? e with
    | none => simp [hq] at hi
    | some i => simp [hq] at hi; exact ⟨i, rfl, hi.1, hi.2⟩
  rcases Nat.eq_zero_or_pos n with h0 | h0
  · subst h0
    refine ⟨w, ?_, ⟨[], by simp, by simpa using hb⟩, Ext.refl _ _⟩
    simp [Builtin.clear_, run_underlying ht]
  · have hh := hb
    unfold BlkT at hh
    have hlen : (Builtin.zeroCells z.cells n).toList.length = n * sz := by rw [Array.length_toList, size_zeroCells, hz]
    have hst := run_storeCells_at P g o T (Builtin.zeroCells z.cells n).toList 0 ⟨bs⟩ w hh (by rw [hlen]; simpa using hfit) (by
      intro v hv
      simp only [Builtin.zeroCells] at hv
      simp at hv
      obtain ⟨k, hk, rfl⟩ := hv
      apply h1
      have hpos : 0 < z.cells.size := by
        rcases Nat.eq_zero_or_pos z.cells.size with h | h
        · rw [h] at hk; simp at hk
        · exact h
      have hm : k % z.cells.size < z.cells.size := Nat.mod_lt _ hpos
      simp [hm])
    simp only [Nat.add_zero] at hst
    refine ⟨w.setRow g (bs.take o ++ (Builtin.zeroCells z.cells n).toList ++ bs.drop (o + (Builtin.zeroCells z.cells n).toList.length)).toArray, ?_, ⟨(Builtin.zeroCells z.cells n).toList, hlen, ?_⟩, ?_⟩
    · cases n with
      | zero => omega
      | succ n => simp [Builtin.clear_, run_underlying ht, zeroValue, typeInfo, hi1, hz0, hst]
    · rw [← hlen]; unfold BlkT; simp [World.setRow, Array.getElem?_modify, hh]
    · refine ⟨rfl, rfl, rfl, by simp [World.setRow], fun x hx hF => ?_⟩
      have : g ≠ x := fun e => hF (by simp [e])
      simp [World.setRow, Array.getElem?_modify, this]
end Go.B
