/- Rows of structs as flat lists of cells; stores into blocks; generic, no program. -/
import Derived.Test.YtoaeefjcjdhlkaaGreatB5
import Derived.Test.YtoaeefjcjdhlkaaGreatV2
set_option linter.unusedVariables false
set_option linter.unusedSimpArgs false
namespace Go.B
open Go.V Go.RowKit

/-- A way to lay things out in so many cells each. -/
structure Lay (α : Type) where
  enc : α → List Value
  sz : Nat
  len : ∀ x, (enc x).length = sz
  one : ∀ x, ∀ v ∈ enc x, v.oneCell' = true
  pos : 0 < sz
section
variable {α : Type} (L : Lay α)
def Lay.flat (xs : List α) : List Value := xs.flatMap L.enc
theorem Lay.flat_nil : L.flat [] = [] := rfl
theorem Lay.flat_cons (x : α) (xs : List α) : L.flat (x :: xs) = L.enc x ++ L.flat xs := rfl
theorem Lay.flat_app (xs ys : List α) : L.flat (xs ++ ys) = L.flat xs ++ L.flat ys := by simp [Lay.flat]
theorem Lay.flat_len (xs : List α) : (L.flat xs).length = xs.length * L.sz := by
  induction xs with
  | nil => simp [Lay.flat]
  | cons x xs ih => rw [L.flat_cons, List.length_append, L.len, ih, List.length_cons, Nat.succ_mul, Nat.add_comm]
theorem Lay.flat_one (xs : List α) : ∀ v ∈ L.flat xs, v.oneCell' = true := by
  intro v hv
  obtain ⟨x, _, h⟩ := List.mem_flatMap.1 hv
  exact L.one x v h
theorem Lay.flat_take (xs : List α) (n : Nat) : (L.flat xs).take (n * L.sz) = L.flat (xs.take n) := by
  induction xs generalizing n with
  | nil => simp [Lay.flat]
  | cons x xs ih =>
    cases n with
    | zero => simp [Lay.flat]
    | succ n =>
      rw [L.flat_cons, List.take_succ_cons, L.flat_cons, Nat.succ_mul, List.take_append, L.len, ← ih]
      have : (L.enc x).take (n * L.sz + L.sz) = L.enc x := List.take_of_length_le (by rw [L.len]; omega)
      rw [this]
      congr 2; omega
theorem Lay.flat_drop (xs : List α) (n : Nat) : (L.flat xs).drop (n * L.sz) = L.flat (xs.drop n) := by
  induction xs generalizing n with
  | nil => simp [Lay.flat]
  | cons x xs ih =>
    cases n with
    | zero => simp
    | succ n =>
      rw [L.flat_cons, List.drop_succ_cons, Nat.succ_mul, List.drop_append, L.len, ← ih]
      have : (L.enc x).drop (n * L.sz + L.sz) = [] := List.drop_eq_nil_of_le (by rw [L.len]; omega)
      rw [this, List.nil_append]
      congr 1; omega
theorem Lay.flat_get {xs : List α} {i : Nat} {x : α} (h : xs[i]? = some x) : ((L.flat xs).drop (i * L.sz)).take L.sz = L.enc x := by
  rw [L.flat_drop]
  have : xs.drop i = x :: xs.drop (i + 1) := by
    have hi : i < xs.length := (List.getElem?_eq_some_iff.1 h).1
    rw [List.drop_eq_getElem_cons hi]
    congr 1
    exact (List.getElem?_eq_some_iff.1 h).2
  rw [this, L.flat_cons, List.take_append, L.len, Nat.sub_self, List.take_zero, List.append_nil]
  exact List.take_of_length_le (by rw [L.len]; omega)
theorem Lay.flat_at {xs : List α} {i k : Nat} {x : α} {v : Value} (h : xs[i]? = some x) (hv : (L.enc x)[k]? = some v) : (L.flat xs)[i * L.sz + k]? = some v := by
  have hk : k < L.sz := by rw [← L.len x]; exact (List.getElem?_eq_some_iff.1 hv).1
  rw [← L.flat_get h, List.getElem?_take, if_pos hk, List.getElem?_drop] at hv
  exact hv
/-- One cell of one of them turned. -/
theorem Lay.flat_set {xs : List α} {i k : Nat} {x y : α} {v : Value} (h : xs[i]? = some x) (hy : L.enc y = (L.enc x).set k v) (hk : k < L.sz) : (L.flat xs).set (i * L.sz + k) v = L.flat (xs.set i y) := by
  induction xs generalizing i with
  | nil => simp at h
  | cons a xs ih =>
    cases i with
    | zero =>
      simp at h; subst h
      simp only [Nat.zero_mul, Nat.zero_add, List.set_cons_zero, L.flat_cons, hy]
      rw [List.set_append_left _ _ (by rw [L.len]; exact hk)]
    | succ i =>
      simp only [List.getElem?_cons_succ] at h
      simp only [List.set_cons_succ, L.flat_cons]
      rw [List.set_append_right _ _ (by rw [L.len, Nat.succ_mul]; omega), L.len, ← ih h]
      congr 2
      rw [Nat.succ_mul]; omega
/-- What stands at place i can be read. -/
theorem Lay.read {w : World} {A : Option Addr} {xs : List α} (h : Cells w A (L.flat xs)) {i : Nat} {x : α} (hx : xs[i]? = some x) : ∃ ad, A = some ad ∧ cellsC (fun a v => w.cell? a = some v) (ad.add (i * L.sz)) (L.enc x) := by
  have hne : ∃ v, (L.enc x)[0]? = some v := by
    have : 0 < (L.enc x).length := by rw [L.len]; exact L.pos
    exact ⟨_, List.getElem?_eq_getElem this⟩
  obtain ⟨v, hv⟩ := hne
  obtain ⟨ad, rfl, _⟩ := h _ v (L.flat_at hx hv)
  refine ⟨ad, rfl, fun j v hj => ?_⟩
  obtain ⟨ad', e, hc⟩ := h _ v (L.flat_at hx hj)
  cases e
  rw [Addr.add_add]; exact hc
end

/-! ### stores -/
theorem blk_cellsC {w : World} {g : Nat} {cs vs : List Value} (h : Blk w g cs) {o : Nat} (hv : ∀ j v, vs[j]? = some v → cs[o + j]? = some v) : cellsC (fun a v => w.cell? a = some v) ⟨g, o, none⟩ vs := fun j v hj => by
  show w.cell? ((⟨g, o, none⟩ : Addr).add j) = some v
  rw [Addr.add_lit]; exact h.cell (hv j v hj)
theorem blk_cellsC0 {w : World} {g : Nat} {vs : List Value} (h : Blk w g vs) : cellsC (fun a v => w.cell? a = some v) ⟨g, 0, none⟩ vs := blk_cellsC h fun j v hj => by simpa using hj
/-- A store of one cell. -/
theorem store1 {P : Program} {t T : TypeId} (ht : (P.info? t).map (·.size) = some 1) {w : World} {g i : Nat} {cs : List Value} (hb : BlkT w g cs T) {v : Value} (hi : i < cs.length) (hv : v.oneCell' = true) (hc : v.cells = #[v]) :
    ∃ w', (Instr.storeAt t (.pointer (some ⟨g, i, none⟩)) v).run P w = .ok () w' ∧ BlkT w' g (cs.set i v) T ∧ Ext [g] w w' := by
  have hst := run_storeCells_at P g i T [v] 0 ⟨cs⟩ w hb (by simp; omega) (by simpa using hv)
  cases hq : P.info? t with
  | none => simp [hq] at ht
  | some inf =>
    have hs : inf.size = 1 := by simpa [hq] using ht
    refine ⟨w.setRow g (cs.take i ++ [v] ++ cs.drop (i + 1)).toArray, ?_, ?_, ?_⟩
    · simp only [Nat.add_zero, List.length_singleton] at hst
      simp [Instr.storeAt, Instr.sureAddr, storeVar, sizeOf, typeInfo, hq, hs, hc] at hst ⊢
      exact hst
    · have e : cs.set i v = cs.take i ++ [v] ++ cs.drop (i + 1) := by rw [List.set_eq_take_append_cons_drop, if_pos hi]; simp
      rw [e]
      unfold BlkT at hb ⊢
      simp [World.setRow, Array.getElem?_modify, hb]
    · refine ⟨rfl, rfl, rfl, by simp [World.setRow], fun x hx hF => ?_⟩
      have : g ≠ x := fun e => hF (by simp [e])
      simp [World.setRow, Array.getElem?_modify, this]
/-- A store of a struct. -/
theorem storeN {P : Program} {t T : TypeId} {n : Nat} (ht : (P.info? t).map (·.size) = some n) {w : World} {g o : Nat} {cs vs : List Value} (hb : BlkT w g cs T) (hn : vs.length = n) (hi : o + n ≤ cs.length) (hv : ∀ v ∈ vs, v.oneCell' = true) :
    ∃ w', (Instr.storeAt t (.pointer (some ⟨g, o, none⟩)) (.agg ⟨vs⟩)).run P w = .ok () w' ∧ BlkT w' g (cs.take o ++ vs ++ cs.drop (o + n)) T ∧ Ext [g] w w' := by
  have hst := run_storeCells_at P g o T vs 0 ⟨cs⟩ w hb (by simpa [hn] using hi) hv
  cases hq : P.info? t with
  | none => simp [hq] at ht
  | some inf =>
    have hs : inf.size = n := by simpa [hq] using ht
    refine ⟨w.setRow g (cs.take o ++ vs ++ cs.drop (o + n)).toArray, ?_, ?_, ?_⟩
    · simp only [Nat.add_zero, hn] at hst
      simp [Instr.storeAt, Instr.sureAddr, storeVar, sizeOf, typeInfo, hq, hs, Value.cells, hn] at hst ⊢
      exact hst
    · unfold BlkT at hb ⊢
      simp [World.setRow, Array.getElem?_modify, hb]
    · refine ⟨rfl, rfl, rfl, by simp [World.setRow], fun x hx hF => ?_⟩
      have : g ≠ x := fun e => hF (by simp [e])
      simp [World.setRow, Array.getElem?_modify, this]
/-- .. over the whole of a block. -/
theorem storeW {P : Program} {t T : TypeId} {n : Nat} (ht : (P.info? t).map (·.size) = some n) {w : World} {g : Nat} {cs vs : List Value} (hb : BlkT w g cs T) (hn : vs.length = n) (hi : cs.length = n) (hv : ∀ v ∈ vs, v.oneCell' = true) :
    ∃ w', (Instr.storeAt t (.pointer (some ⟨g, 0, none⟩)) (.agg ⟨vs⟩)).run P w = .ok () w' ∧ BlkT w' g vs T ∧ Ext [g] w w' := by
  obtain ⟨w', h1, h2, h3⟩ := storeN ht hb (o := 0) hn (by omega) hv
  refine ⟨w', h1, ?_, h3⟩
  have : cs.drop (0 + n) = [] := List.drop_eq_nil_of_le (by omega)
  rw [this] at h2
  simpa using h2
theorem store1a {P : Program} {t T : TypeId} (ht : (P.info? t).map (·.size) = some 1) {w : World} {g i : Nat} {cs : List Value} (hb : BlkT w g cs T) {v : Value} (hi : i < cs.length) (hv : v.oneCell' = true) (hc : v.cells = #[v]) :
    ∃ w', (Instr.storeAt t (.pointer (some (Addr.add ⟨g, 0, none⟩ i))) v).run P w = .ok () w' ∧ BlkT w' g (cs.set i v) T ∧ Ext [g] w w' := by
  rw [Addr.add0]; exact store1 ht hb hi hv hc
end Go.B
