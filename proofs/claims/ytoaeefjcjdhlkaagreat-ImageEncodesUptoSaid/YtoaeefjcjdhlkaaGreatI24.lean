/- Image: copies. -/
import Derived.Test.YtoaeefjcjdhlkaaGreatI23
set_option linter.unusedVariables false
set_option linter.unusedSimpArgs false
namespace Go.Proofs.YtoaeefjcjdhlkaaGreat
open Go Go.V Go.B

/-- No list among them. -/
def simpleT : List Ty → Bool
  | [] => true
  | .list _ :: _ => false
  | _ :: ts => simpleT ts
theorem repR_simple {P Q : Nat → Prop} {w w' : World} : ∀ {ts : List Ty} {r : List D} {vs : List Value}, simpleT ts = true → tyR ts r → RepPR P w r vs → RepPR Q w' r vs
  | [], [], vs, hs, ht, h => h
  | [], d :: r, vs, hs, ht, h => ht.elim
  | t :: ts, [], vs, hs, ht, h => ht.elim
  | t :: ts, d :: r, vs, hs, ht, h => by
    simp only [tyR] at ht
    simp only [RepPR] at h ⊢
    obtain ⟨v, vs', rfl, h2, h3⟩ := h
    cases t with
    | list us => simp [simpleT] at hs
    | int =>
      cases d <;> simp only [tyD, false_and] at ht <;> try exact ht.elim
      exact ⟨v, vs', rfl, h2, repR_simple (by simpa [simpleT] using hs) ht.2 h3⟩
    | str =>
      cases d <;> simp only [tyD, false_and] at ht <;> try exact ht.elim
      exact ⟨v, vs', rfl, h2, repR_simple (by simpa [simpleT] using hs) ht.2 h3⟩
    | bool =>
      cases d <;> simp only [tyD, false_and] at ht <;> try exact ht.elim
      exact ⟨v, vs', rfl, h2, repR_simple (by simpa [simpleT] using hs) ht.2 h3⟩
theorem repL_simple {P Q : Nat → Prop} {w w' : World} {ts : List Ty} (hs : simpleT ts = true) : ∀ {l : List (List D)} {vss : List (List Value)}, tyL ts l → RepPL P w l vss → RepPL Q w' l vss
  | [], vss, ht, h => h
  | r :: l, vss, ht, h => by
    simp only [tyL] at ht
    simp only [RepPL] at h ⊢
    obtain ⟨vs, vss', rfl, h2, h3⟩ := h
    exact ⟨vs, vss', rfl, repR_simple hs ht.1 h2, repL_simple hs ht.2 h3⟩
theorem lrep_norm {w : World} {ts : List Ty} {l : List (List D)} {A : Option Addr} {n m : Nat} {xs : List (Row (m + 1))} (h : LRep w ts l A n m xs) {k : Nat} (hk : ts.length = k + 1) : ∃ xs' : List (Row (k + 1)), LRep w ts l A n k xs' := by
  rcases Nat.eq_zero_or_pos n with h0 | h0
  · have hl := h.ll
    obtain rfl : l = [] := List.eq_nil_of_length_eq_zero (by omega)
    exact ⟨[], h.ty, Cells.nil _ _, h0.symm, h.le, rfl⟩
  · obtain ⟨_, _, _, _, _, _, _, hts, _⟩ := h.row (a := 0) h0
    obtain rfl : m = k := by omega
    exact ⟨xs, h⟩
/-- append([]T{}, l...). -/
theorem copyL_c {t e : TypeId} {k bytes : Nat} {z : Value} (ht : Tryz.prog.underlying t = some (.slice e)) (hi : (Tryz.prog.info? e).map (fun i => (i.zero, i.size, i.bytes)) = some (some z, k + 1, bytes)) (hz : z.cells.size = k + 1) (hb0 : 0 < bytes) (hb1 : bytes ≤ 1000)
    {w w8 : World} {ts : List Ty} {l : List (List D)} {A : Option Addr} {n c m : Nat} {xs : List (Row (m + 1))} (h : LRep w ts l A n m xs) (hk : ts.length = k + 1) (hs : simpleT ts = true) (h8 : w8 = w.alloc (.cells #[] e)) :
    ∃ A' c' w', (Builtin.append_ #[t, t] t #[.slice (some ⟨w.heap.size, 0, none⟩) 0 0, .slice A n c]).run Tryz.prog w8 = .ok (.slice A' n c') w' ∧ Ext [] w w' ∧ RepP (NewB w w') w' (.list l) (.slice A' n c') := by
  obtain ⟨xs', h'⟩ := lrep_norm h hk
  obtain ⟨o8, x8, z8⟩ := own_empty (L := RL k) h8
  have hle := h.le
  obtain ⟨A', c', w', hr, ho, he, hat⟩ := OwnL.many (L := RL k) (P := Tryz.prog) (t := t) (ty := t) (cy := c) ht hi hz hb0 o8 (h'.c.ext0 x8) h'.len (by omega) (by
    have : (0 + n) * bytes ≤ 16777216 * 1000 := Nat.mul_le_mul (by omega) hb1
    omega)
  rw [Nat.zero_add] at hr ho
  rw [List.nil_append] at ho
  exact ⟨A', c', w', hr, x8.trans' he fun y hy => by simp [ownF] at hy; subst hy; exact .inr (Nat.le_refl _), A', n, c', k, xs', rfl, ho.cells, h'.len, hle, fun b hb => ho.base b hb, repL_simple hs h'.ty h'.rep⟩
/-- The function f copies a row of these types. -/
def Cps (f : FuncId) (ts : List Ty) : Prop := ∀ {w : World} {r : List D} {vs : List Value} {R : Ending → World → Prop}, tyR ts r → RepR w r vs → (∀ w' vs', Ext [] w w' → RepPR (NewB w w') w' r vs' → R (.returned (.agg ⟨vs'⟩)) w') → Calls Tryz.prog f #[.agg ⟨vs⟩] w R
/-- Blocks of the call's own, but for its two boxes. -/
abbrev KB (w0 : World) (p q : Nat) (w : World) : Nat → Prop := fun b => w0.heap.size ≤ b ∧ b < w.heap.size ∧ b ≠ p ∧ b ≠ q
theorem keep_ext {w0 w w' : World} {p q : Nat} {d : D} {v : Value} (h : RepP (KB w0 p q w) w d v) (e : Ext [] w w') : RepP (KB w0 p q w') w' d v := RepP.ext e (by simp) (fun b hb => ⟨hb.1, by have := e.size; have := hb.2.1; omega, hb.2.2⟩) h
theorem keep_st {w0 w w' : World} {p q : Nat} {d : D} {v : Value} (h : RepP (KB w0 p q w) w d v) (e : Ext [p] w w') : RepP (KB w0 p q w') w' d v := RepP.ext e (fun b hb hm => hb.2.2.1 (by simpa using hm)) (fun b hb => ⟨hb.1, by have := e.size; have := hb.2.1; omega, hb.2.2⟩) h
theorem keep_sq {w0 w w' : World} {p q : Nat} {d : D} {v : Value} (h : RepP (KB w0 p q w) w d v) (e : Ext [q] w w') : RepP (KB w0 p q w') w' d v := RepP.ext e (fun b hb hm => hb.2.2.2 (by simpa using hm)) (fun b hb => ⟨hb.1, by have := e.size; have := hb.2.1; omega, hb.2.2⟩) h
theorem keep_new {w0 w w' : World} {p q : Nat} {d : D} {v : Value} (h : RepP (NewB w w') w' d v) (h0 : w0.heap.size ≤ w.heap.size) (hp : p < w.heap.size) (hq : q < w.heap.size) : RepP (KB w0 p q w') w' d v := RepP.ext (Ext.refl [] _) (by simp) (fun b hb => ⟨by have := hb.1; omega, hb.2, by have := hb.1; omega, by have := hb.1; omega⟩) h
theorem keep_out {w0 w : World} {p q : Nat} {d : D} {v : Value} (h : RepP (KB w0 p q w) w d v) : RepP (NewB w0 w) w d v := RepP.ext (Ext.refl [] _) (by simp) (fun b hb => ⟨hb.1, hb.2.1⟩) h
end Go.Proofs.YtoaeefjcjdhlkaaGreat
