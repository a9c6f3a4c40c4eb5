/- Posting: what the sets of an index tell; no program. -/
import Derived.Test.YtpipenkaaodlgaaGreatDoorZ0
set_option linter.unusedVariables false
set_option linter.unusedSimpArgs false
namespace Go.Proofs.YtpipenkaaodlgaaGreatDoor
open Go Go.V Go.B

def Px.ps (x : Px) (k v : ByteArray) : Option PS := (x.cols k).bind fun C => mget C.of v
def Px.lab (x : Px) (i : Int) : Option (List Lab) := (mget x.ls i).map (·.l)
def Px.E (x : Px) (k v : ByteArray) (i : Nat) : Prop := ∃ l, x.lab (i : Int) = some l ∧ (k, v) ∈ l
/-- The sets are just the entries E; none is empty. -/
structure ColsOk (x : Px) (E : ByteArray → ByteArray → Nat → Prop) : Prop where
  ne : ∀ k C, x.cols k = some C → C.of ≠ []
  set : ∀ k v s, x.ps k v = some s → s.S.N = x.N ∧ ∃ i, s.S.mem i = true
  tell : ∀ k v i, (∃ s, x.ps k v = some s ∧ s.S.mem i = true) ↔ E k v i
structure PxOk (x : Px) : Prop where
  cols : ColsOk x x.E
  LN : x.L.N = x.N
  live : ∀ i : Nat, x.L.mem i = true ↔ ∃ l, x.lab (i : Int) = some l
  lab : ∀ i l, x.lab i = some l → OkL l ∧ ∃ j : Nat, i = j ∧ j < x.N
theorem ColsOk.mono {x : Px} {E E' : ByteArray → ByteArray → Nat → Prop} (h : ColsOk x E) (e : ∀ k v i, E k v i ↔ E' k v i) : ColsOk x E' := ⟨h.ne, h.set, fun k v i => (h.tell k v i).trans (e k v i)⟩
theorem ColsOk.add {x x' : Px} {E : ByteArray → ByteArray → Nat → Prop} (h : ColsOk x E) {key v : ByteArray} {slot : Nat} {s' : PS} (hN : x'.N = x.N) (hne : ∀ k, k ≠ key → x'.cols k = x.cols k) (hps : ∀ k v', ¬ (k = key ∧ v' = v) → x'.ps k v' = x.ps k v') (hs : x'.ps key v = some s') (sN : s'.S.N = x.N)
    (hm : ∀ i, s'.S.mem i = true ↔ (∃ s, x.ps key v = some s ∧ s.S.mem i = true) ∨ i = slot) : ColsOk x' (fun k v' i => E k v' i ∨ (k = key ∧ v' = v ∧ i = slot)) := by
  refine ⟨fun k C hC h0 => ?_, fun k v' s hk => ?_, fun k v' i => ?_⟩
  · by_cases e : k = key
    · subst e
      unfold Px.ps at hs
      rw [hC] at hs
      simp [h0, mget] at hs
    · rw [hne k e] at hC; exact h.ne k C hC h0
  · by_cases e : k = key ∧ v' = v
    · obtain ⟨rfl, rfl⟩ := e
      rw [hs] at hk; cases hk
      exact ⟨sN.trans hN.symm, slot, (hm slot).2 (.inr rfl)⟩
    · rw [hps k v' e] at hk
      rw [hN]; exact h.set k v' s hk
  · by_cases e : k = key ∧ v' = v
    · obtain ⟨rfl, rfl⟩ := e
      rw [← h.tell]
      constructor
      · rintro ⟨s, hk, hi⟩
        rw [hs] at hk; cases hk
        rcases (hm i).1 hi with h1 | h1
        · exact .inl h1
        · exact .inr ⟨rfl, rfl, h1⟩
      · rintro (h1 | ⟨_, _, h1⟩)
        · exact ⟨s', hs, (hm i).2 (.inl h1)⟩
        · exact ⟨s', hs, (hm i).2 (.inr h1)⟩
    · rw [hps k v' e, h.tell]
      constructor
      · exact .inl
      · rintro (h1 | ⟨a, b, _⟩)
        · exact h1
        · exact absurd ⟨a, b⟩ e
theorem ColsOk.rem {x x' : Px} {E : ByteArray → ByteArray → Nat → Prop} (h : ColsOk x E) {key v : ByteArray} {slot : Nat} (hN : x'.N = x.N) (hcol : ∀ k C, x'.cols k = some C → C.of ≠ []) (hps : ∀ k v', ¬ (k = key ∧ v' = v) → x'.ps k v' = x.ps k v')
    (hs : (x'.ps key v = none ∧ ∀ s i, x.ps key v = some s → s.S.mem i = true → i = slot) ∨ ∃ s s', x.ps key v = some s ∧ x'.ps key v = some s' ∧ s'.S.N = x.N ∧ (∃ i, s'.S.mem i = true) ∧ ∀ i, s'.S.mem i = (s.S.mem i && !decide (i = slot))) : ColsOk x' (fun k v' i => E k v' i ∧ ¬ (k = key ∧ v' = v ∧ i = slot)) := by
  refine ⟨hcol, fun k v' s hk => ?_, fun k v' i => ?_⟩
  · by_cases e : k = key ∧ v' = v
    · obtain ⟨rfl, rfl⟩ := e
      rcases hs with ⟨h1, _⟩ | ⟨s0, s', _, h2, h3, h4, _⟩
      · rw [h1] at hk; cases hk
      · rw [h2] at hk; cases hk
        exact ⟨h3.trans hN.symm, h4⟩
    · rw [hps k v' e] at hk
      rw [hN]; exact h.set k v' s hk
  · by_cases e : k = key ∧ v' = v
    · obtain ⟨rfl, rfl⟩ := e
      rw [← h.tell]
      rcases hs with ⟨h1, h2⟩ | ⟨s0, s', h1, h2, _, _, h5⟩
      · constructor
        · rintro ⟨s, hk, _⟩; rw [h1] at hk; cases hk
        · rintro ⟨⟨s, hk, hi⟩, hn⟩
          exact absurd ⟨rfl, rfl, h2 s i hk hi⟩ hn
      · constructor
        · rintro ⟨s, hk, hi⟩
          rw [h2] at hk; cases hk
          rw [h5] at hi
          have hi : s0.S.mem i = true ∧ i ≠ slot := by simpa using hi
          exact ⟨⟨s0, h1, hi.1⟩, fun hh => hi.2 hh.2.2⟩
        · rintro ⟨⟨s, hk, hi⟩, hn⟩
          rw [h1] at hk; cases hk
          exact ⟨s', h2, by rw [h5, hi]; simp; exact fun e => hn ⟨rfl, rfl, e⟩⟩
    · rw [hps k v' e, h.tell]
      exact ⟨fun h1 => ⟨h1, fun hh => e ⟨hh.1, hh.2.1⟩⟩, fun h1 => h1.1⟩
/-- A value's set is another now; it lies where it lay. -/
def upS (of : List (ByteArray × PS)) (v : ByteArray) (T : SetV) : List (ByteArray × PS) := of.map fun y => if y.1 = v then (y.1, { y.2 with S := T }) else y
theorem upS_keys (of : List (ByteArray × PS)) (v : ByteArray) (T : SetV) : mkeys (upS of v T) = mkeys of := by
  unfold mkeys upS
  rw [List.map_map]
  refine List.map_congr_left fun y _ => ?_
  show (if y.1 = v then (y.1, ({ y.2 with S := T } : PS)) else y).1 = y.1
  split <;> rfl
theorem upS_val (of : List (ByteArray × PS)) (v : ByteArray) (T : SetV) : (upS of v T).map (fun p => (Value.string p.1, psV p.2)) = of.map (fun p => (Value.string p.1, psV p.2)) := by
  unfold upS
  rw [List.map_map]
  refine List.map_congr_left fun y _ => ?_
  show (Value.string (if y.1 = v then (y.1, ({ y.2 with S := T } : PS)) else y).1, psV (if y.1 = v then (y.1, ({ y.2 with S := T } : PS)) else y).2) = (Value.string y.1, psV y.2)
  split <;> rfl
theorem upS_get (of : List (ByteArray × PS)) (v : ByteArray) (T : SetV) (k : ByteArray) : mget (upS of v T) k = if k = v then (mget of v).map (fun s => { s with S := T }) else mget of k := by
  induction of with
  | nil => simp [upS, mget]
  | cons y of ih =>
    unfold upS at ih ⊢
    rw [List.map_cons]
    by_cases hy : y.1 = v
    · rw [if_pos hy]
      by_cases hk : k = v
      · subst hk
        simp [mget, hy]
      · have : y.1 ≠ k := fun e => hk (e.symm.trans hy)
        rw [if_neg hk] at ih ⊢
        simp only [mget, this, if_false]
        exact ih
    · rw [if_neg hy]
      by_cases hk : k = v
      · subst hk
        rw [if_pos rfl] at ih ⊢
        simp only [mget, hy, if_false]
        exact ih
      · rw [if_neg hk] at ih ⊢
        simp only [mget]
        split
        · rfl
        · exact ih
theorem upS_mem {of : List (ByteArray × PS)} {v : ByteArray} {T : SetV} {z : ByteArray × PS} (h : z ∈ upS of v T) : ∃ y ∈ of, z.1 = y.1 ∧ z.2.p = y.2.p ∧ z.2.b = y.2.b ∧ ((y.1 = v ∧ z.2.S = T) ∨ (y.1 ≠ v ∧ z = y)) := by
  unfold upS at h
  obtain ⟨y, hy, e⟩ := List.mem_map.1 h
  refine ⟨y, hy, ?_⟩
  split at e
  · rename_i h1; subst e; exact ⟨rfl, rfl, rfl, .inl ⟨h1, rfl⟩⟩
  · rename_i h1; subst e; exact ⟨rfl, rfl, rfl, .inr ⟨h1, rfl⟩⟩
theorem ps_setCol (x : Px) (key : ByteArray) (c : Option Kc) (k v : ByteArray) : (x.setCol key c).ps k v = if k = key then c.bind (fun C => mget C.of v) else x.ps k v := by
  unfold Px.ps Px.setCol
  by_cases h : k = key <;> simp [h]
/-- One key's value at most. -/
theorem OkL.one {l : List Lab} (h : OkL l) {k v v' : ByteArray} (h1 : (k, v) ∈ l) (h2 : (k, v') ∈ l) : v = v' := by
  have := key_uniq h.ris.nodup h1 h2 rfl
  injection this
end Go.Proofs.YtpipenkaaodlgaaGreatDoor
