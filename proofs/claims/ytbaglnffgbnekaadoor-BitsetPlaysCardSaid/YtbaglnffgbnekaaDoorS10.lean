/- Several sets that stand side by side: what each call does to all of them. -/
import Derived.Test.YtbaglnffgbnekaaDoorS8
set_option linter.unusedVariables false
set_option linter.unusedSimpArgs false
namespace Go.Proofs.YtbaglnffgbnekaaDoor
open Go Go.V Go.B

abbrev Ent := Nat × Nat × SetV
def ent0 : Ent := (0, 0, SetV.nil)
def ptrOf (l : List Ent) : Option Nat → Option Addr
  | none => none
  | some i => some ⟨(l.getD i ent0).1, 0, none⟩
def setOf (l : List Ent) : Option Nat → SetV
  | none => SetV.nil
  | some i => (l.getD i ent0).2.2
def blksOf (l : List Ent) : Option Nat → List Nat
  | none => []
  | some i => [(l.getD i ent0).1, (l.getD i ent0).2.1]
def okR (l : List Ent) : Option Nat → Prop
  | none => True
  | some i => i < l.length
def updE (l : List Ent) (i : Nat) (C : SetV) : List Ent := l.set i ((l.getD i ent0).1, (l.getD i ent0).2.1, C)
theorem getD_of {l : List Ent} {i : Nat} (h : i < l.length) : l[i]? = some (l.getD i ent0) := by
  simp [List.getD_eq_getElem?_getD, h]
theorem getD_some {l : List Ent} {i : Nat} {c : Ent} (h : l[i]? = some c) : l.getD i ent0 = c := by
  simp [List.getD_eq_getElem?_getD, h]

structure Pool (W w : World) (l : List Ent) : Prop where
  ext : Ext [] W w
  at_ : ∀ (i : Nat) (c : Ent), l[i]? = some c → SetAt w c.1 c.2.1 c.2.2 ∧ W.heap.size ≤ c.1 ∧ W.heap.size ≤ c.2.1
  sep : ∀ (i j : Nat) (c d : Ent), i ≠ j → l[i]? = some c → l[j]? = some d → c.1 ≠ d.1 ∧ c.1 ≠ d.2.1 ∧ c.2.1 ≠ d.1 ∧ c.2.1 ≠ d.2.1
section
variable {W w : World} {l : List Ent}
theorem Pool.empty {e : Ext [] W w} : Pool W w [] := ⟨e, fun i c h => by simp at h, fun i j c d _ h => by simp at h⟩
theorem Pool.ref (h : Pool W w l) (r : Option Nat) (v : okR l r) : RefAt w (ptrOf l r) (setOf l r) (blksOf l r) := by
  cases r with
  | none => exact RefAt.nil w
  | some i => exact (h.at_ i _ (getD_of v)).1.ref
theorem Pool.get (h : Pool W w l) {i : Nat} (v : i < l.length) : SetAt w (l.getD i ent0).1 (l.getD i ent0).2.1 (l.getD i ent0).2.2 := (h.at_ i _ (getD_of v)).1
theorem Pool.ok (h : Pool W w l) (r : Option Nat) (v : okR l r) : (setOf l r).Ok := (h.ref r v).ok
theorem Pool.step (h : Pool W w l) {w' : World} (e : Ext [] w w') : Pool W w' l :=
  ⟨h.ext.trans e, fun i c hc => ⟨(h.at_ i c hc).1.ext0 e, (h.at_ i c hc).2⟩, h.sep⟩
theorem Pool.lt (h : Pool W w l) {i : Nat} {c : Ent} (hc : l[i]? = some c) : c.1 < w.heap.size ∧ c.2.1 < w.heap.size := ⟨(h.at_ i c hc).1.hdr.lt, (h.at_ i c hc).1.wrd.lt⟩
theorem Pool.push (h : Pool W w l) {w' : World} (e : Ext [] w w') {p b : Nat} (hp : w.heap.size ≤ p) (hb : w.heap.size ≤ b) {C : SetV} (hs : SetAt w' p b C) : Pool W w' (l ++ [(p, b, C)]) := by
  have hW := h.ext.size
  have inv : ∀ (i : Nat) (c : Ent), (l ++ [(p, b, C)])[i]? = some c → (l[i]? = some c ∧ i < l.length) ∨ (i = l.length ∧ c = (p, b, C)) := fun i c hc => by
    rcases Nat.lt_or_ge i l.length with hi | hi
    · rw [List.getElem?_append_left hi] at hc; exact .inl ⟨hc, hi⟩
    · rw [List.getElem?_append_right hi] at hc
      have := (List.getElem?_eq_some_iff.1 hc).1
      simp at this
      have hi' : i = l.length := by omega
      subst hi'
      simp at hc
      exact .inr ⟨rfl, hc.symm⟩
  refine ⟨h.ext.trans e, fun i c hc => ?_, fun i j c d hij hc hd => ?_⟩
  · rcases inv i c hc with ⟨hc, _⟩ | ⟨rfl, rfl⟩
    · exact ⟨(h.at_ i c hc).1.ext0 e, (h.at_ i c hc).2⟩
    · exact ⟨hs, by simp only; omega, by simp only; omega⟩
  · rcases inv i c hc with ⟨hc, _⟩ | ⟨rfl, rfl⟩
    · have l1 := h.lt hc
      rcases inv j d hd with ⟨hd, _⟩ | ⟨rfl, rfl⟩
      · exact h.sep i j c d hij hc hd
      · refine ⟨?_, ?_, ?_, ?_⟩ <;> simp only <;> omega
    · rcases inv j d hd with ⟨hd, _⟩ | ⟨rfl, rfl⟩
      · have l1 := h.lt hd
        refine ⟨?_, ?_, ?_, ?_⟩ <;> simp only <;> omega
      · exact absurd rfl hij
theorem Pool.mut (h : Pool W w l) {i : Nat} (v : i < l.length) {w' : World} (e : Ext [(l.getD i ent0).2.1] w w') {C : SetV} (hs : SetAt w' (l.getD i ent0).1 (l.getD i ent0).2.1 C) : Pool W w' (updE l i C) := by
  have gi := h.at_ i _ (getD_of v)
  refine ⟨h.ext.trans' e (fun x hx => .inr (by simp only [List.mem_singleton] at hx; subst hx; exact gi.2.2)), fun j c hc => ?_, fun j k c d hjk hc hd => ?_⟩
  · unfold updE at hc
    rw [List.getElem?_set] at hc
    split at hc
    · rename_i hij; subst hij
      injection hc with hc; subst hc
      exact ⟨hs, gi.2⟩
    · rename_i hij
      have g := h.at_ j c hc
      have s := h.sep j i c _ (Ne.symm hij) hc (getD_of v)
      exact ⟨g.1.ext e (by simp only [List.mem_singleton]; exact s.2.1) (by simp only [List.mem_singleton]; exact s.2.2.2), g.2⟩
  · have old : ∀ (j : Nat) (c : Ent), (updE l i C)[j]? = some c → ∃ c0 : Ent, l[j]? = some c0 ∧ c0.1 = c.1 ∧ c0.2.1 = c.2.1 := fun j c hc => by
      unfold updE at hc
      rw [List.getElem?_set] at hc
      split at hc
      · rename_i hij; subst hij
        injection hc with hc; subst hc
        exact ⟨_, getD_of v, rfl, rfl⟩
      · exact ⟨c, hc, rfl, rfl⟩
    obtain ⟨c0, hc0, e1, e2⟩ := old j c hc
    obtain ⟨d0, hd0, e3, e4⟩ := old k d hd
    have := h.sep j k c0 d0 hjk hc0 hd0
    rw [e1, e2, e3, e4] at this
    exact this
theorem Pool.regrown (h : Pool W w l) {i : Nat} (v : i < l.length) {w' : World} (e : Ext [(l.getD i ent0).1] w w') {b : Nat} (hb : w.heap.size ≤ b) {C : SetV} (hs : SetAt w' (l.getD i ent0).1 b C) : Pool W w' (l.set i ((l.getD i ent0).1, b, C)) := by
  have gi := h.at_ i _ (getD_of v)
  have hW := h.ext.size
  have inv : ∀ (j : Nat) (c : Ent), (l.set i ((l.getD i ent0).1, b, C))[j]? = some c → (j = i ∧ c = ((l.getD i ent0).1, b, C)) ∨ (j ≠ i ∧ l[j]? = some c) := fun j c hc => by
    rw [List.getElem?_set] at hc
    split at hc
    · rename_i hij; subst hij
      injection hc with hc
      exact .inl ⟨rfl, hc.symm⟩
    · rename_i hij
      exact .inr ⟨Ne.symm hij, hc⟩
  refine ⟨h.ext.trans' e (fun x hx => .inr (by simp only [List.mem_singleton] at hx; subst hx; exact gi.2.1)), fun j c hc => ?_, fun j k c d hjk hc hd => ?_⟩
  · rcases inv j c hc with ⟨rfl, rfl⟩ | ⟨hij, hc⟩
    · exact ⟨hs, gi.2.1, by simp only; omega⟩
    · have g := h.at_ j c hc
      have s := h.sep j i c _ hij hc (getD_of v)
      exact ⟨g.1.ext e (by simp only [List.mem_singleton]; exact s.1) (by simp only [List.mem_singleton]; exact s.2.2.1), g.2⟩
  · rcases inv j c hc with ⟨rfl, rfl⟩ | ⟨hij, hc'⟩
    · rcases inv k d hd with ⟨rfl, rfl⟩ | ⟨hik, hd⟩
      · exact absurd rfl hjk
      · have s := h.sep j k _ d hjk (getD_of v) hd
        have lt := h.lt hd
        refine ⟨s.1, s.2.1, ?_, ?_⟩ <;> simp only <;> omega
    · have lt := h.lt hc'
      rcases inv k d hd with ⟨rfl, rfl⟩ | ⟨hik, hd'⟩
      · have s := h.sep j k c _ hjk hc' (getD_of v)
        refine ⟨s.1, ?_, s.2.2.1, ?_⟩ <;> simp only <;> omega
      · exact h.sep j k c d hjk hc' hd'
variable {R : Ending → World → Prop}
/-! ### the calls -/
theorem Pool.And (h : Pool W w l) (a b : Option Nat) (va : okR l a := by first | trivial | exact Nat.le_of_ble_eq_true rfl) (vb : okR l b := by first | trivial | exact Nat.le_of_ble_eq_true rfl)
    (k : ∀ p q w' C, Pool W w' (l ++ [(p, q, C)]) → C.N = max (setOf l a).N (setOf l b).N → (∀ i, C.mem i = ((setOf l a).mem i && (setOf l b).mem i)) → R (.returned (.pointer (some ⟨p, 0, none⟩))) w') :
    Calls Tryd.prog 28 #[.pointer (ptrOf l a), .pointer (ptrOf l b)] w R :=
  And_c (h.ref a va) (h.ref b vb) fun p q w' C e hp hq hs hN hm => k p q w' C (h.push e hp hq hs) hN hm
theorem Pool.Or (h : Pool W w l) (a b : Option Nat) (va : okR l a := by first | trivial | exact Nat.le_of_ble_eq_true rfl) (vb : okR l b := by first | trivial | exact Nat.le_of_ble_eq_true rfl)
    (k : ∀ p q w' C, Pool W w' (l ++ [(p, q, C)]) → C.N = max (setOf l a).N (setOf l b).N → (∀ i, C.mem i = ((setOf l a).mem i || (setOf l b).mem i)) → R (.returned (.pointer (some ⟨p, 0, none⟩))) w') :
    Calls Tryd.prog 29 #[.pointer (ptrOf l a), .pointer (ptrOf l b)] w R :=
  Or_c (h.ref a va) (h.ref b vb) fun p q w' C e hp hq hs hN hm => k p q w' C (h.push e hp hq hs) hN hm
theorem Pool.Xor (h : Pool W w l) (a b : Option Nat) (va : okR l a := by first | trivial | exact Nat.le_of_ble_eq_true rfl) (vb : okR l b := by first | trivial | exact Nat.le_of_ble_eq_true rfl)
    (k : ∀ p q w' C, Pool W w' (l ++ [(p, q, C)]) → C.N = max (setOf l a).N (setOf l b).N → (∀ i, C.mem i = ((setOf l a).mem i ^^ (setOf l b).mem i)) → R (.returned (.pointer (some ⟨p, 0, none⟩))) w') :
    Calls Tryd.prog 31 #[.pointer (ptrOf l a), .pointer (ptrOf l b)] w R :=
  Xor_c (h.ref a va) (h.ref b vb) fun p q w' C e hp hq hs hN hm => k p q w' C (h.push e hp hq hs) hN hm
theorem Pool.AndNot (h : Pool W w l) (a b : Option Nat) (va : okR l a := by first | trivial | exact Nat.le_of_ble_eq_true rfl) (vb : okR l b := by first | trivial | exact Nat.le_of_ble_eq_true rfl)
    (k : ∀ p q w' C, Pool W w' (l ++ [(p, q, C)]) → C.N = max (setOf l a).N (setOf l b).N → (∀ i, C.mem i = ((setOf l a).mem i && !(setOf l b).mem i)) → R (.returned (.pointer (some ⟨p, 0, none⟩))) w') :
    Calls Tryd.prog 30 #[.pointer (ptrOf l a), .pointer (ptrOf l b)] w R :=
  AndNot_c (h.ref a va) (h.ref b vb) fun p q w' C e hp hq hs hN hm => k p q w' C (h.push e hp hq hs) hN hm
theorem Pool.Not (h : Pool W w l) (a b : Option Nat) (va : okR l a := by first | trivial | exact Nat.le_of_ble_eq_true rfl) (vb : okR l b := by first | trivial | exact Nat.le_of_ble_eq_true rfl)
    (k : ∀ p q w' C, Pool W w' (l ++ [(p, q, C)]) → C.N = (setOf l b).N → (∀ i, C.mem i = ((setOf l b).mem i && !(setOf l a).mem i)) → R (.returned (.pointer (some ⟨p, 0, none⟩))) w') :
    Calls Tryd.prog 32 #[.pointer (ptrOf l a), .pointer (ptrOf l b)] w R :=
  Not_c (h.ref a va) (h.ref b vb) fun p q w' C e hp hq hs hN hm => k p q w' C (h.push e hp hq hs) hN hm
theorem Pool.Clone (h : Pool W w l) (a : Option Nat) (va : okR l a := by first | trivial | exact Nat.le_of_ble_eq_true rfl)
    (k : ∀ p q w', Pool W w' (l ++ [(p, q, setOf l a)]) → R (.returned (.pointer (some ⟨p, 0, none⟩))) w') :
    Calls Tryd.prog 27 #[.pointer (ptrOf l a)] w R :=
  Clone_c (h.ref a va) fun p q w' e hp hq hs => k p q w' (h.push e hp hq hs)
theorem Pool.of (h : Pool W w l) {n : Nat} (hn : n ≤ 65536) {A : Option Addr} {la ca : Nat} {xs : List Int} (hx : Ints w .i64 A la xs) (hl : la * 8 ≤ 140737488355328)
    (k : ∀ p q w' C, Ext [] w w' → Pool W w' (l ++ [(p, q, C)]) → C.N = n → (∀ i : Nat, C.mem i = (decide (i < n) && decide ((i : Int) ∈ xs))) → R (.returned (.pointer (some ⟨p, 0, none⟩))) w') :
    Calls Tryd.prog 8 #[.int .i64 (n : Int), .slice A la ca] w R :=
  of_c hn hx hl fun p q w' C e hp hq hs hN hm => k p q w' C e (h.push e hp hq hs) hN hm
theorem Pool.New (h : Pool W w l) {n : Nat} (hn : n ≤ 65536)
    (k : ∀ p q w' C, Pool W w' (l ++ [(p, q, C)]) → C.N = n → (∀ i : Nat, C.mem i = false) → R (.returned (.tuple #[.pointer (some ⟨p, 0, none⟩), .int .i64 0])) w') :
    Calls Tryd.prog 57 #[.int .i64 (n : Int)] w R :=
  New_ok hn fun p q w' e hp hq hs => k p q w' _ (h.push e hp hq hs) rfl (fun i => zeros_mem n i)
theorem Pool.Equal (h : Pool W w l) (a b : Option Nat) (va : okR l a := by first | trivial | exact Nat.le_of_ble_eq_true rfl) (vb : okR l b := by first | trivial | exact Nat.le_of_ble_eq_true rfl)
    (k : ∀ t : Bool, (t = true ↔ ∀ i, (setOf l a).mem i = (setOf l b).mem i) → R (.returned (.bool t)) w) :
    Calls Tryd.prog 34 #[.pointer (ptrOf l a), .pointer (ptrOf l b)] w R := Equal_c (h.ref a va) (h.ref b vb) k
theorem Pool.Size (h : Pool W w l) (a : Option Nat) (va : okR l a := by first | trivial | exact Nat.le_of_ble_eq_true rfl) (k : R (.returned (.int .i64 (((setOf l a).N : Nat) : Int))) w) :
    Calls Tryd.prog 9 #[.pointer (ptrOf l a)] w R := Size_c (h.ref a va) k
theorem Pool.Count (h : Pool W w l) (a : Option Nat) (va : okR l a := by first | trivial | exact Nat.le_of_ble_eq_true rfl) (k : R (.returned (.int .i64 (((setOf l a).count : Nat) : Int))) w) :
    Calls Tryd.prog 11 #[.pointer (ptrOf l a)] w R := Count_c (h.ref a va) k
theorem Pool.Members (h : Pool W w l) (a : Option Nat) (va : okR l a := by first | trivial | exact Nat.le_of_ble_eq_true rfl)
    (k : ∀ A c w', Ext [] w w' → Pool W w' l → w'.ownsRow w.heap.size 3 1 (.slice A (setOf l a).count c) (setOf l a).count (ints .i64 (setOf l a).mi) → R (.returned (.slice A (setOf l a).count c)) w') :
    Calls Tryd.prog 10 #[.pointer (ptrOf l a)] w R := Members_c (h.ref a va) fun A c w' e own => k A c w' e (h.step e) own
theorem Pool.Add (h : Pool W w l) (a : Nat) (i : Int) (va : a < l.length := by exact Nat.le_of_ble_eq_true rfl)
    (k : ∀ w' C t, Ext [(l.getD a ent0).2.1] w w' → Pool W w' (updE l a C) → C.N = (setOf l (some a)).N → (∀ j, C.mem j = ((setOf l (some a)).mem j || decide (0 ≤ i ∧ i < (((setOf l (some a)).N : Nat) : Int) ∧ (j : Int) = i))) → t = (decide (0 ≤ i ∧ i < (((setOf l (some a)).N : Nat) : Int)) && !(setOf l (some a)).has i) → R (.returned (.bool t)) w') :
    Calls Tryd.prog 18 #[.pointer (ptrOf l (some a)), .int .i64 i] w R :=
  Add_c (h.get va) i fun w' T t e hs hN hm ht => k w' T t e (h.mut va e hs) hN hm ht
theorem Pool.Remove (h : Pool W w l) (a : Nat) (i : Int) (va : a < l.length := by exact Nat.le_of_ble_eq_true rfl)
    (k : ∀ w' C t, Ext [(l.getD a ent0).2.1] w w' → Pool W w' (updE l a C) → C.N = (setOf l (some a)).N → (∀ j, C.mem j = ((setOf l (some a)).mem j && !decide ((j : Int) = i))) → t = (setOf l (some a)).has i → R (.returned (.bool t)) w') :
    Calls Tryd.prog 19 #[.pointer (ptrOf l (some a)), .int .i64 i] w R :=
  Remove_c (h.get va) i fun w' T t e hs hN hm ht => k w' T t e (h.mut va e hs) hN hm ht
theorem Pool.rd (h : Pool W w l) (a : Nat) (b : Option Nat) (F : Nat → Nat) (va : a < l.length) (vb : okR l b) : Rd w (l.getD a ent0).1 (l.getD a ent0).2.1 (l.getD a ent0).2.2 F (ptrOf l b) (setOf l b) := by
  by_cases hab : b = some a
  · subst hab; exact Rd.self F
  · refine Rd.other (h.ref b vb) ?_
    cases b with
    | none => simp [blksOf]
    | some j =>
      have s := h.sep a j _ _ (fun e => hab (by rw [e])) (getD_of va) (getD_of vb)
      unfold blksOf
      simp only [List.mem_cons, List.not_mem_nil, or_false, not_or]
      exact ⟨s.2.2.1, s.2.2.2⟩
theorem Pool.OrWith (h : Pool W w l) (a : Nat) (b : Option Nat) (va : a < l.length := by exact Nat.le_of_ble_eq_true rfl) (vb : okR l b := by first | trivial | exact Nat.le_of_ble_eq_true rfl)
    (k : ∀ w' C, Ext [(l.getD a ent0).2.1] w w' → Pool W w' (updE l a C) → C.N = (setOf l (some a)).N → (∀ j, C.mem j = ((setOf l (some a)).mem j || (decide (j < (setOf l (some a)).N) && (setOf l b).mem j))) → R (.returned undef) w') :
    Calls Tryd.prog 23 #[.pointer (ptrOf l (some a)), .pointer (ptrOf l b)] w R :=
  OrWith_c (h.get va) (h.ok b vb) (h.rd a b _ va vb) fun w' C e hs hN hm => k w' C e (h.mut va e hs) hN hm
theorem Pool.AndWith (h : Pool W w l) (a : Nat) (b : Option Nat) (va : a < l.length := by exact Nat.le_of_ble_eq_true rfl) (vb : okR l b := by first | trivial | exact Nat.le_of_ble_eq_true rfl)
    (k : ∀ w' C, Ext [(l.getD a ent0).2.1] w w' → Pool W w' (updE l a C) → C.N = (setOf l (some a)).N → (∀ j, C.mem j = ((setOf l (some a)).mem j && (setOf l b).mem j)) → R (.returned undef) w') :
    Calls Tryd.prog 22 #[.pointer (ptrOf l (some a)), .pointer (ptrOf l b)] w R :=
  AndWith_c (h.get va) (h.ok b vb) (h.rd a b _ va vb) fun w' C e hs hN hm => k w' C e (h.mut va e hs) hN hm
theorem Pool.AndNotWith (h : Pool W w l) (a : Nat) (b : Option Nat) (va : a < l.length := by exact Nat.le_of_ble_eq_true rfl) (vb : okR l b := by first | trivial | exact Nat.le_of_ble_eq_true rfl)
    (k : ∀ w' C, Ext [(l.getD a ent0).2.1] w w' → Pool W w' (updE l a C) → C.N = (setOf l (some a)).N → (∀ j, C.mem j = ((setOf l (some a)).mem j && !(setOf l b).mem j)) → R (.returned undef) w') :
    Calls Tryd.prog 24 #[.pointer (ptrOf l (some a)), .pointer (ptrOf l b)] w R :=
  AndNotWith_c (h.get va) (h.ok b vb) (h.rd a b _ va vb) fun w' C e hs hN hm => k w' C e (h.mut va e hs) hN hm
theorem Pool.Grow (h : Pool W w l) (a : Nat) (n : Int) (va : a < l.length := by exact Nat.le_of_ble_eq_true rfl)
    (kbad : n < 0 ∨ 65536 < n → R (.returned (.int .i64 11)) w)
    (kless : 0 ≤ n → n < (((setOf l (some a)).N : Nat) : Int) → R (.returned (.int .i64 13)) w)
    (k : ∀ b w' C, (((setOf l (some a)).N : Nat) : Int) ≤ n → n ≤ 65536 → Pool W w' (l.set a ((l.getD a ent0).1, b, C)) → (C.N : Int) = n → (∀ i, C.mem i = (setOf l (some a)).mem i) → R (.returned (.int .i64 0)) w') :
    Calls Tryd.prog 21 #[.pointer (ptrOf l (some a)), .int .i64 n] w R :=
  Grow_c (h.get va) n kbad kless fun b w' T h1 h2 e hb hs hN hm => k b w' T h1 h2 (h.regrown va e hb hs) hN hm
end
end Go.Proofs.YtbaglnffgbnekaaDoor
