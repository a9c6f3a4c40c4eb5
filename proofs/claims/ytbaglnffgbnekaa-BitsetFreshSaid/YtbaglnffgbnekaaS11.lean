/- Sets that are turned at a place and asked again: what 'fresh' does. -/
import Derived.Test.YtbaglnffgbnekaaS10
set_option linter.unusedVariables false
set_option linter.unusedSimpArgs false
namespace Go.Proofs.Ytbaglnffgbnekaa
open Go Go.V Go.B

def updR (l : List Ent) : Option Nat → SetV → List Ent
  | none, _ => l
  | some i, C => updE l i C
theorem updE_len (l : List Ent) (i : Nat) (C : SetV) : (updE l i C).length = l.length := by simp [updE]
theorem updR_len (l : List Ent) (r : Option Nat) (C : SetV) : (updR l r C).length = l.length := by cases r <;> simp [updR, updE_len]
theorem okR_of {l m : List Ent} (h : l.length = m.length) {r : Option Nat} (v : okR l r) : okR m r := by
  cases r with
  | none => trivial
  | some i => unfold okR at v ⊢; omega
theorem okR_app {l : List Ent} (m : List Ent) {r : Option Nat} (v : okR l r) : okR (l ++ m) r := by
  cases r with
  | none => trivial
  | some i => unfold okR at v ⊢; simp; omega
theorem updE_get {l : List Ent} {i : Nat} (v : i < l.length) (C : SetV) (j : Nat) : (updE l i C).getD j ent0 = if j = i then ((l.getD i ent0).1, (l.getD i ent0).2.1, C) else l.getD j ent0 := by
  unfold updE
  simp only [List.getD_eq_getElem?_getD, List.getElem?_set]
  by_cases h : i = j
  · subst h; simp [v]
  · simp [h, Ne.symm h]
theorem ptrOf_upd {l : List Ent} {r : Option Nat} (v : okR l r) (C : SetV) (s : Option Nat) : ptrOf (updR l r C) s = ptrOf l s := by
  cases r with
  | none => rfl
  | some i =>
    cases s with
    | none => rfl
    | some j =>
      show (some (⟨((updE l i C).getD j ent0).1, 0, none⟩ : Addr)) = some ⟨(l.getD j ent0).1, 0, none⟩
      rw [updE_get v]
      split
      · rename_i h; subst h; rfl
      · rfl
theorem setOf_upd {l : List Ent} {r : Option Nat} (v : okR l r) (C : SetV) (s : Option Nat) : setOf (updR l r C) s = if s = r then (if r = none then SetV.nil else C) else setOf l s := by
  cases r with
  | none =>
    cases s with
    | none => rfl
    | some j => simp [updR, setOf]
  | some i =>
    cases s with
    | none => simp [setOf]
    | some j =>
      simp only [updR, setOf, updE_get v, Option.some.injEq, reduceCtorEq, if_false]
      split <;> rfl
theorem setOf_upd_other {l : List Ent} {r : Option Nat} (v : okR l r) (C : SetV) {s : Option Nat} (h : s ≠ r) : setOf (updR l r C) s = setOf l s := by rw [setOf_upd v, if_neg h]
theorem updR_back {l : List Ent} {r : Option Nat} (v : okR l r) (C : SetV) : updR (updR l r C) r (setOf l r) = l := by
  cases r with
  | none => rfl
  | some i =>
    show updE (updE l i C) i (setOf l (some i)) = l
    have e := updE_get v C i
    rw [if_pos rfl] at e
    unfold updE at e ⊢
    rw [e, List.set_set]
    show l.set i ((l.getD i ent0).1, (l.getD i ent0).2.1, (l.getD i ent0).2.2) = l
    apply List.ext_getElem?
    intro j
    rw [List.getElem?_set]
    split
    · rename_i h; subst h
      rw [getD_of v]; simp [show i < l.length from v]
    · rfl
theorem app_get {l m : List Ent} {i : Nat} (v : i < l.length) : (l ++ m).getD i ent0 = l.getD i ent0 := by
  simp [List.getD_eq_getElem?_getD, List.getElem?_append_left v]
theorem ptrOf_app {l m : List Ent} {r : Option Nat} (v : okR l r) : ptrOf (l ++ m) r = ptrOf l r := by
  cases r with
  | none => rfl
  | some i => show some (⟨((l ++ m).getD i ent0).1, 0, none⟩ : Addr) = some ⟨(l.getD i ent0).1, 0, none⟩; rw [app_get (show i < l.length from v)]
theorem setOf_app {l m : List Ent} {r : Option Nat} (v : okR l r) : setOf (l ++ m) r = setOf l r := by
  cases r with
  | none => rfl
  | some i => show ((l ++ m).getD i ent0).2.2 = (l.getD i ent0).2.2; rw [app_get (show i < l.length from v)]
theorem last_get (l : List Ent) (c : Ent) (m : List Ent) : (l ++ c :: m).getD l.length ent0 = c := by
  simp [List.getD_eq_getElem?_getD]

/-- A list that shares no block with the sets. -/
def Apart (l : List Ent) (A : Option Addr) : Prop := ∀ ad, A = some ad → ∀ (i : Nat), i < l.length → ad.block ≠ (l.getD i ent0).1 ∧ ad.block ≠ (l.getD i ent0).2.1
theorem Apart.upd {l : List Ent} {A : Option Addr} {r : Option Nat} (v : okR l r) (C : SetV) : Apart (updR l r C) A ↔ Apart l A := by
  have e : ∀ i, ((updR l r C).getD i ent0).1 = (l.getD i ent0).1 ∧ ((updR l r C).getD i ent0).2.1 = (l.getD i ent0).2.1 := fun i => by
    cases r with
    | none => exact ⟨rfl, rfl⟩
    | some j =>
      show ((updE l j C).getD i ent0).1 = _ ∧ ((updE l j C).getD i ent0).2.1 = _
      rw [updE_get v]
      split
      · rename_i h; subst h; exact ⟨rfl, rfl⟩
      · exact ⟨rfl, rfl⟩
  unfold Apart
  simp only [updR_len, (e _).1, (e _).2]
/-- Lists that share no block with the sets stay. -/
def Rows (l : List Ent) (w w' : World) : Prop := ∀ A n xs, Ints w .i64 A n xs → Apart l A → Ints w' .i64 A n xs
theorem Rows.refl (l : List Ent) (w : World) : Rows l w w := fun _ _ _ h _ => h
theorem Rows.ext0 {l : List Ent} {w w' : World} (e : Ext [] w w') : Rows l w w' := fun _ _ _ h _ => h.ext0 e
theorem Rows.trans {l : List Ent} {a b c : World} (h : Rows l a b) (k : Rows l b c) : Rows l a c := fun A n xs hi ha => k A n xs (h A n xs hi ha) ha
theorem Rows.mut {l : List Ent} {w w' : World} {i : Nat} (v : i < l.length) (e : Ext [(l.getD i ent0).2.1] w w') : Rows l w w' := fun A n xs hi ha =>
  hi.ext e fun ad had => by simp only [List.mem_singleton]; exact (ha ad had i v).2
section
variable {W w : World} {l : List Ent} {R : Ending → World → Prop}
theorem Pool.take (h : Pool W w l) {m : List Ent} (e : ∃ t, l = m ++ t) : Pool W w m := by
  obtain ⟨t, rfl⟩ := e
  have up : ∀ (i : Nat) (c : Ent), m[i]? = some c → (m ++ t)[i]? = some c := fun i c hc => by
    rw [List.getElem?_append_left (List.getElem?_eq_some_iff.1 hc).1]; exact hc
  exact ⟨h.ext, fun i c hc => h.at_ i c (up i c hc), fun i j c d hij hc hd => h.sep i j c d hij (up i c hc) (up j d hd)⟩
theorem turn_p (h : Pool W w l) (r : Option Nat) (v : okR l r) {q : Option Addr} (hq : ptrOf l r = q) (i : Int)
    (k : ∀ w' C, Pool W w' (updR l r C) → C.Ok → C.N = (setOf l r).N → (∀ j : Nat, C.mem j = ((setOf l r).mem j ^^ decide (0 ≤ i ∧ i < (((setOf l r).N : Nat) : Int) ∧ (j : Int) = i))) → Rows l w w' → R (.returned undef) w') :
    Calls Try.prog 71 #[.pointer q, .int .i64 i] w R := by
  subst hq
  apply berthlaw01_turn_nf
  cases r with
  | none =>
    refine Add_nil ⟨_, rfl, sel_true rfl (Remove_nil ⟨_, rfl, ?_⟩)⟩
    refine k w SetV.nil h SetV.Ok.nil rfl (fun j => ?_) (Rows.refl _ _)
    have : ¬ (0 ≤ i ∧ i < (((setOf l none).N : Nat) : Int) ∧ (j : Int) = i) := by
      show ¬ (0 ≤ i ∧ i < ((0 : Nat) : Int) ∧ (j : Int) = i)
      omega
    simp only [this, decide_false, Bool.xor_false]; rfl
  | some n =>
    have v' : n < l.length := v
    have oS := h.ok (some n) v
    refine h.Add n i v' (k := fun w1 C t e1 K1 nC mC ht => ⟨_, rfl, ?_⟩)
    generalize hS : setOf l (some n) = S at *
    have hlen := updE_len l n C
    have hC : setOf (updE l n C) (some n) = C := by
      have := setOf_upd (r := some n) v C (some n)
      simpa [updR] using this
    have oC := K1.ok (some n) (by show n < _; omega)
    rw [hC] at oC
    by_cases hin : 0 ≤ i ∧ i < ((S.N : Nat) : Int)
    · obtain ⟨x, rfl⟩ : ∃ x : Nat, i = x := ⟨i.toNat, by omega⟩
      rw [SetV.has_nat] at ht
      cases hx : S.mem x with
      | false =>
        have : t = true := by rw [ht, hx]; simp; omega
        rw [this]
        refine sel_false rfl (k w1 C K1 oC nC (fun j => ?_) (Rows.mut v' e1))
        rw [mC]
        by_cases hj : (j : Int) = (x : Int)
        · have : j = x := by omega
          subst this; simp [hx, hin]
        · simp [hj]
      | true =>
        have : t = false := by rw [ht, hx]; simp
        rw [this]
        refine sel_true rfl ?_
        have hCS : C = S := SetV.ext_mem oC oS nC fun j => by
          rw [mC]
          by_cases hj : (j : Int) = (x : Int)
          · have : j = x := by omega
            subst this; simp [hx]
          · simp [hj]
        have hp : ptrOf l (some n) = ptrOf (updE l n C) (some n) := (ptrOf_upd (r := some n) v C (some n)).symm
        rw [hp]
        refine K1.Remove n (x : Int) (by omega) (k := fun w2 D t2 e2 K2 nD mD ht2 => ⟨_, rfl, ?_⟩)
        rw [hC] at nD mD
        have e3 : updE (updE l n C) n D = updE l n D := by
          have := updE_get v' C n
          rw [if_pos rfl] at this
          unfold updE at this ⊢
          rw [this, List.set_set]
        rw [e3] at K2
        have oD := K2.ok (some n) (by show n < _; rw [updE_len]; omega)
        have hD : setOf (updE l n D) (some n) = D := by
          have := setOf_upd (r := some n) v D (some n)
          simpa [updR] using this
        rw [hD] at oD
        have e2' : Ext [(l.getD n ent0).2.1] w1 w2 := by
          have := updE_get v' C n
          rw [if_pos rfl] at this
          rw [this] at e2; exact e2
        refine k w2 D K2 oD (by rw [nD, hCS]) (fun j => ?_) ((Rows.mut v' e1).trans (Rows.mut v' e2'))
        rw [mD, hCS]
        by_cases hj : (j : Int) = (x : Int)
        · have : j = x := by omega
          subst this; simp [hx, hin]
        · simp [hj]
    · have : t = false := by rw [ht]; simp; omega
      rw [this]
      refine sel_true rfl ?_
      have nomem : ∀ j : Nat, ¬ (0 ≤ i ∧ i < ((S.N : Nat) : Int) ∧ (j : Int) = i) := fun j hj => hin ⟨hj.1, hj.2.1⟩
      have hCS : C = S := SetV.ext_mem oC oS nC fun j => by rw [mC]; simp [nomem j]
      have hp : ptrOf l (some n) = ptrOf (updE l n C) (some n) := (ptrOf_upd (r := some n) v C (some n)).symm
      rw [hp]
      refine K1.Remove n i (by omega) (k := fun w2 D t2 e2 K2 nD mD ht2 => ⟨_, rfl, ?_⟩)
      rw [hC] at nD mD
      have e3 : updE (updE l n C) n D = updE l n D := by
        have := updE_get v' C n
        rw [if_pos rfl] at this
        unfold updE at this ⊢
        rw [this, List.set_set]
      rw [e3] at K2
      have oD := K2.ok (some n) (by show n < _; rw [updE_len]; omega)
      have hD : setOf (updE l n D) (some n) = D := by
        have := setOf_upd (r := some n) v D (some n)
        simpa [updR] using this
      rw [hD] at oD
      have e2' : Ext [(l.getD n ent0).2.1] w1 w2 := by
        have := updE_get v' C n
        rw [if_pos rfl] at this
        rw [this] at e2; exact e2
      refine k w2 D K2 oD (by rw [nD, hCS]) (fun j => ?_) ((Rows.mut v' e1).trans (Rows.mut v' e2'))
      rw [mD, hCS]
      have h1 := nomem j
      by_cases hj : (j : Int) = i
      · have hout : S.mem j = false := oS.tail j (by omega)
        simp [hj, hout]; omega
      · simp [hj]
theorem row_p (h : Pool W w l) (r : Option Nat) (v : okR l r) {q : Option Addr} (hq : ptrOf l r = q)
    (k : ∀ A c w', Ext [] w w' → Pool W w' l → Ints w' .i64 A (setOf l r).count (setOf l r).mi → Apart l A → R (.returned (.slice A (setOf l r).count c)) w') :
    Calls Try.prog 21 #[.pointer q] w R := by
  subst hq
  refine h.Members r v (k := fun A c w' e K own => k A c w' e K (own_ints own) fun ad had i hi => ?_)
  have hb := own_base own ad.block (by rw [had]; simp [ownF])
  have lt := h.lt (getD_of hi)
  omega
theorem same_p (h : Pool W w l) (r : Option Nat) (v : okR l r) {q : Option Addr} (hq : ptrOf l r = q) {A0 : Option Addr} {n0 c0 : Nat} {xs0 : List Int} (hr : Ints w .i64 A0 n0 xs0) (heq : (setOf l r).mi = xs0) {Q : Bool → World → Prop}
    (k : ∀ w', Ext [] w w' → Pool W w' l → Q true w') :
    Calls Try.prog 21 #[.pointer q] w fun e1 w1 => ∃ A1, ∃ A1l, ∃ A1c, e1 = .returned (.slice A1 A1l A1c) ∧ Calls Try.prog 18 #[.slice A1 A1l A1c, .slice A0 n0 c0] w1 fun e2 w2 => ∃ b, e2 = .returned (.bool b) ∧ Q b w2 := by
  have hc := count_le (h.ok r v)
  refine row_p h r v hq fun A c w1 e1 K1 hi _ => ⟨_, _, _, rfl, ?_⟩
  refine SameInts_c hi (hr.ext0 e1) (by omega) fun w2 e2 => ⟨_, rfl, ?_⟩
  rw [heq]
  simp only [decide_true]
  exact k w2 (e1.trans e2) (K1.step e2)
end
end Go.Proofs.Ytbaglnffgbnekaa
