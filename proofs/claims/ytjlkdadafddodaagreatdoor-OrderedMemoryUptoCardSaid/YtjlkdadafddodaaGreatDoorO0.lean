/- Ordered: columns of rows, and what Put and Del make of them; no program. -/
import Derived.Test.YtjlkdadafddodaaGreatDoorS5
import Derived.Test.YtjlkdadafddodaaGreatDoorRg
set_option linter.unusedVariables false
set_option linter.unusedSimpArgs false
namespace Go.Proofs.YtjlkdadafddodaaGreatDoor
open Go Go.V Go.B

/-- A row: its number, its set and where that lies. -/
structure Rw where
  n : Int
  p : Nat
  b : Nat
  S : SetV
/-- A column and where it lies. -/
structure Cl where
  c : Nat
  A : Option Addr
  cp : Nat
  m : Nat
  rows : List Rw
  of : List (Int × Int)
def Rising (rows : List Rw) : Prop := rows.Pairwise (fun r s => r.n < s.n)
structure ClOk (N : Nat) (C : Cl) : Prop where
  rise : Rising C.rows
  size : ∀ r ∈ C.rows, r.S.N = N
  tell : ∀ (i : Nat) (n : Int), mget C.of (i : Int) = some n ↔ ∃ r ∈ C.rows, r.n = n ∧ r.S.mem i = true
  keys : ∀ k n, mget C.of k = some n → ∃ i : Nat, k = (i : Int) ∧ i < N
def Cl.full (C : Cl) : Prop := ∀ r ∈ C.rows, ∃ i, r.S.mem i = true
theorem Rising.at_ {rows : List Rw} (h : Rising rows) {i j : Nat} {r s : Rw} (hi : rows[i]? = some r) (hj : rows[j]? = some s) (hij : i < j) : r.n < s.n := by
  obtain ⟨h1, e1⟩ := List.getElem?_eq_some_iff.1 hi
  obtain ⟨h2, e2⟩ := List.getElem?_eq_some_iff.1 hj
  have := List.pairwise_iff_getElem.1 h i j h1 h2 hij
  rw [e1, e2] at this; exact this
theorem Rising.idx {rows : List Rw} (h : Rising rows) {i j : Nat} {r s : Rw} (hi : rows[i]? = some r) (hj : rows[j]? = some s) (e : r.n = s.n) : i = j := by
  rcases Nat.lt_trichotomy i j with hl | hl | hl
  · have := h.at_ hi hj hl; omega
  · exact hl
  · have := h.at_ hj hi hl; omega
theorem Rising.uniq {rows : List Rw} (h : Rising rows) {r s : Rw} (hr : r ∈ rows) (hs : s ∈ rows) (e : r.n = s.n) : r = s := by
  obtain ⟨i, hi⟩ := List.mem_iff_getElem?.1 hr
  obtain ⟨j, hj⟩ := List.mem_iff_getElem?.1 hs
  have := h.idx hi hj e
  subst this
  rw [hi] at hj; exact Option.some.inj hj
theorem mem_set_iff {rows : List Rw} (h : Rising rows) {i : Nat} {r x s : Rw} (hi : rows[i]? = some r) : s ∈ rows.set i x ↔ s = x ∨ (s ∈ rows ∧ s.n ≠ r.n) := by
  have hl := (List.getElem?_eq_some_iff.1 hi).1
  constructor
  · intro hs
    obtain ⟨j, hj⟩ := List.mem_iff_getElem?.1 hs
    rw [List.getElem?_set] at hj
    split at hj
    · rename_i e; subst e
      exact .inl (Option.some.inj (by simpa [hl] using hj)).symm
    · rename_i e
      exact .inr ⟨List.mem_of_getElem? hj, fun en => e (h.idx hi hj en.symm)⟩
  · rintro (rfl | ⟨hs, hne⟩)
    · exact List.mem_of_getElem? (i := i) (by rw [List.getElem?_set, if_pos rfl, if_pos hl])
    · obtain ⟨j, hj⟩ := List.mem_iff_getElem?.1 hs
      refine List.mem_of_getElem? (i := j) ?_
      rw [List.getElem?_set, if_neg (fun e => ?_)]
      · exact hj
      · subst e; rw [hi] at hj; cases hj; exact hne rfl
theorem mem_erase_iff {rows : List Rw} (h : Rising rows) {i : Nat} {r s : Rw} (hi : rows[i]? = some r) : s ∈ rows.eraseIdx i ↔ s ∈ rows ∧ s.n ≠ r.n := by
  constructor
  · intro hs
    obtain ⟨j, hji, hj⟩ := List.mem_eraseIdx_iff_getElem?.1 hs
    exact ⟨List.mem_of_getElem? hj, fun en => hji (h.idx hj hi en)⟩
  · rintro ⟨hs, hne⟩
    obtain ⟨j, hj⟩ := List.mem_iff_getElem?.1 hs
    refine List.mem_eraseIdx_iff_getElem?.2 ⟨j, fun e => ?_, hj⟩
    subst e; rw [hi] at hj; cases hj; exact hne rfl
def insAt (rows : List Rw) (i : Nat) (x : Rw) : List Rw := rows.take i ++ x :: rows.drop i
theorem mem_ins_iff {rows : List Rw} {i : Nat} {x s : Rw} : s ∈ insAt rows i x ↔ s = x ∨ s ∈ rows := by
  have e : s ∈ rows ↔ s ∈ rows.take i ∨ s ∈ rows.drop i := by
    rw [← List.mem_append, List.take_append_drop]
  unfold insAt
  rw [e, List.mem_append, List.mem_cons]
  constructor
  · rintro (h | h | h)
    · exact .inr (.inl h)
    · exact .inl h
    · exact .inr (.inr h)
  · rintro (h | h | h)
    · exact .inr (.inl h)
    · exact .inl h
    · exact .inr (.inr h)
theorem ins_at {rows : List Rw} {i : Nat} {x : Rw} (h : i ≤ rows.length) : (insAt rows i x)[i]? = some x := by
  unfold insAt
  rw [List.getElem?_append_right (by simp; omega)]
  have : i - (rows.take i).length = 0 := by simp; omega
  rw [this]; rfl
theorem ins_len {rows : List Rw} {i : Nat} {x : Rw} (h : i ≤ rows.length) : (insAt rows i x).length = rows.length + 1 := by
  unfold insAt
  simp; omega
/-- The place of the first row that isn't below n. -/
structure Place (rows : List Rw) (n : Int) (i : Nat) : Prop where
  le : i ≤ rows.length
  lo : ∀ r ∈ rows.take i, r.n < n
  hi : ∀ r ∈ rows.drop i, n ≤ r.n
theorem Place.split {rows : List Rw} {n : Int} {i : Nat} (h : Place rows n i) {r : Rw} (hr : r ∈ rows) : r ∈ rows.take i ∧ r.n < n ∨ r ∈ rows.drop i ∧ n ≤ r.n := by
  rw [← List.take_append_drop i rows, List.mem_append] at hr
  rcases hr with hr | hr
  · exact .inl ⟨hr, h.lo r hr⟩
  · exact .inr ⟨hr, h.hi r hr⟩
theorem drop_head {rows : List Rw} {i : Nat} {r : Rw} (h : r ∈ rows.drop i) : ∃ j, i ≤ j ∧ rows[j]? = some r := by
  obtain ⟨j, hj⟩ := List.mem_iff_getElem?.1 h
  rw [List.getElem?_drop] at hj
  exact ⟨i + j, by omega, hj⟩
/-- Where a row has the number, it stands at its place. -/
theorem Place.here {rows : List Rw} (hr : Rising rows) {n : Int} {i : Nat} (h : Place rows n i) {r : Rw} (hm : r ∈ rows) (e : r.n = n) : rows[i]? = some r := by
  rcases h.split hm with ⟨_, h2⟩ | ⟨h1, h2⟩
  · omega
  · obtain ⟨j, hj, hjr⟩ := drop_head h1
    have hl := (List.getElem?_eq_some_iff.1 hjr).1
    rcases Nat.eq_or_lt_of_le hj with he | hlt
    · subst he; exact hjr
    · have hi : rows[i]? = some (rows[i]'(by omega)) := List.getElem?_eq_getElem (by omega)
      have h3 := hr.at_ hi hjr hlt
      have h4 := h.hi (rows[i]'(by omega)) (List.mem_of_getElem? (i := 0) (by rw [List.getElem?_drop]; simp))
      omega
/-- Where none has it, what stands at its place has another. -/
theorem Place.fresh {rows : List Rw} {n : Int} {i : Nat} (hr : Rising rows) (h : Place rows n i) (hno : ∀ r, rows[i]? = some r → r.n ≠ n) : ∀ r ∈ rows, r.n ≠ n := fun r hm e => hno r (h.here hr hm e) e
theorem Rising.ins {rows : List Rw} (hr : Rising rows) {n : Int} {i : Nat} (h : Place rows n i) (hno : ∀ r ∈ rows, r.n ≠ n) {x : Rw} (hx : x.n = n) : Rising (insAt rows i x) := by
  have e := List.take_append_drop i rows
  have hp : Rising (rows.take i ++ rows.drop i) := by rw [e]; exact hr
  obtain ⟨h1, h2, h3⟩ := List.pairwise_append.1 hp
  refine List.pairwise_append.2 ⟨h1, List.pairwise_cons.2 ⟨fun s hs => ?_, h2⟩, fun a ha b hb => ?_⟩
  · have := h.hi s hs
    have := hno s (by rw [← e]; exact List.mem_append.2 (.inr hs))
    omega
  · rcases List.mem_cons.1 hb with rfl | hb
    · have := h.lo a ha; omega
    · exact h3 a ha b hb
theorem Rising.set {rows : List Rw} (hr : Rising rows) {i : Nat} {r x : Rw} (hi : rows[i]? = some r) (hx : x.n = r.n) : Rising (rows.set i x) := by
  have hl := (List.getElem?_eq_some_iff.1 hi).1
  refine List.pairwise_iff_getElem.2 fun a b ha hb hab => ?_
  have key : ∀ (j : Nat) (hj : j < (rows.set i x).length), ∃ s, rows[j]? = some s ∧ ((rows.set i x)[j]).n = s.n := fun j hj => by
    have hj' : j < rows.length := by simpa using hj
    refine ⟨rows[j], List.getElem?_eq_getElem hj', ?_⟩
    rw [List.getElem_set]
    split
    · rename_i e; subst e
      rw [List.getElem?_eq_getElem hl] at hi
      rw [hx, ← Option.some.inj hi]
    · rfl
  obtain ⟨s, hs, es⟩ := key a ha
  obtain ⟨t, ht, et⟩ := key b hb
  rw [es, et]; exact hr.at_ hs ht hab
theorem Rising.erase {rows : List Rw} (hr : Rising rows) (i : Nat) : Rising (rows.eraseIdx i) := List.Pairwise.sublist (List.eraseIdx_sublist rows i) hr

theorem ClOk.ins {N : Nat} {C : Cl} (h : ClOk N C) {n : Int} {i : Nat} (hp : Place C.rows n i) (hno : ∀ r ∈ C.rows, r.n ≠ n) {x : Rw} (hx : x.n = n) (hN : x.S.N = N) (h0 : ∀ j, x.S.mem j = false) (A : Option Addr) (cp : Nat) : ClOk N { C with rows := insAt C.rows i x, A := A, cp := cp } :=
  ⟨h.rise.ins hp hno hx, fun r hr => by
    rcases mem_ins_iff.1 hr with rfl | hr
    · exact hN
    · exact h.size r hr, fun j m => by
    rw [h.tell]
    constructor
    · rintro ⟨r, hr, h1, h2⟩
      exact ⟨r, mem_ins_iff.2 (.inr hr), h1, h2⟩
    · rintro ⟨r, hr, h1, h2⟩
      rcases mem_ins_iff.1 hr with rfl | hr
      · rw [h0] at h2; cases h2
      · exact ⟨r, hr, h1, h2⟩, h.keys⟩
theorem ClOk.add {N : Nat} {C : Cl} (h : ClOk N C) {i : Nat} {r : Rw} (hi : C.rows[i]? = some r) {slot : Nat} (hs : slot < N) (hno : mget C.of (slot : Int) = none) {S : SetV} (hN : S.N = N) (hm : ∀ j, S.mem j = (r.S.mem j || decide (j = slot))) :
    ClOk N { C with rows := C.rows.set i { r with S := S }, of := mput C.of (slot : Int) r.n } := by
  have hr := List.mem_of_getElem? hi
  refine ⟨h.rise.set hi rfl, fun s hs => ?_, fun j m => ?_, fun k m hk => ?_⟩
  · rcases (mem_set_iff h.rise hi).1 hs with rfl | ⟨hs, _⟩
    · exact hN
    · exact h.size s hs
  · show mget (mput C.of (slot : Int) r.n) (j : Int) = some m ↔ ∃ s ∈ C.rows.set i { r with S := S }, s.n = m ∧ s.S.mem j = true
    rw [mget_mput]
    constructor
    · intro hg
      split at hg
      · rename_i e
        have e : slot = j := by omega
        cases hg
        exact ⟨_, (mem_set_iff h.rise hi).2 (.inl rfl), rfl, by rw [hm]; simp [e]⟩
      · obtain ⟨s, hs, h1, h2⟩ := (h.tell j m).1 hg
        by_cases e : s.n = r.n
        · have := h.rise.uniq hs hr e
          subst this
          exact ⟨_, (mem_set_iff h.rise hi).2 (.inl rfl), h1, by rw [hm, h2]; rfl⟩
        · exact ⟨s, (mem_set_iff h.rise hi).2 (.inr ⟨hs, e⟩), h1, h2⟩
    · rintro ⟨s, hs, h1, h2⟩
      rcases (mem_set_iff h.rise hi).1 hs with rfl | ⟨hs, hne⟩
      · rw [hm] at h2
        by_cases e : j = slot
        · subst e; rw [if_pos rfl]; exact congrArg some h1
        · rw [if_neg (by omega)]
          have : r.S.mem j = true := by simpa [e] using h2
          exact (h.tell j m).2 ⟨r, hr, h1, this⟩
      · have hg := (h.tell j m).2 ⟨s, hs, h1, h2⟩
        rw [if_neg (fun e => by rw [← e, hno] at hg; cases hg)]
        exact hg
  · have hk : mget (mput C.of (slot : Int) r.n) k = some m := hk
    rw [mget_mput] at hk
    split at hk
    · rename_i e; exact ⟨slot, e.symm, hs⟩
    · exact h.keys k m hk
theorem ClOk.del {N : Nat} {C : Cl} (h : ClOk N C) (hd : (mkeys C.of).Nodup) {i : Nat} {r : Rw} (hi : C.rows[i]? = some r) {slot : Nat} (hg0 : mget C.of (slot : Int) = some r.n) {S : SetV} (hN : S.N = N) (hm : ∀ j, S.mem j = (r.S.mem j && !decide (j = slot))) :
    ClOk N { C with rows := C.rows.set i { r with S := S }, of := mdel C.of (slot : Int) } := by
  have hr := List.mem_of_getElem? hi
  refine ⟨h.rise.set hi rfl, fun s hs => ?_, fun j m => ?_, fun k m hk => ?_⟩
  · rcases (mem_set_iff h.rise hi).1 hs with rfl | ⟨hs, _⟩
    · exact hN
    · exact h.size s hs
  · show mget (mdel C.of (slot : Int)) (j : Int) = some m ↔ ∃ s ∈ C.rows.set i { r with S := S }, s.n = m ∧ s.S.mem j = true
    rw [mget_mdel hd]
    constructor
    · intro hg
      split at hg
      · cases hg
      · rename_i e
        obtain ⟨s, hs, h1, h2⟩ := (h.tell j m).1 hg
        by_cases e : s.n = r.n
        · have := h.rise.uniq hs hr e
          subst this
          exact ⟨_, (mem_set_iff h.rise hi).2 (.inl rfl), h1, by rw [hm, h2]; simp; omega⟩
        · exact ⟨s, (mem_set_iff h.rise hi).2 (.inr ⟨hs, e⟩), h1, h2⟩
    · rintro ⟨s, hs, h1, h2⟩
      rcases (mem_set_iff h.rise hi).1 hs with rfl | ⟨hs, hne⟩
      · rw [hm] at h2
        have h3 : r.S.mem j = true ∧ j ≠ slot := by simpa using h2
        rw [if_neg (by omega)]
        exact (h.tell j m).2 ⟨r, hr, h1, h3.1⟩
      · have hg := (h.tell j m).2 ⟨s, hs, h1, h2⟩
        rw [if_neg (fun e => by rw [← e, hg0] at hg; have := Option.some.inj hg; omega)]
        exact hg
  · have hk : mget (mdel C.of (slot : Int)) k = some m := hk
    rw [mget_mdel hd] at hk
    split at hk
    · cases hk
    · exact h.keys k m hk
theorem ClOk.erase {N : Nat} {C : Cl} (h : ClOk N C) {i : Nat} {r : Rw} (hi : C.rows[i]? = some r) (h0 : ∀ j, r.S.mem j = false) : ClOk N { C with rows := C.rows.eraseIdx i } :=
  ⟨h.rise.erase i, fun s hs => h.size s ((mem_erase_iff h.rise hi).1 hs).1, fun j m => by
    show mget C.of (j : Int) = some m ↔ ∃ s ∈ C.rows.eraseIdx i, s.n = m ∧ s.S.mem j = true
    rw [h.tell]
    constructor
    · rintro ⟨s, hs, h1, h2⟩
      refine ⟨s, (mem_erase_iff h.rise hi).2 ⟨hs, fun e => ?_⟩, h1, h2⟩
      have := h.rise.uniq hs (List.mem_of_getElem? hi) e
      subst this
      rw [h0] at h2; cases h2
    · rintro ⟨s, hs, h1, h2⟩
      exact ⟨s, ((mem_erase_iff h.rise hi).1 hs).1, h1, h2⟩, h.keys⟩
end Go.Proofs.YtjlkdadafddodaaGreatDoor
