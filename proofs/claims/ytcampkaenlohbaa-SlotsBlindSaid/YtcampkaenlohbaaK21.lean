/- Slots: what a table tells of a name, behind each change: plain facts. -/
import Derived.Test.YtcampkaenlohbaaK20
set_option linter.unusedVariables false
set_option linter.unusedSimpArgs false
namespace Go.Proofs.Ytcampkaenlohbaa
open Go Go.V Go.B

/-- A name's value. -/
def tell (s : TS) (n : ByteArray) : Option Int := if (findV s n).2.2 then some (findV s n).2.1 else none
theorem tell_iff {s : TS} (h : s.ok) (n : ByteArray) (v : Int) : tell s n = some v ↔ ∃ (i : Nat) (x : Rw), s.rows[i]? = some x ∧ x.held = true ∧ x.name = n ∧ x.v = v := by
  have hd : Dm s (drs s.rows) := ⟨h, List.Perm.refl _⟩
  unfold tell
  rcases find_tell hd n with ⟨e, hi⟩ | ⟨i, a, x, e, hx, hh, hn, ha, hi⟩
  · rw [e]
    simp only [Bool.false_eq_true, if_false]
    constructor
    · intro h; cases h
    · rintro ⟨j, y, hy, hyh, hyn, _⟩
      obtain ⟨a, _, e2⟩ := hd.find_held hy hyh hyn
      rw [e2] at hi
      omega
  · rw [e]
    simp only [if_true]
    constructor
    · intro h
      exact ⟨i, x, hx, hh, hn, by simpa using h⟩
    · rintro ⟨j, y, hy, hyh, hyn, rfl⟩
      have := h.uniq hy hx hyh hh (by rw [hyn, hn])
      subst this
      rw [hx] at hy
      cases hy; rfl
theorem tell_found {s : TS} (h : s.ok) (n : ByteArray) : (findV s n).2.2 = (tell s n).isSome ∧ (∀ v, tell s n = some v → (findV s n).2.1 = v) := by
  unfold tell
  cases hb : (findV s n).2.2 <;> simp
theorem tell_none {s : TS} (h : s.ok) (n : ByteArray) : tell s n = none ↔ mget s.m n = none := by
  constructor
  · intro ht
    cases hg : mget s.m n with
    | none => rfl
    | some v =>
      obtain ⟨i, x, h1, h2, h3, _⟩ := (h.mp n v).1 hg
      have := (tell_iff h n x.v).2 ⟨i, x, h1, h2, h3, rfl⟩
      rw [ht] at this; cases this
  · intro hg
    cases ht : tell s n with
    | none => rfl
    | some v =>
      obtain ⟨i, x, h1, h2, h3, _⟩ := (tell_iff h n v).1 ht
      have := (h.mp n i).2 ⟨i, x, h1, h2, h3, rfl⟩
      rw [hg] at this; cases this
theorem tell_good {s : TS} (h : s.ok) {n : ByteArray} {v : Int} (ht : tell s n = some v) : ¬ badN n := by
  obtain ⟨i, x, h1, h2, h3, _⟩ := (tell_iff h n v).1 ht
  have := h.good x (List.mem_of_getElem? h1) h2
  rw [h3] at this
  unfold badN; omega
theorem opt_ext {a b : Option Int} (h : ∀ v, a = some v ↔ b = some v) : a = b := by
  cases a with
  | none =>
    cases b with
    | none => rfl
    | some v => exact absurd ((h v).2 rfl) (by simp)
  | some v => exact ((h v).1 rfl).symm
theorem look_tell {s : TS} (h : s.ok) (n : ByteArray) : (lookV s n).2 = if badN n then 51 else if (tell s n).isSome then 0 else 54 := by
  unfold lookV
  split
  · rfl
  · cases hg : mget s.m n with
    | none => rw [(tell_none h n).2 hg]; rfl
    | some v =>
      have : tell s n ≠ none := fun e => by rw [(tell_none h n).1 e] at hg; cases hg
      cases ht : tell s n with
      | none => exact absurd ht this
      | some _ => rfl
/-- What Put does. -/
theorem tell_put {s : TS} (h : s.ok) {n : ByteArray} {v : Int} (hok : (putV s n v).1.ok) (m : ByteArray) : tell (putV s n v).1 m = if m = n ∧ ¬ badN n ∧ tell s n = none ∧ s.m.length < s.most then some v else tell s m := by
  have hl := look_tell h n
  by_cases hc : ¬ badN n ∧ tell s n = none ∧ s.m.length < s.most
  · obtain ⟨c1, c2, c3⟩ := hc
    rw [if_neg c1, c2] at hl
    have hl : (lookV s n).2 = 54 := hl
    have hp : (putV s n v).1.rows = putRows s.rows (freeAt s.rows) ⟨true, n, v⟩ := by
      unfold putV
      rw [hl, if_neg (by decide), if_neg (by decide), if_neg (by omega)]
    apply opt_ext
    intro u
    rw [tell_iff hok, hp]
    have hfree : ∀ (j : Nat) (y : Rw), s.rows[j]? = some y → y.held = true → j ≠ freeAt s.rows := fun j y hy hh e => by
      subst e
      rcases free_at s.rows with h0 | ⟨z, hz, hzf⟩
      · rw [h0] at hy; simp at hy
      · rw [hz] at hy; cases hy; rw [hzf] at hh; cases hh
    by_cases e : m = n
    · subst e
      rw [if_pos ⟨rfl, c1, c2, c3⟩]
      constructor
      · rintro ⟨j, y, hy, hh, hn, rfl⟩
        rcases (put_at (free_le s.rows)).1 hy with ⟨_, rfl⟩ | ⟨_, hy⟩
        · rfl
        · have := (tell_iff h m y.v).2 ⟨j, y, hy, hh, hn, rfl⟩
          rw [c2] at this; cases this
      · intro e; cases e
        exact ⟨freeAt s.rows, _, (put_at (free_le s.rows)).2 (.inl ⟨rfl, rfl⟩), rfl, rfl, rfl⟩
    · rw [if_neg (fun h => e h.1), tell_iff h]
      constructor
      · rintro ⟨j, y, hy, hh, hn, hv⟩
        rcases (put_at (free_le s.rows)).1 hy with ⟨_, rfl⟩ | ⟨_, hy⟩
        · exact absurd hn.symm e
        · exact ⟨j, y, hy, hh, hn, hv⟩
      · rintro ⟨j, y, hy, hh, hn, hv⟩
        exact ⟨j, y, (put_at (free_le s.rows)).2 (.inr ⟨hfree j y hy hh, hy⟩), hh, hn, hv⟩
  · rw [if_neg (fun h => hc h.2)]
    have : (putV s n v).1 = s := by
      unfold putV
      by_cases c1 : badN n
      · rw [if_pos c1] at hl
        rw [hl]; rfl
      · rw [if_neg c1] at hl
        cases ht : tell s n with
        | some u => rw [ht] at hl; rw [show (lookV s n).2 = 0 from hl]; rfl
        | none =>
          rw [ht] at hl
          have hl : (lookV s n).2 = 54 := hl
          have : s.most ≤ s.m.length := by
            rcases Nat.lt_or_ge s.m.length s.most with h1 | h1
            · exact absurd ⟨c1, ht, h1⟩ hc
            · exact h1
          rw [hl, if_neg (by decide), if_neg (by decide), if_pos this]
    rw [this]
theorem putV_err {s : TS} (h : s.ok) (n : ByteArray) (v : Int) : (putV s n v).2.2 = if badN n then 51 else if (tell s n).isSome then 52 else if s.most ≤ s.m.length then 53 else 0 := by
  have hl := look_tell h n
  unfold putV
  by_cases c1 : badN n
  · rw [if_pos c1] at hl ⊢
    rw [hl]; rfl
  · rw [if_neg c1] at hl ⊢
    cases ht : tell s n with
    | some u => rw [ht] at hl; rw [show (lookV s n).2 = 0 from hl]; rfl
    | none =>
      rw [ht] at hl
      have hl : (lookV s n).2 = 54 := hl
      rw [hl, if_neg (by decide), if_neg (by decide)]
      by_cases c : s.most ≤ s.m.length
      · rw [if_pos c]; simp [c]
      · rw [if_neg c]; simp [c]
theorem trim_held {rows : List Rw} {j : Nat} {y : Rw} (hh : y.held = true) : (trimT rows)[j]? = some y ↔ rows[j]? = some y := by
  unfold trimT
  rw [List.getElem?_take]
  constructor
  · intro h; split at h
    · exact h
    · cases h
  · intro h
    rw [if_pos]
    · exact h
    · rcases Nat.lt_or_ge j (spanOf rows) with h1 | h1
      · exact h1
      · have := span_free rows j y h1 h
        rw [hh] at this; cases this
/-- What Drop does. -/
theorem tell_drop {s : TS} (h : s.ok) {n : ByteArray} (hok : (dropV s n).1.ok) (m : ByteArray) : tell (dropV s n).1 m = if m = n then none else tell s m := by
  have hl := look_tell h n
  cases ht : tell s n with
  | none =>
    have : (dropV s n).1 = s := by
      unfold dropV
      rw [if_pos]
      rw [hl, ht]
      by_cases hb : badN n <;> simp [hb]
    rw [this]
    by_cases e : m = n
    · subst e; rw [if_pos rfl, ht]
    · rw [if_neg e]
  | some u =>
    obtain ⟨i, x, hx, hh, hn, rfl⟩ := (tell_iff h n u).1 ht
    have hg := (h.mp n i).2 ⟨i, x, hx, hh, hn, rfl⟩
    have hb := tell_good h ht
    have hlk : lookV s n = ((i : Int), 0) := by unfold lookV; rw [if_neg hb, hg]
    have hr : (dropV s n).1.rows = trimT (s.rows.set i Rw.zero) := by
      unfold dropV
      rw [hlk, if_neg (by simp), Int.toNat_natCast]
    have hil := (List.getElem?_eq_some_iff.1 hx).1
    apply opt_ext
    intro v
    rw [tell_iff hok, hr]
    by_cases e : m = n
    · subst e
      rw [if_pos rfl]
      constructor
      · rintro ⟨j, y, hy, hyh, hyn, _⟩
        rw [trim_held hyh] at hy
        rcases (set_at hil).1 hy with ⟨rfl, rfl⟩ | ⟨hne, hy⟩
        · cases hyh
        · exact absurd (h.uniq hy hx hyh hh (by rw [hyn, hn])) hne
      · intro h; cases h
    · rw [if_neg e, tell_iff h]
      constructor
      · rintro ⟨j, y, hy, hyh, hyn, hv⟩
        rw [trim_held hyh] at hy
        rcases (set_at hil).1 hy with ⟨rfl, rfl⟩ | ⟨hne, hy⟩
        · cases hyh
        · exact ⟨j, y, hy, hyh, hyn, hv⟩
      · rintro ⟨j, y, hy, hyh, hyn, hv⟩
        have hne : j ≠ i := fun he => by
          subst he
          rw [hx] at hy; cases hy
          exact e (by rw [← hyn, hn])
        exact ⟨j, y, (trim_held hyh).2 ((set_at hil).2 (.inr ⟨hne, hy⟩)), hyh, hyn, hv⟩
/-- What Set does. -/
theorem tell_set {s : TS} (h : s.ok) {n : ByteArray} {v : Int} (hok : (setV s n v).ok) (m : ByteArray) : tell (setV s n v) m = if m = n ∧ (tell s n).isSome then some v else tell s m := by
  have hl := look_tell h n
  cases ht : tell s n with
  | none =>
    have : setV s n v = s := by
      unfold setV
      rw [if_neg]
      rw [hl, ht]
      by_cases hb : badN n <;> simp [hb]
    rw [this, if_neg (by simp)]
  | some u =>
    obtain ⟨i, x, hx, hh, hn, rfl⟩ := (tell_iff h n u).1 ht
    have hg := (h.mp n i).2 ⟨i, x, hx, hh, hn, rfl⟩
    have hb := tell_good h ht
    have hlk : lookV s n = ((i : Int), 0) := by unfold lookV; rw [if_neg hb, hg]
    have hr : (setV s n v).rows = s.rows.set i { x with v := v } := by
      unfold setV
      rw [hlk, if_pos rfl, Int.toNat_natCast, show s.rows.getD i Rw.zero = x by simp [List.getD_eq_getElem?_getD, hx]]
    have hil := (List.getElem?_eq_some_iff.1 hx).1
    apply opt_ext
    intro u
    rw [tell_iff hok, hr]
    by_cases e : m = n
    · subst e
      rw [if_pos ⟨rfl, rfl⟩]
      constructor
      · rintro ⟨j, y, hy, hyh, hyn, rfl⟩
        rcases (set_at hil).1 hy with ⟨rfl, rfl⟩ | ⟨hne, hy⟩
        · rfl
        · exact absurd (h.uniq hy hx hyh hh (by rw [hyn, hn])) hne
      · intro e; cases e
        exact ⟨i, { x with v := v }, (set_at hil).2 (.inl ⟨rfl, rfl⟩), hh, hn, rfl⟩
    · rw [if_neg (fun h => e h.1), tell_iff h]
      constructor
      · rintro ⟨j, y, hy, hyh, hyn, hv⟩
        rcases (set_at hil).1 hy with ⟨rfl, rfl⟩ | ⟨hne, hy⟩
        · exact absurd (by rw [← hyn]; exact hn) e
        · exact ⟨j, y, hy, hyh, hyn, hv⟩
      · rintro ⟨j, y, hy, hyh, hyn, hv⟩
        have hne : j ≠ i := fun he => by
          subst he
          rw [hx] at hy; cases hy
          exact e (by rw [← hyn, hn])
        exact ⟨j, y, (set_at hil).2 (.inr ⟨hne, hy⟩), hyh, hyn, hv⟩
theorem setV_m (s : TS) (n : ByteArray) (v : Int) : (setV s n v).m = s.m := by unfold setV; split <;> rfl
theorem mem_prsF {y : Pr} : ∀ {xs : List Rw} {k : Nat}, y ∈ prsF k xs ↔ ∃ (i : Nat) (x : Rw), xs[i]? = some x ∧ x.held = true ∧ y = ⟨((k + i : Nat) : Int), x.name⟩ := by
  intro xs k
  rw [← drsF_pr, List.mem_map]
  constructor
  · rintro ⟨d, hd, rfl⟩
    obtain ⟨i, x, h1, h2, rfl⟩ := mem_drsF.1 hd
    exact ⟨i, x, h1, h2, rfl⟩
  · rintro ⟨i, x, h1, h2, rfl⟩
    exact ⟨_, mem_drsF.2 ⟨i, x, h1, h2, rfl⟩, rfl⟩
theorem mem_names {s : TS} (h : s.ok) (n : ByteArray) : n ∈ names s.rows ↔ (tell s n).isSome = true := by
  rw [← drs_names, List.mem_map]
  constructor
  · rintro ⟨d, hd, rfl⟩
    obtain ⟨i, x, h1, h2, rfl⟩ := mem_drs.1 hd
    rw [(tell_iff h x.name x.v).2 ⟨i, x, h1, h2, rfl, rfl⟩]; rfl
  · intro ht
    cases e : tell s n with
    | none => rw [e] at ht; cases ht
    | some v =>
      obtain ⟨i, x, h1, h2, h3, _⟩ := (tell_iff h n v).1 e
      exact ⟨_, mem_drs.2 ⟨i, x, h1, h2, rfl⟩, h3⟩
theorem drsF_nodup : ∀ {xs : List Rw} {k : Nat}, (∀ (i j : Nat) (x y : Rw), xs[i]? = some x → xs[j]? = some y → x.held = true → y.held = true → x.name = y.name → i = j) → ((drsF k xs).map (·.name)).Nodup
  | [], k, _ => by simp [drsF]
  | x :: xs, k, h => by
    have ih := drsF_nodup (xs := xs) (k := k + 1) (fun i j a b ha hb h1 h2 h3 => by
      have := h (i + 1) (j + 1) a b (by simpa using ha) (by simpa using hb) h1 h2 h3
      omega)
    simp only [drsF]
    split
    · rename_i hh
      rw [List.map_cons, List.nodup_cons]
      refine ⟨fun hm => ?_, ih⟩
      obtain ⟨d, hd, e⟩ := List.mem_map.1 hm
      obtain ⟨i, y, h1, h2, rfl⟩ := mem_drsF.1 hd
      have := h 0 (i + 1) x y rfl (by simpa using h1) hh h2 e.symm
      omega
    · exact ih
theorem names_nodup {s : TS} (h : s.ok) : (names s.rows).Nodup := by
  rw [← drs_names]
  exact drsF_nodup (k := 0) fun i j x y hx hy h1 h2 e => h.uniq hx hy h1 h2 e
/-- Two tables that tell the same have the same names. -/
theorem same_names {s t : TS} (hs : s.ok) (ht : t.ok) (e : ∀ n, (tell s n).isSome = (tell t n).isSome) : (names s.rows).Perm (names t.rows) :=
  (List.perm_ext_iff_of_nodup (names_nodup hs) (names_nodup ht)).2 fun n => by rw [mem_names hs, mem_names ht, e]
theorem names_len {s : TS} (h : s.ok) : (names s.rows).length = s.m.length := by
  rw [← drs_names, List.length_map, drs_len, h.cnt]
theorem nodup_le {α : Type} [DecidableEq α] : ∀ {l l' : List α}, l.Nodup → (∀ x ∈ l, x ∈ l') → l.length ≤ l'.length
  | [], l', _, _ => by simp
  | x :: l, l', hn, h => by
    have hx := h x (by simp)
    rw [List.nodup_cons] at hn
    have ih := nodup_le (l' := l'.erase x) hn.2 fun y hy => by
      have : y ≠ x := fun e => hn.1 (e ▸ hy)
      exact (List.mem_erase_of_ne this).2 (h y (by simp [hy]))
    rw [List.length_erase_of_mem hx] at ih
    have : 0 < l'.length := List.length_pos_of_mem hx
    simp only [List.length_cons]
    omega
end Go.Proofs.Ytcampkaenlohbaa
