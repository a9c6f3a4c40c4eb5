/- Maps of the call's own, told as lists of keys and values: look-up, store, delete, len, make; generic, no program. -/
import Derived.Test.YtoaeefjcjdhlkaaGreatB2
import Derived.Test.YtoaeefjcjdhlkaaGreatV2
set_option linter.unusedVariables false
set_option linter.unusedSectionVars false
set_option linter.unusedSimpArgs false
namespace Go.B
open Go.V Go.RowKit

/-! ### lists of keys and values -/
section
variable {κ β : Type} [DecidableEq κ]
def mget : List (κ × β) → κ → Option β
  | [], _ => none
  | (a, b) :: m, k => if a = k then some b else mget m k
def mput : List (κ × β) → κ → β → List (κ × β)
  | [], k, x => [(k, x)]
  | (a, b) :: m, k, x => if a = k then (k, x) :: m else (a, b) :: mput m k x
def mdel : List (κ × β) → κ → List (κ × β)
  | [], _ => []
  | (a, b) :: m, k => if a = k then m else (a, b) :: mdel m k
def mkeys (m : List (κ × β)) : List κ := m.map (·.1)
theorem mget_none {m : List (κ × β)} {k : κ} : mget m k = none ↔ k ∉ mkeys m := by
  induction m with
  | nil => simp [mget, mkeys]
  | cons p m ih =>
    obtain ⟨a, b⟩ := p
    by_cases h : a = k
    · subst h; simp [mget, mkeys]
    · simp only [mget, if_neg h, ih, mkeys, List.map_cons, List.mem_cons, not_or]
      exact ⟨fun h' => ⟨fun e => h e.symm, h'⟩, fun h' => h'.2⟩
theorem mget_some {m : List (κ × β)} {k : κ} {x : β} (h : mget m k = some x) : (k, x) ∈ m := by
  induction m with
  | nil => cases h
  | cons p m ih =>
    obtain ⟨a, b⟩ := p
    by_cases e : a = k
    · subst e; simp [mget] at h; simp [h]
    · simp only [mget, if_neg e] at h
      exact List.mem_cons_of_mem _ (ih h)
theorem mget_of_mem {m : List (κ × β)} {k : κ} {x : β} (hn : (mkeys m).Nodup) (h : (k, x) ∈ m) : mget m k = some x := by
  induction m with
  | nil => cases h
  | cons p m ih =>
    obtain ⟨a, b⟩ := p
    simp only [mkeys, List.map_cons, List.nodup_cons] at hn
    rcases List.mem_cons.1 h with e | h
    · cases e; simp [mget]
    · have : a ≠ k := fun e => hn.1 (List.mem_map.2 ⟨(k, x), h, e.symm⟩)
      simp only [mget, if_neg this]
      exact ih hn.2 h
theorem mkeys_in {m : List (κ × β)} {k : κ} (x : β) (h : k ∈ mkeys m) : mkeys (mput m k x) = mkeys m := by
  induction m with
  | nil => simp [mkeys] at h
  | cons p m ih =>
    obtain ⟨a, b⟩ := p
    by_cases e : a = k
    · subst e; simp [mput, mkeys]
    · have h2 : k ∈ mkeys m := by
        simp only [mkeys, List.map_cons, List.mem_cons] at h
        rcases h with h | h
        · exact absurd h.symm e
        · exact h
      have := ih h2
      simp only [mkeys] at this ⊢
      simp [mput, e, this]
theorem mkeys_out {m : List (κ × β)} {k : κ} (x : β) (h : k ∉ mkeys m) : mkeys (mput m k x) = mkeys m ++ [k] := by
  induction m with
  | nil => simp [mput, mkeys]
  | cons p m ih =>
    obtain ⟨a, b⟩ := p
    simp only [mkeys, List.map_cons, List.mem_cons, not_or] at h
    have e : ¬ a = k := fun e => h.1 e.symm
    have := ih h.2
    simp only [mkeys] at this ⊢
    simp [mput, e, this]
theorem nodup_mput {m : List (κ × β)} (hn : (mkeys m).Nodup) (k : κ) (x : β) : (mkeys (mput m k x)).Nodup := by
  by_cases h : k ∈ mkeys m
  · rw [mkeys_in x h]; exact hn
  · rw [mkeys_out x h, List.nodup_append]
    refine ⟨hn, by simp, fun a ha b hb => ?_⟩
    simp at hb; subst hb
    exact fun e => h (e ▸ ha)
theorem length_in {m : List (κ × β)} {k : κ} (x : β) (h : k ∈ mkeys m) : (mput m k x).length = m.length := by
  have := congrArg List.length (mkeys_in x h)
  simpa [mkeys] using this
theorem length_out {m : List (κ × β)} {k : κ} (x : β) (h : k ∉ mkeys m) : (mput m k x).length = m.length + 1 := by
  have := congrArg List.length (mkeys_out x h)
  simpa [mkeys] using this
theorem mget_mput (m : List (κ × β)) (k : κ) (x : β) (k' : κ) : mget (mput m k x) k' = if k = k' then some x else mget m k' := by
  induction m with
  | nil => simp [mput, mget]
  | cons p m ih =>
    obtain ⟨a, b⟩ := p
    by_cases h : a = k
    · subst h
      by_cases h2 : a = k' <;> simp [mput, mget, h2]
    · simp only [mput, if_neg h, mget, ih]
      by_cases h2 : a = k'
      · subst h2
        rw [if_pos rfl, if_pos rfl, if_neg (fun e => h e.symm)]
      · rw [if_neg h2, if_neg h2]
theorem mem_mkeys_mdel {m : List (κ × β)} (hn : (mkeys m).Nodup) (k k' : κ) : k' ∈ mkeys (mdel m k) ↔ k' ∈ mkeys m ∧ k' ≠ k := by
  induction m with
  | nil => simp [mdel, mkeys]
  | cons p m ih =>
    obtain ⟨a, b⟩ := p
    simp only [mkeys, List.map_cons, List.nodup_cons] at hn
    by_cases h : a = k
    · subst h
      simp only [mdel, if_true, mkeys, List.map_cons, List.mem_cons]
      constructor
      · intro h; exact ⟨.inr h, fun e => hn.1 (e ▸ h)⟩
      · rintro ⟨e | h, h2⟩
        · exact absurd e h2
        · exact h
    · have ih := ih hn.2
      simp only [mkeys] at ih
      simp only [mdel, if_neg h, mkeys, List.map_cons, List.mem_cons, ih]
      constructor
      · rintro (e | ⟨h1, h2⟩)
        · exact ⟨.inl e, fun e2 => h (e ▸ e2)⟩
        · exact ⟨.inr h1, h2⟩
      · rintro ⟨e | h1, h2⟩
        · exact .inl e
        · exact .inr ⟨h1, h2⟩
theorem nodup_mdel {m : List (κ × β)} (hn : (mkeys m).Nodup) (k : κ) : (mkeys (mdel m k)).Nodup := by
  induction m with
  | nil => simp [mdel, mkeys]
  | cons p m ih =>
    obtain ⟨a, b⟩ := p
    have hn' := hn
    simp only [mkeys, List.map_cons, List.nodup_cons] at hn
    by_cases h : a = k
    · subst h; simp only [mdel, if_true]; exact hn.2
    · have ih := ih hn.2
      simp only [mdel, if_neg h, mkeys, List.map_cons, List.nodup_cons]
      exact ⟨fun h2 => hn.1 ((mem_mkeys_mdel hn.2 k a).1 h2).1, ih⟩
theorem mget_mdel {m : List (κ × β)} (hn : (mkeys m).Nodup) (k k' : κ) : mget (mdel m k) k' = if k = k' then none else mget m k' := by
  induction m with
  | nil => simp [mdel, mget]
  | cons p m ih =>
    obtain ⟨a, b⟩ := p
    simp only [mkeys, List.map_cons, List.nodup_cons] at hn
    by_cases h : a = k
    · subst h
      simp only [mdel, if_true, mget]
      by_cases h2 : a = k'
      · subst h2; simp only [if_true]; exact mget_none.2 hn.1
      · simp [h2]
    · simp only [mdel, if_neg h, mget, ih hn.2]
      by_cases h2 : a = k'
      · subst h2
        rw [if_pos rfl, if_pos rfl, if_neg (fun e => h e.symm)]
      · rw [if_neg h2, if_neg h2]
theorem mdel_out {m : List (κ × β)} {k : κ} (h : k ∉ mkeys m) : mdel m k = m := by
  induction m with
  | nil => rfl
  | cons p m ih =>
    obtain ⟨a, b⟩ := p
    simp only [mkeys, List.map_cons, List.mem_cons, not_or] at h
    have e : ¬ a = k := fun e => h.1 e.symm
    simp only [mdel, if_neg e]
    rw [ih h.2]
theorem length_mdel {m : List (κ × β)} {k : κ} (h : k ∈ mkeys m) : (mdel m k).length + 1 = m.length := by
  induction m with
  | nil => simp [mkeys] at h
  | cons p m ih =>
    obtain ⟨a, b⟩ := p
    by_cases e : a = k
    · subst e; simp [mdel]
    · have h2 : k ∈ mkeys m := by
        simp only [mkeys, List.map_cons, List.mem_cons] at h
        rcases h with h | h
        · exact absurd h.symm e
        · exact h
      simp only [mdel, if_neg e, List.length_cons, ih h2]
end

theorem eraseIdx_map' {α γ : Type} (f : α → γ) : ∀ (l : List α) (i : Nat), (l.map f).eraseIdx i = (l.eraseIdx i).map f
  | [], i => by simp
  | x :: xs, 0 => by simp
  | x :: xs, i + 1 => by simp [eraseIdx_map' f xs i]
/-! ### keys -/
/-- Keys of this type are numbers, texts, or the like. -/
structure KeyT {κ : Type} [DecidableEq κ] (P : Program) (kt : TypeId) (ke : κ → Value) : Prop where
  same : ∃ d, P.underlying kt = some d ∧ ∀ a b, Instr.sameNow d (ke a) (ke b) = some (decide (a = b))
  check : ∀ e k w, (Instr.checkKey e 10000 kt (ke k)).run P w = .ok () w
  bits : ∀ k, Instr.sameBits 10000 (ke k) (ke k) = true
theorem chk_str {P : Program} {kt : TypeId} (h : P.underlying kt = some .string) (e : Bool) (n : Nat) (k : ByteArray) (w : World) : (Instr.checkKey e (n + 1) kt (.string k)).run P w = .ok () w := by
  simp [Instr.checkKey, run_underlying h]
theorem chk_int {P : Program} {kt : TypeId} {q q' : IntKind} (h : P.underlying kt = some (.int q')) (e : Bool) (n : Nat) (k : Int) (w : World) : (Instr.checkKey e (n + 1) kt (.int q k)).run P w = .ok () w := by
  simp [Instr.checkKey, run_underlying h]
theorem bits_str (n : Nat) (k : ByteArray) : Instr.sameBits n (.string k) (.string k) = true := by
  cases n <;> simp only [Instr.sameBits] <;> rw [beq_toListBytes] <;> simp
theorem bits_int (n : Nat) (q : IntKind) (k : Int) : Instr.sameBits n (.int q k) (.int q k) = true := by
  cases n <;> simp [Instr.sameBits]
theorem keyString {P : Program} {kt : TypeId} (h : P.underlying kt = some .string) : KeyT P kt Value.string :=
  ⟨⟨.string, h, fun a b => by
      simp only [Instr.sameNow]
      congr 1
      rw [beq_toListBytes, ByteArray.toList_eq, ByteArray.toList_eq]
      obtain ⟨⟨x⟩⟩ := a
      obtain ⟨⟨y⟩⟩ := b
      rw [Bool.eq_iff_iff]
      simp⟩,
    fun e k w => chk_str h e 9999 k w, fun k => bits_str 10000 k⟩
theorem keyInt {P : Program} {kt : TypeId} {q : IntKind} (h : P.underlying kt = some (.int q)) : KeyT P kt (Value.int q) :=
  ⟨⟨.int q, h, fun a b => by
      simp only [Instr.sameNow, if_true]
      congr 1⟩,
    fun e k w => chk_int h e 9999 k w, fun k => bits_int 10000 q k⟩

/-! ### maps in memory -/
def MapAt {κ β : Type} (w : World) (r : Nat) (ke : κ → Value) (ve : β → Value) (m : List (κ × β)) : Prop :=
  ∃ es clock, w.heap[r]? = some (.map es clock) ∧ es.toList.map (fun e => (e.key, e.val)) = m.map (fun p => (ke p.1, ve p.2)) ∧ (mkeys m).Nodup ∧ (es.toList.map (·.born)).Nodup ∧ ∀ e ∈ es.toList, e.born < clock
section
variable {κ β : Type} [DecidableEq κ] {P : Program} {w : World} {r : Nat} {ke : κ → Value} {ve : β → Value} {m : List (κ × β)}
theorem MapAt.lt (h : MapAt w r ke ve m) : r < w.heap.size := by
  obtain ⟨es, clock, h, _⟩ := h
  exact (Array.getElem?_eq_some_iff.1 h).1
theorem MapAt.ext {F : List Nat} {w' : World} (h : MapAt w r ke ve m) (e : Ext F w w') (hF : r ∉ F) : MapAt w' r ke ve m := by
  have hl := h.lt
  obtain ⟨es, clock, h, rest⟩ := h
  exact ⟨es, clock, by rw [e.same r hl hF]; exact h, rest⟩
theorem MapAt.ext0 {w' : World} (h : MapAt w r ke ve m) (e : Ext [] w w') : MapAt w' r ke ve m := h.ext e (by simp)
theorem MapAt.nodup (h : MapAt w r ke ve m) : (mkeys m).Nodup := by
  obtain ⟨es, clock, _, _, h, _⟩ := h
  exact h
theorem MapAt.new (w : World) (ke : κ → Value) (ve : β → Value) : MapAt (w.alloc (.map #[] 0)) w.heap.size ke ve [] :=
  ⟨#[], 0, by show (w.heap.push _)[w.heap.size]? = _; simp, by simp, by simp [mkeys], by simp, by simp⟩
theorem MapAt.alloc (h : MapAt w r ke ve m) (o : Obj) : MapAt (w.alloc o) r ke ve m := h.ext0 ((Ext.refl [] w).alloc o)
theorem MapAt.drew (h : MapAt w r ke ve m) : MapAt w.drew r ke ve m := h
theorem MapAt.setCell (h : MapAt w r ke ve m) {a : Addr} (v : Value) (ha : a.block ≠ r) : MapAt (w.setCell a v) r ke ve m :=
  h.ext ((Ext.refl [a.block] w).setCell a v (.inl (by simp))) (by simp; exact fun e => ha e.symm)
/-- Where the key stands, or that it stands nowhere. -/
theorem findNow_spec {d : TypeDesc} (hs : ∀ a b, Instr.sameNow d (ke a) (ke b) = some (decide (a = b))) (k : κ) : ∀ (es : List MapEntry) (m : List (κ × β)) (i : Nat), es.map (fun e => (e.key, e.val)) = m.map (fun p => (ke p.1, ve p.2)) →
    (∃ j x, mget m k = some x ∧ Instr.findNow d (ke k) es i = some (some (i + j, ve x)) ∧ (es[j]?.map (·.key)) = some (ke k) ∧ (∀ y, mput m k y = m.set j (k, y)) ∧ mdel m k = m.eraseIdx j ∧ j < es.length) ∨ (mget m k = none ∧ Instr.findNow d (ke k) es i = some none ∧ (∀ y, mput m k y = m ++ [(k, y)]) ∧ mdel m k = m)
  | [], [], i, h => .inr ⟨rfl, rfl, fun _ => rfl, rfl⟩
  | [], _ :: _, i, h => by simp at h
  | _ :: _, [], i, h => by simp at h
  | e :: es, (a, b) :: m, i, h => by
    simp only [List.map_cons, List.cons.injEq, Prod.mk.injEq] at h
    obtain ⟨⟨h1, h2⟩, h3⟩ := h
    have h4 := hs k a
    by_cases hk : a = k
    · subst hk
      left
      refine ⟨0, b, by simp [mget], ?_, by simp [h1], fun y => by simp [mput], by simp [mdel], by simp⟩
      simp only [Instr.findNow, h1, h4, decide_true, h2, Nat.add_zero]
    · have h5 : decide (k = a) = false := by simp; exact fun e => hk e.symm
      rw [h5] at h4
      rcases findNow_spec hs k es m (i + 1) h3 with ⟨j, x, g1, g2, g3, g4, g5, g6⟩ | ⟨g1, g2, g3, g4⟩
      · left
        refine ⟨j + 1, x, by simp [mget, hk, g1], ?_, by simpa using g3, fun y => by simp [mput, hk, g4], by simp [mdel, hk, g5], by simpa using g6⟩
        simp only [Instr.findNow, h1, h4, g2]
        congr 3; omega
      · right
        refine ⟨by simp [mget, hk, g1], ?_, fun y => by simp [mput, hk, g3], by simp [mdel, hk, g4]⟩
        simp only [Instr.findNow, h1, h4, g2]
theorem run_getMap {es : Array MapEntry} {c : Nat} (h : w.heap[r]? = some (.map es c)) : (getObj r).run P w = .ok (.map es c) w := by simp [getObj, Sem.run, h]
theorem run_setMap {es : Array MapEntry} {c : Nat} (o' : Obj) (h : w.heap[r]? = some (.map es c)) : (setObj r o').run P w = .ok () (w.putObj r o') := by simp [setObj, Sem.run, h, World.putObj]
theorem run_findKey {kt : TypeId} {k : Value} {es : List MapEntry} {d : TypeDesc} {x : Option (Nat × Value)} (hd : P.underlying kt = some d) (h : Instr.findNow d k es 0 = some x) : (Instr.findKey kt k es).run P w = .ok x w := by
  simp [Instr.findKey, run_underlying hd, h]
theorem putObj_ext (w : World) (r : Nat) (o : Obj) : Ext [r] w (w.putObj r o) :=
  ⟨rfl, rfl, rfl, by simp, fun b hb hF => World.putObj_heap_other (by simpa using hF)⟩
/-- m[k] -/
theorem look {t kt et : TypeId} (K : KeyT P kt ke) (ht : P.underlying t = some (.map kt et)) {z : Value} (hz : ∀ w, (zeroValue et).run P w = .ok z w) (h : MapAt w r ke ve m) (k : κ) :
    (Instr.lookup t (.map (some r)) (ke k) false).run P w = .ok (match mget m k with | some x => ve x | none => z) w ∧
    (Instr.lookup t (.map (some r)) (ke k) true).run P w = .ok (.tuple #[match mget m k with | some x => ve x | none => z, .bool (mget m k).isSome]) w := by
  obtain ⟨es, clock, hh, hm, _⟩ := h
  obtain ⟨d, hd, hs⟩ := K.same
  rcases findNow_spec hs k es.toList m 0 hm with ⟨j, x, g1, g2, _⟩ | ⟨g1, g2, _⟩
  · have hf := run_findKey (P := P) (w := w) hd g2
    constructor <;> simp [Instr.lookup, run_underlying ht, run_getMap hh, K.check, hf, g1]
  · have hf := run_findKey (P := P) (w := w) hd g2
    constructor <;> simp [Instr.lookup, run_underlying ht, run_getMap hh, K.check, hf, g1, hz]
theorem look_yes {t kt et : TypeId} (K : KeyT P kt ke) (ht : P.underlying t = some (.map kt et)) {z : Value} (hz : ∀ w, (zeroValue et).run P w = .ok z w) (h : MapAt w r ke ve m) {k : κ} {x : β} (hg : mget m k = some x) :
    (Instr.lookup t (.map (some r)) (ke k) false).run P w = .ok (ve x) w ∧ (Instr.lookup t (.map (some r)) (ke k) true).run P w = .ok (.tuple #[ve x, .bool true]) w := by
  have := look K ht hz h k
  rw [hg] at this; exact this
theorem look_no {t kt et : TypeId} (K : KeyT P kt ke) (ht : P.underlying t = some (.map kt et)) {z : Value} (hz : ∀ w, (zeroValue et).run P w = .ok z w) (h : MapAt w r ke ve m) {k : κ} (hg : mget m k = none) :
    (Instr.lookup t (.map (some r)) (ke k) false).run P w = .ok z w ∧ (Instr.lookup t (.map (some r)) (ke k) true).run P w = .ok (.tuple #[z, .bool false]) w := by
  have := look K ht hz h k
  rw [hg] at this; exact this
theorem look_nil {t kt et : TypeId} (K : KeyT P kt ke) (ht : P.underlying t = some (.map kt et)) {z : Value} (hz : ∀ w, (zeroValue et).run P w = .ok z w) (k : κ) :
    (Instr.lookup t (.map none) (ke k) false).run P w = .ok z w ∧ (Instr.lookup t (.map none) (ke k) true).run P w = .ok (.tuple #[z, .bool false]) w := by
  obtain ⟨d, hd, hs⟩ := K.same
  have hf := run_findKey (P := P) (w := w) (kt := kt) (k := ke k) (es := []) hd rfl
  constructor <;> simp [Instr.lookup, run_underlying ht, K.check, hf, hz]
/-- m[k] = x -/
theorem store_map {t kt et : TypeId} (K : KeyT P kt ke) (ht : P.underlying t = some (.map kt et)) (h : MapAt w r ke ve m) (k : κ) (x : β) :
    ∃ w', (Instr.mapUpdate t (.map (some r)) (ke k) (ve x)).run P w = .ok () w' ∧ MapAt w' r ke ve (mput m k x) ∧ Ext [r] w w' := by
  have hlt := h.lt
  have hn := nodup_mput h.nodup k x
  obtain ⟨es, clock, hh, hm, _, hb, hc⟩ := h
  obtain ⟨d, hd, hs⟩ := K.same
  rcases findNow_spec hs k es.toList m 0 hm with ⟨j, y, g1, g2, g3, g4, g5, g6⟩ | ⟨g1, g2, g3, g4⟩
  · have hf := run_findKey (P := P) (w := w) hd g2
    have hk : ((es[0 + j]?).map (·.key)).getD (ke k) = ke k := by
      rw [Nat.zero_add]
      have : es[j]?.map (·.key) = some (ke k) := by simpa using g3
      rw [this]; rfl
    have hks : (Instr.keyThatStays (((es[0 + j]?).map (·.key)).getD (ke k)) (ke k)).run P w = .ok (ke k) w := by
      rw [hk]; simp [Instr.keyThatStays, K.bits k]
    have hset : (setObj r (.map (es.modify (0 + j) fun e => { e with key := ke k, val := ve x }) clock)).run P w = .ok () (w.putObj r (.map (es.modify (0 + j) fun e => { e with key := ke k, val := ve x }) clock)) := run_setMap _ hh
    refine ⟨w.putObj r (.map (es.modify (0 + j) fun e => { e with key := ke k, val := ve x }) clock), ?_, ⟨es.modify (0 + j) fun e => { e with key := ke k, val := ve x }, clock, World.putObj_heap_same hlt, ?_, hn, ?_, ?_⟩, putObj_ext _ _ _⟩
    · simp only [Instr.mapUpdate, Sem.run_bind, run_underlying ht, Result.andThen_ok, run_getMap hh, K.check, hf, hks, hset]
    · rw [g4 x]
      apply List.ext_getElem?
      intro i
      have := congrArg (·[i]?) hm
      simp only [List.getElem?_map, Array.getElem?_toList] at this
      simp only [List.getElem?_map, Nat.zero_add, Array.getElem?_toList, Array.getElem?_modify, List.getElem?_set]
      have hjm : j < m.length := by
        have := congrArg List.length hm
        simp at this g6; omega
      by_cases e : j = i
      · subst e
        have hj2 : j < es.size := by simpa using g6
        simp [hj2, hjm]
      · simp only [e, if_false, if_neg]
        exact this
    · have : ((es.modify (0 + j) fun e => { e with key := ke k, val := ve x }).toList.map (·.born)) = es.toList.map (·.born) := by
        apply List.ext_getElem?
        intro i
        simp only [List.getElem?_map, Array.getElem?_toList, Array.getElem?_modify]
        split
        · cases es[i]? <;> rfl
        · rfl
      rw [this]; exact hb
    · intro e he
      obtain ⟨i, hi⟩ := List.mem_iff_getElem?.1 he
      simp only [Array.getElem?_toList, Array.getElem?_modify] at hi
      split at hi
      · cases hq : es[i]? with
        | none => simp [hq] at hi
        | some e0 => simp [hq] at hi; rw [← hi]; exact hc e0 (Array.mem_toList_iff.2 (Array.mem_of_getElem? hq))
      · exact hc e (Array.mem_toList_iff.2 (Array.mem_of_getElem? hi))
  · have hf := run_findKey (P := P) (w := w) hd g2
    have hset : (setObj r (.map (es.push { key := ke k, val := ve x, born := clock }) (clock + 1))).run P w = .ok () (w.putObj r (.map (es.push { key := ke k, val := ve x, born := clock }) (clock + 1))) := run_setMap _ hh
    refine ⟨w.putObj r (.map (es.push { key := ke k, val := ve x, born := clock }) (clock + 1)), ?_, ⟨es.push { key := ke k, val := ve x, born := clock }, clock + 1, World.putObj_heap_same hlt, ?_, hn, ?_, ?_⟩, putObj_ext _ _ _⟩
    · simp only [Instr.mapUpdate, Sem.run_bind, run_underlying ht, Result.andThen_ok, run_getMap hh, K.check, hf, hset]
    · rw [g3 x]; simp [hm]
    · simp only [Array.toList_push, List.map_append, List.map_cons, List.map_nil, List.nodup_append]
      refine ⟨hb, by simp, fun a ha b hb' => ?_⟩
      simp at hb'; subst hb'
      obtain ⟨e, he, rfl⟩ := List.mem_map.1 ha
      have := hc e he
      omega
    · intro e he
      simp at he
      rcases he with he | rfl
      · have := hc e (by simpa using he); omega
      · simp
/-- delete(m, k) -/
theorem drop_map {t kt et ty : TypeId} {tk : TypeId} (K : KeyT P kt ke) (ht : P.underlying t = some (.map kt et)) (h : MapAt w r ke ve m) (k : κ) :
    ∃ w', (Builtin.delete_ #[t, tk] ty #[.map (some r), ke k]).run P w = .ok (.tuple #[]) w' ∧ MapAt w' r ke ve (mdel m k) ∧ Ext [r] w w' := by
  have hlt := h.lt
  have hn := nodup_mdel h.nodup k
  obtain ⟨es, clock, hh, hm, _, hb, hc⟩ := h
  obtain ⟨d, hd, hs⟩ := K.same
  rcases findNow_spec hs k es.toList m 0 hm with ⟨j, y, g1, g2, g3, g4, g5, g6⟩ | ⟨g1, g2, g3, g4⟩
  · have hf := run_findKey (P := P) (w := w) hd g2
    have hj2 : 0 + j < es.size := by simpa using g6
    have hset : (setObj r (.map (es.eraseIdxIfInBounds (0 + j)) clock)).run P w = .ok () (w.putObj r (.map (es.eraseIdxIfInBounds (0 + j)) clock)) := run_setMap _ hh
    have hl : (es.eraseIdxIfInBounds (0 + j)).toList = es.toList.eraseIdx j := by
      simp only [Array.eraseIdxIfInBounds, hj2, dif_pos]
      simp
    refine ⟨w.putObj r (.map (es.eraseIdxIfInBounds (0 + j)) clock), ?_, ⟨es.eraseIdxIfInBounds (0 + j), clock, World.putObj_heap_same hlt, ?_, hn, ?_, ?_⟩, putObj_ext _ _ _⟩
    · simp [Builtin.delete_, run_underlying ht, run_getMap hh, K.check, hf]
      rw [← Nat.zero_add j]
      simp only [hset, Result.andThen_ok]
    · rw [hl, g5, ← eraseIdx_map', hm, eraseIdx_map']
    · rw [hl, ← eraseIdx_map']; exact hb.eraseIdx _
    · intro e he
      rw [hl] at he
      exact hc e (List.mem_of_mem_eraseIdx he)
  · have hf := run_findKey (P := P) (w := w) hd g2
    have hset : (setObj r (.map es clock)).run P w = .ok () (w.putObj r (.map es clock)) := run_setMap _ hh
    refine ⟨w.putObj r (.map es clock), ?_, ⟨es, clock, World.putObj_heap_same hlt, by rw [g4]; exact hm, hn, hb, hc⟩, putObj_ext _ _ _⟩
    simp [Builtin.delete_, run_underlying ht, run_getMap hh, K.check, hf, hset]
theorem len_map {t kt et ty : TypeId} (ht : P.underlying t = some (.map kt et)) (h : MapAt w r ke ve m) : (Builtin.len_ #[t] ty #[.map (some r)]).run P w = .ok (.int .i64 (m.length : Int)) w := by
  obtain ⟨es, clock, hh, hm, _⟩ := h
  have : es.size = m.length := by have := congrArg List.length hm; simpa using this
  simp [Builtin.len_, run_underlying ht, run_getMap hh, goInt, this]
theorem len_nil {t kt et ty : TypeId} (ht : P.underlying t = some (.map kt et)) : (Builtin.len_ #[t] ty #[.map none]).run P w = .ok (.int .i64 0) w := by
  simp [Builtin.len_, run_underlying ht, goInt]
end
end Go.B
