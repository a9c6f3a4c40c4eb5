/- The index and the document's: what the one tells the other tells. -/
import Derived.Test.YtjlkdadafddodaaGreatDoorE3
set_option linter.unusedVariables false
set_option linter.unusedSimpArgs false
namespace Go.Proofs.YtjlkdadafddodaaGreatDoor
open Go Go.V Go.B

/-- Both hold the same entries. -/
structure Rel (x : Ix) (rows : List DR) : Prop where
  uniq : UniqD rows
  tell : ∀ k i n, x.val k i = some n ↔ ∃ r ∈ rows, r.key = k ∧ r.slot = i ∧ r.n = n
theorem Rel.none_iff {x : Ix} {rows : List DR} (h : Rel x rows) (key : ByteArray) (slot : Int) : noRow rows key slot ↔ x.val key slot = none := by
  constructor
  · intro hno
    cases hv : x.val key slot with
    | none => rfl
    | some n =>
      obtain ⟨r, hr, h1, h2, _⟩ := (h.tell key slot n).1 hv
      exact absurd ⟨h1, h2⟩ (hno r hr)
  · intro hv r hr hh
    have := (h.tell key slot r.n).2 ⟨r, hr, hh.1, hh.2, rfl⟩
    rw [hv] at this; cases this
theorem Rel.put {x x' : Ix} {d d' : Doc} {key : ByteArray} {slot n e : Int} (h : Rel x d.rows) (hp : PutD d d' key slot n e) (h1 : barV x.N key slot ≠ 0 → e = barV x.N key slot) (h2 : barV x.N key slot = 0 → (e = 82 ∧ ¬ noRow d.rows key slot) ∨ (e = 0 ∧ noRow d.rows key slot))
    (hv : ∀ k i, x'.val k i = if putE x key slot = 0 ∧ k = key ∧ i = slot then some n else x.val k i) : putE x key slot = e ∧ Rel x' d'.rows := by
  have same : e ≠ 0 → putE x key slot = e → putE x key slot = e ∧ Rel x' d'.rows := fun he hp' => by
    refine ⟨hp', ?_⟩
    rcases hp.alt with ⟨_, _, _, _, hr⟩ | ⟨h0, _⟩
    · rw [hr]
      exact ⟨h.uniq, fun k i m => by rw [hv, if_neg (fun hh => he (hp' ▸ hh.1)), h.tell]⟩
    · exact absurd h0 he
  by_cases hb : barV x.N key slot = 0
  · rcases h2 hb with ⟨rfl, hno⟩ | ⟨rfl, hno⟩
    · have hs : (x.val key slot).isSome = true := by
        cases hq : x.val key slot with
        | none => exact absurd ((h.none_iff key slot).2 hq) hno
        | some n => rfl
      exact same (by decide) (by unfold putE; rw [if_neg (by simp [hb]), hs]; rfl)
    · have hq := (h.none_iff key slot).1 hno
      have he : putE x key slot = 0 := by unfold putE; rw [if_neg (by simp [hb]), hq]; rfl
      refine ⟨he, ?_⟩
      rcases hp.alt with ⟨h0, _⟩ | ⟨_, hr, _⟩
      · exact absurd rfl h0
      · rw [hr]
        refine ⟨List.pairwise_append.2 ⟨h.uniq, by simp, fun a ha b hb' => ?_⟩, fun k i m => ?_⟩
        · simp at hb'; subst hb'
          exact hno a ha
        · rw [hv]
          constructor
          · intro hm
            split at hm
            · rename_i hh
              cases hm
              exact ⟨⟨key, slot, n⟩, by simp, hh.2.1.symm, hh.2.2.symm, rfl⟩
            · obtain ⟨r, hr', q⟩ := (h.tell k i m).1 hm
              exact ⟨r, by simp [hr'], q⟩
          · rintro ⟨r, hr', q1, q2, q3⟩
            rcases List.mem_append.1 hr' with hr' | hr'
            · rw [if_neg (fun hh => hno r hr' ⟨q1.trans hh.2.1, q2.trans hh.2.2⟩)]
              exact (h.tell k i m).2 ⟨r, hr', q1, q2, q3⟩
            · simp at hr'; subst hr'
              rw [if_pos ⟨he, q1.symm, q2.symm⟩, ← q3]
  · have hb' := h1 hb
    exact same (by rw [hb']; exact hb) (by unfold putE; rw [if_pos hb, hb'])
theorem uniq_erase {rows : List DR} (h : UniqD rows) (i : Nat) : UniqD (rows.eraseIdx i) := List.Pairwise.sublist (List.eraseIdx_sublist rows i) h
theorem mem_eraseD {rows : List DR} (h : UniqD rows) {i : Nat} {r s : DR} (hi : rows[i]? = some r) : s ∈ rows.eraseIdx i ↔ s ∈ rows ∧ ¬ (s.key = r.key ∧ s.slot = r.slot) := by
  have idx : ∀ {j : Nat}, rows[j]? = some s → s.key = r.key → s.slot = r.slot → j = i := fun {j} hj e1 e2 => by
    obtain ⟨li, ei⟩ := List.getElem?_eq_some_iff.1 hi
    obtain ⟨lj, ej⟩ := List.getElem?_eq_some_iff.1 hj
    rcases Nat.lt_trichotomy i j with hl | hl | hl
    · have := List.pairwise_iff_getElem.1 h i j li lj hl
      rw [ei, ej] at this; exact absurd ⟨e1.symm, e2.symm⟩ this
    · exact hl.symm
    · have := List.pairwise_iff_getElem.1 h j i lj li hl
      rw [ei, ej] at this; exact absurd ⟨e1, e2⟩ this
  rw [List.mem_eraseIdx_iff_getElem?]
  constructor
  · rintro ⟨j, hji, hj⟩
    exact ⟨List.mem_of_getElem? hj, fun hh => hji (idx hj hh.1 hh.2)⟩
  · rintro ⟨hs, hne⟩
    obtain ⟨j, hj⟩ := List.mem_iff_getElem?.1 hs
    exact ⟨j, fun e => by subst e; rw [hi] at hj; cases hj; exact hne ⟨rfl, rfl⟩, hj⟩
theorem Rel.del {x x' : Ix} {d d' : Doc} {key : ByteArray} {slot e : Int} (h : Rel x d.rows) (hp : DelD d d' key slot e) (h1 : barV x.N key slot ≠ 0 → e = barV x.N key slot) (h2 : barV x.N key slot = 0 → (e = 83 ∧ noRow d.rows key slot) ∨ (e = 0 ∧ ¬ noRow d.rows key slot))
    (hv : ∀ k i, x'.val k i = if delE x key slot = 0 ∧ k = key ∧ i = slot then none else x.val k i) : delE x key slot = e ∧ Rel x' d'.rows := by
  have same : e ≠ 0 → delE x key slot = e → delE x key slot = e ∧ Rel x' d'.rows := fun he hp' => by
    refine ⟨hp', ?_⟩
    rcases hp.alt with ⟨_, hr⟩ | ⟨h0, _⟩
    · rw [hr]
      exact ⟨h.uniq, fun k i m => by rw [hv, if_neg (fun hh => he (hp' ▸ hh.1)), h.tell]⟩
    · exact absurd h0 he
  by_cases hb : barV x.N key slot = 0
  · rcases h2 hb with ⟨rfl, hno⟩ | ⟨rfl, hno⟩
    · have hq := (h.none_iff key slot).1 hno
      exact same (by decide) (by unfold delE; rw [if_neg (by simp [hb]), hq]; rfl)
    · have hs : (x.val key slot).isSome = true := by
        cases hq : x.val key slot with
        | none => exact absurd ((h.none_iff key slot).2 hq) hno
        | some n => rfl
      have he : delE x key slot = 0 := by unfold delE; rw [if_neg (by simp [hb]), hs]; rfl
      refine ⟨he, ?_⟩
      rcases hp.alt with ⟨h0, _⟩ | ⟨_, i, r, hi, q1, q2, hr⟩
      · exact absurd rfl h0
      · rw [hr]
        refine ⟨uniq_erase h.uniq i, fun k j m => ?_⟩
        rw [hv]
        constructor
        · intro hm
          split at hm
          · cases hm
          · rename_i hh
            obtain ⟨s, hs', g1, g2, g3⟩ := (h.tell k j m).1 hm
            refine ⟨s, (mem_eraseD h.uniq hi).2 ⟨hs', fun e => hh ⟨he, ?_, ?_⟩⟩, g1, g2, g3⟩
            · rw [← g1, e.1, q1]
            · rw [← g2, e.2, q2]
        · rintro ⟨s, hs', g1, g2, g3⟩
          obtain ⟨hs', hne⟩ := (mem_eraseD h.uniq hi).1 hs'
          rw [if_neg (fun hh => hne ⟨by rw [g1, q1]; exact hh.2.1, by rw [g2, q2]; exact hh.2.2⟩)]
          exact (h.tell k j m).2 ⟨s, hs', g1, g2, g3⟩
  · have hb' := h1 hb
    exact same (by rw [hb']; exact hb) (by unfold delE; rw [if_pos hb, hb'])
theorem Rel.nil {x : Ix} (h : ∀ k i, x.val k i = none) : Rel x [] := ⟨List.Pairwise.nil, fun k i n => by rw [h]; simp⟩
theorem val_nat {x : Ix} (ok : IxOk x) {k : ByteArray} {i n : Int} (h : x.val k i = some n) : ∃ j : Nat, i = j ∧ j < x.N := by
  unfold Ix.val at h
  cases hc : x.cols k with
  | none => rw [hc] at h; cases h
  | some C =>
    rw [hc] at h
    exact (ok.ok k C hc).1.keys i n h
/-- What the document lists and what a set holds. -/
theorem Rel.slots {x : Ix} {rows : List DR} (h : Rel x rows) (ok : IxOk x) (key : ByteArray) (Q : Int → Prop) (z : Int) : (∃ r ∈ rows, (r.key = key ∧ Q r.n) ∧ r.slot = z) ↔ ∃ i : Nat, z = i ∧ ∃ a, x.val key (i : Int) = some a ∧ Q a := by
  constructor
  · rintro ⟨r, hr, ⟨h1, h2⟩, h3⟩
    have hv := (h.tell key z r.n).2 ⟨r, hr, h1, h3, rfl⟩
    obtain ⟨j, rfl, _⟩ := val_nat ok hv
    exact ⟨j, rfl, r.n, hv, h2⟩
  · rintro ⟨i, rfl, a, hv, hq⟩
    obtain ⟨r, hr, h1, h2, h3⟩ := (h.tell key i a).1 hv
    exact ⟨r, hr, ⟨h1, by rw [h3]; exact hq⟩, h2⟩
theorem mi_rise (S : SetV) : RiseL S.mi := by
  unfold RiseL SetV.mi SetV.members
  rw [List.pairwise_map]
  refine List.Pairwise.filter _ ?_
  exact (List.pairwise_lt_range (n := S.N)).imp fun h => by simpa using h
theorem rise_eq {l m : List Int} (hl : RiseL l) (hm : RiseL m) (h : ∀ a, a ∈ l ↔ a ∈ m) : l = m := eq_of_rise (lt := fun a b : Int => a < b) (fun a => by omega) (fun a b => by omega) hl hm h
theorem mem_mi {S : SetV} (h : S.Ok) (z : Int) : z ∈ S.mi ↔ ∃ i : Nat, z = i ∧ S.mem i = true := by
  unfold SetV.mi
  rw [List.mem_map]
  constructor
  · rintro ⟨i, hi, rfl⟩
    exact ⟨i, rfl, (mem_members h i).1 hi⟩
  · rintro ⟨i, rfl, hi⟩
    exact ⟨i, (mem_members h i).2 hi, rfl⟩
/-- The members are the document's list. -/
theorem Rel.mi {x : Ix} {rows : List DR} (h : Rel x rows) (ok : IxOk x) {key : ByteArray} {Q : Int → Prop} {S : SetV} (hS : S.Ok) {φ : Nat → Prop} (hm : ∀ i, S.mem i = true ↔ φ i) (hφ : ∀ i, φ i ↔ ∃ a, x.val key (i : Int) = some a ∧ Q a) {ys : List Int} (hr : RiseL ys) (hy : ∀ z, z ∈ ys ↔ ∃ r ∈ rows, (r.key = key ∧ Q r.n) ∧ r.slot = z) : S.mi = ys :=
  rise_eq (mi_rise S) hr fun z => by
    rw [mem_mi hS, hy, h.slots ok]
    constructor
    · rintro ⟨i, e, hi⟩; exact ⟨i, e, (hφ i).1 ((hm i).1 hi)⟩
    · rintro ⟨i, e, hi⟩; exact ⟨i, e, (hm i).2 ((hφ i).2 hi)⟩
/-- The rows' numbers. -/
theorem Rel.nums {x : Ix} {rows : List DR} (h : Rel x rows) (ok : IxOk x) {key : ByteArray} {ys : List Int} (hr : RiseL ys) (hy : ∀ z, z ∈ ys ↔ ∃ r ∈ rows, (r.key = key ∧ True) ∧ r.n = z) : ys = (x.colOf key).rows.map (·.n) := by
  have okc := ok.colOf key
  refine rise_eq hr ?_ fun z => ?_
  · show List.Pairwise _ _
    rw [List.pairwise_map]
    exact okc.1.rise
  · rw [hy, List.mem_map]
    constructor
    · rintro ⟨r, hr', ⟨h1, _⟩, h3⟩
      have hv := (h.tell key r.slot r.n).2 ⟨r, hr', h1, rfl, rfl⟩
      obtain ⟨j, ej, _⟩ := val_nat ok hv
      rw [ej, Ix.val_col] at hv
      obtain ⟨s, hs, e, _⟩ := (okc.1.tell j r.n).1 hv
      exact ⟨s, hs, e.trans h3⟩
    · rintro ⟨s, hs, rfl⟩
      obtain ⟨i, hi⟩ := okc.2 s hs
      have hv := (okc.1.tell i s.n).2 ⟨s, hs, rfl, hi⟩
      rw [← Ix.val_col] at hv
      obtain ⟨r, hr', h1, h2, h3⟩ := (h.tell key i s.n).1 hv
      exact ⟨r, hr', ⟨h1, trivial⟩, h3⟩
theorem row_mem {x : Ix} (ok : IxOk x) {key : ByteArray} {r : Rw} (hr : r ∈ (x.colOf key).rows) (i : Nat) : r.S.mem i = true ↔ ∃ a, x.val key (i : Int) = some a ∧ (r.n ≤ a ∧ a ≤ r.n) := by
  have okc := ok.colOf key
  constructor
  · intro hi
    exact ⟨r.n, by rw [Ix.val_col]; exact (okc.1.tell i r.n).2 ⟨r, hr, rfl, hi⟩, by omega, by omega⟩
  · rintro ⟨a, hv, h1, h2⟩
    rw [Ix.val_col] at hv
    obtain ⟨s, hs, e, hi⟩ := (okc.1.tell i a).1 hv
    have := okc.1.rise.uniq hs hr (by omega)
    subst this; exact hi
theorem cols_iff {x : Ix} (kx : IxOk x) (k : ByteArray) : x.cols k ≠ none ↔ ∃ i, x.val k i ≠ none := by
  unfold Ix.val
  cases hc : x.cols k with
  | none => simp
  | some C =>
    simp only [ne_eq, reduceCtorEq, not_false_eq_true, Option.bind_some, true_iff]
    obtain ⟨⟨kk, vv⟩, tl', hof⟩ : ∃ p tl', C.of = p :: tl' := by
      cases hq : C.of with
      | nil => exact absurd hq (kx.ok k C hc).2.2
      | cons p tl' => exact ⟨p, tl', rfl⟩
    exact ⟨kk, by rw [hof]; simp [mget]⟩
theorem Rel.keys {x : Ix} {rows : List DR} (h : Rel x rows) (ok : IxOk x) {xs ys : List ByteArray} (hx : KeysOf x xs) (hs : Strict ys) (hy : ∀ z, z ∈ ys ↔ ∃ r ∈ rows, r.key = z) : xs = ys :=
  strict_eq hx.strict hs fun k => by
    rw [hx.mem, cols_iff ok, hy]
    constructor
    · rintro ⟨i, hi⟩
      cases hv : x.val k i with
      | none => exact absurd hv hi
      | some n =>
        obtain ⟨r, hr, h1, _⟩ := (h.tell k i n).1 hv
        exact ⟨r, hr, h1⟩
    · rintro ⟨r, hr, h1⟩
      have := (h.tell k r.slot r.n).2 ⟨r, hr, h1, rfl, rfl⟩
      exact ⟨r.slot, by rw [this]; simp⟩
theorem sub_len {α : Type} [DecidableEq α] : ∀ {l m : List α}, l.Nodup → (∀ a ∈ l, a ∈ m) → l.length ≤ m.length
  | [], m, _, _ => Nat.zero_le _
  | a :: l, m, hn, hs => by
    have hd := List.nodup_cons.1 hn
    have ha := hs a (by simp)
    have h1 : l.length ≤ (m.erase a).length := sub_len hd.2 fun b hb => (List.mem_erase_of_ne (by rintro rfl; exact hd.1 hb)).2 (hs b (by simp [hb]))
    have h2 := List.length_erase_of_mem ha
    have h3 := List.length_pos_of_mem ha
    simp; omega
def DR.three (r : DR) : ByteArray × Int × Int := (r.key, r.slot, r.n)
theorem uniq_nodup {rows : List DR} (h : UniqD rows) : (rows.map DR.three).Nodup := by
  refine List.Pairwise.map _ (fun a b hne e => ?_) h
  unfold DR.three at e
  exact hne ⟨congrArg (·.1) e, congrArg (·.2.1) e⟩
theorem mem_three {rows : List DR} {k : ByteArray} {i n : Int} : (k, i, n) ∈ rows.map DR.three ↔ ∃ r ∈ rows, r.key = k ∧ r.slot = i ∧ r.n = n := by
  rw [List.mem_map]
  constructor
  · rintro ⟨r, hr, e⟩
    unfold DR.three at e
    injection e with e1 e2
    injection e2 with e2 e3
    exact ⟨r, hr, e1, e2, e3⟩
  · rintro ⟨r, hr, rfl, rfl, rfl⟩
    exact ⟨r, hr, rfl⟩
/-- Both say the same of two. -/
theorem Rel.same {x y : Ix} {a b : List DR} (hx : Rel x a) (hy : Rel y b) : (∀ k i, x.val k i = y.val k i) ↔ (a.length = b.length ∧ ∀ r ∈ a, ∃ s ∈ b, s.key = r.key ∧ s.slot = r.slot ∧ s.n = r.n) := by
  have na := uniq_nodup hx.uniq
  have nb := uniq_nodup hy.uniq
  constructor
  · intro h
    have tr : ∀ k i n, (k, i, n) ∈ a.map DR.three ↔ (k, i, n) ∈ b.map DR.three := fun k i n => by rw [mem_three, mem_three, ← hx.tell, ← hy.tell, h]
    refine ⟨?_, fun r hr => ?_⟩
    · have h1 := sub_len na (m := b.map DR.three) fun ⟨k, i, n⟩ hm => (tr k i n).1 hm
      have h2 := sub_len nb (m := a.map DR.three) fun ⟨k, i, n⟩ hm => (tr k i n).2 hm
      simp at h1 h2; omega
    · have := (hx.tell r.key r.slot r.n).2 ⟨r, hr, rfl, rfl, rfl⟩
      rw [h] at this
      exact (hy.tell r.key r.slot r.n).1 this
  · rintro ⟨hl, hs⟩ k i
    have fwd : ∀ n, x.val k i = some n → y.val k i = some n := fun n hv => by
      obtain ⟨r, hr, h1, h2, h3⟩ := (hx.tell k i n).1 hv
      obtain ⟨s, hs', g1, g2, g3⟩ := hs r hr
      exact (hy.tell k i n).2 ⟨s, hs', g1.trans h1, g2.trans h2, g3.trans h3⟩
    cases hv : x.val k i with
    | some n => exact (fwd n hv).symm
    | none =>
      cases hw : y.val k i with
      | none => rfl
      | some n =>
        exfalso
        have hin : (k, i, n) ∈ b.map DR.three := mem_three.2 ((hy.tell k i n).1 hw)
        have hout : (k, i, n) ∉ a.map DR.three := fun hm => by
          have := (hx.tell k i n).2 (mem_three.1 hm)
          rw [hv] at this; cases this
        have := sub_len (l := (k, i, n) :: a.map DR.three) (m := b.map DR.three) (List.nodup_cons.2 ⟨hout, na⟩) fun t ht => by
          rcases List.mem_cons.1 ht with rfl | ht
          · exact hin
          · obtain ⟨r, hr, rfl⟩ := List.mem_map.1 ht
            obtain ⟨s, hs', g1, g2, g3⟩ := hs r hr
            exact mem_three.2 ⟨s, hs', g1, g2, g3⟩
        simp at this; omega
/-- The index that is nil. -/
def nilX : Ix := ⟨0, 0, 0, fun _ => none⟩
theorem nilX_ok : IxOk nilX := ⟨fun k C h => (by cases h), rfl⟩
theorem nil_val {x : Ix} (h : ∀ k, x.cols k = none) (k : ByteArray) (i : Int) : x.val k i = none := by unfold Ix.val; rw [h]; rfl
theorem KeysR_c {w : World} {q : Option Addr} {x : Ix} (h : IxR w q x) (hc : ∀ F cnt, IxAt w F cnt x → q ≠ none → ∃ F' cnt', IxAt w F' cnt' x ∧ cnt' ≤ 8000000000000) {R : Ending → World → Prop}
    (k : ∀ A n c xs w', Ext [] w w' → OwnL SL w' w.heap.size 9 A n c xs → KeysOf x xs → n ≤ 8000000000000 → R (.returned (.slice A n c)) w') :
    Calls Tryz.prog 32 #[.pointer q] w R := by
  rcases h with ⟨rfl, _, hn⟩ | ⟨F, cnt, rfl, h⟩
  · exact Keys_nil (k none 0 0 [] w (Ext.refl _ _) (OwnL.nil _ _ _) ⟨List.Pairwise.nil, fun k => by simp [hn]⟩ (by omega))
  · obtain ⟨F', cnt', h', hc'⟩ := hc F cnt h (by simp)
    exact Keys_c h' hc' fun A n c xs w' e own hk hn => k A n c xs w' e own hk (by omega)
/-- An index or nil, with its bound. -/
structure IxB (w : World) (q : Option Addr) (x : Ix) : Prop where
  g : IxG w q x
  b : q ≠ none → ∃ F cnt, IxAt w F cnt x ∧ cnt ≤ 8000000000000
theorem IxB.ext0 {w w' : World} {q : Option Addr} {x : Ix} (h : IxB w q x) (e : Ext [] w w') : IxB w' q x := ⟨h.g.ext0 e, fun hq => by obtain ⟨F, cnt, h1, h2⟩ := h.b hq; exact ⟨F, cnt, h1.ext0 e, h2⟩⟩
theorem KeysB_c {w : World} {q : Option Addr} {x : Ix} (h : IxB w q x) {R : Ending → World → Prop}
    (k : ∀ A n c xs w', Ext [] w w' → OwnL SL w' w.heap.size 9 A n c xs → KeysOf x xs → n ≤ 8000000000000 → R (.returned (.slice A n c)) w') :
    Calls Tryz.prog 32 #[.pointer q] w R := KeysR_c h.g.r (fun _ _ _ hq => h.b hq) k
set_option maxRecDepth 4000 in
theorem SameB_c {w : World} {p q : Option Addr} {x y : Ix} (hx : IxB w p x) (hy : IxB w q y) {R : Ending → World → Prop}
    (k : ∀ t w', (t = true ↔ ∀ k i, x.val k i = y.val k i) → Ext [] w w' → R (.returned (.bool t)) w') : Calls Tryz.prog 51 #[.pointer p, .pointer q] w R := by
  apply ordered_Same_nf
  have kx := hx.g.ok
  have ky := hy.g.ok
  refine KeysB_c hx fun A n c xs w5 e5 own5 hk5 hn5 => ⟨_, _, _, rfl, KeysB_c (hy.ext0 e5) fun B m d ys w8 e8 own8 hk8 hm8 => ⟨_, _, _, rfl, ?_⟩⟩
  have hxl := own5.len
  have hyl := own8.len
  have e58 := e5.trans e8
  refine Equal_str (own5.cells.ext0 e8) hxl own8.cells hyl (by omega) fun t w11 ht e11 => ⟨_, rfl, ?_⟩
  have e11' := e58.trans e11
  cases t with
  | false =>
    refine sel_true rfl (k false w11 ⟨fun h => (by cases h), fun h => ?_⟩ e11')
    have : xs = ys := strict_eq hk5.strict hk8.strict fun a => by
      rw [hk5.mem, hk8.mem, cols_iff kx, cols_iff ky]
      simp only [h]
    have := ht.2 this
    cases this
  | true =>
    have hxy := ht.1 rfl
    subst hxy
    refine sel_false rfl ⟨fun t w' => ∃ a : Nat, t = a ∧ a ≤ n ∧ Ext [] w11 w' ∧ ∀ kk ∈ xs.take a, ∀ i, x.val kk i = y.val kk i, fun t _ => n - t.toNat, ⟨0, rfl, by omega, Ext.refl _ _, by simp⟩, ?_⟩
    rintro _ _ w16 ⟨a, rfl, ha, f16, hall⟩
    have e16 := e11'.trans f16
    refine sel_dec (fun hlt => ?_) (fun hge => k true w16 ⟨fun _ kk i => ?_, fun _ => rfl⟩ e16)
    · have hlt : a < n := by omega
      obtain ⟨key, hkey⟩ : ∃ key, xs[a]? = some key := ⟨xs[a]'(by omega), List.getElem?_eq_getElem (by omega)⟩
      obtain ⟨ad, rfl, hc⟩ := sl_cell (((own5.cells.ext0 e8).ext0 e11).ext0 f16) hkey
      refine when_dec ⟨by omega, by omega⟩ (ptr_in ⟨_, hc, column_c (w0 := w) hx.g.r e16 key fun c1 f1 w21 e21 v1 _ _ => ⟨_, rfl, column_c (w0 := w) hy.g.r (e16.trans e21) key fun c2 f2 w24 e24 v2 _ _ => ⟨_, rfl, ?_⟩⟩⟩)
      have okx := kx.colOf key
      have oky := ky.colOf key
      have hlx := IxR.rows hx.g.r hx.g.few key
      refine samecol_c (v1.ext0 e24) v2 (by omega) fun t w27 ht27 e27 => ⟨_, rfl, ?_⟩
      have hiff := ht27.trans (rows_eq_iff okx.1 okx.2 oky.1 oky.2)
      have E27 := ((e16.trans e21).trans e24).trans e27
      cases t with
      | false =>
        refine sel_true rfl (k false w27 ⟨fun h => (by cases h), fun h => ?_⟩ E27)
        have := hiff.2 fun i => by rw [← Ix.val_col, ← Ix.val_col]; exact h key i
        cases this
      | true =>
        refine sel_false rfl ?_
        rw [up64 a (by omega)]
        refine ⟨⟨a + 1, rfl, by omega, ((f16.trans e21).trans e24).trans e27, fun kk hkk i => ?_⟩, by simp only [Int.toNat_natCast]; omega⟩
        rcases (snoc_mem hkey).1 hkk with hkk | rfl
        · exact hall kk hkk i
        · rw [Ix.val_col, Ix.val_col]; exact hiff.1 rfl i
    · have : a = n := by omega
      subst this
      rw [List.take_of_length_le (by omega)] at hall
      by_cases hin : kk ∈ xs
      · exact hall kk hin i
      · have h1 : x.cols kk = none := by
          cases hq : x.cols kk with
          | none => rfl
          | some C => exact absurd ((hk5.mem kk).2 (by rw [hq]; simp)) hin
        have h2 : y.cols kk = none := by
          cases hq : y.cols kk with
          | none => rfl
          | some C => exact absurd ((hk8.mem kk).2 (by rw [hq]; simp)) hin
        unfold Ix.val
        rw [h1, h2]
theorem NewIx_bad {n : Int} (hn : n < 0 ∨ 65536 < n) {w : World} {R : Ending → World → Prop} (k : R (.returned (.tuple #[.pointer none, .int .i64 84])) w) : Calls Tryz.prog 14 #[.int .i64 n] w R := by
  apply ordered_New_nf
  refine sel_dec (fun h => k) (fun _ => sel_dec (fun h => k) (fun _ => ?_))
  omega
theorem Put_nil {w : World} (key : ByteArray) (slot n : Int) {R : Ending → World → Prop} (k : R (.returned (.int .i64 1)) w) : Calls Tryz.prog 15 #[.pointer none, .string key, .int .i64 slot, .int .i64 n] w R := by
  apply ordered_Index_Put_nf
  exact bars_nil key slot ⟨_, rfl, sel_true rfl k⟩
theorem Del_nil {w : World} (key : ByteArray) (slot : Int) {R : Ending → World → Prop} (k : R (.returned (.int .i64 1)) w) : Calls Tryz.prog 46 #[.pointer none, .string key, .int .i64 slot] w R := by
  apply ordered_Index_Del_nf
  exact bars_nil key slot ⟨_, rfl, sel_true rfl k⟩
end Go.Proofs.YtjlkdadafddodaaGreatDoor
