/- Labels: the differences of two lists, a list with its differences; no program. -/
import Derived.Test.YtpipenkaaodlgaaGreatDoorLp3
set_option linter.unusedVariables false
set_option linter.unusedSimpArgs false
namespace Go.B

theorem mem_keys {k : ByteArray} {l : List Lab} : k ∈ keys l ↔ ∃ x ∈ l, x.1 = k := by simp [keys]
theorem ris_not {a : Lab} {l : List Lab} (h : ∀ z ∈ l, bs a.1 < bs z.1) : a.1 ∉ keys l := fun hm => by
  obtain ⟨z, hz, e⟩ := mem_keys.1 hm
  exact gt_ne (h z hz) e.symm
theorem mergeU_iff {z : Lab} : ∀ {r s : List Lab}, Ris r → Ris s → (z ∈ mergeU r s ↔ z ∈ r ∨ (z ∈ s ∧ z.1 ∉ keys r)) := by
  intro r s
  induction r, s using mergeU.induct with
  | case1 => intro _ _; rw [mergeU]; simp
  | case2 y r ih =>
    intro h1 h2
    rw [mergeU, List.mem_cons, ih (List.pairwise_cons.1 h1).2 h2]; simp
  | case3 y s ih =>
    intro h1 h2
    rw [mergeU, List.mem_cons, ih h1 (List.pairwise_cons.1 h2).2]; simp [keys]
  | case4 a r b s hlt ih =>
    intro h1 h2
    have h3 := List.pairwise_cons.1 h1
    rw [mergeU, if_pos hlt, List.mem_cons, ih h3.2 h2, List.mem_cons (b := a), or_assoc]
    refine or_congr_right (or_congr_right (and_congr_right fun hz => ?_))
    have : z.1 ≠ a.1 := by
      rcases List.mem_cons.1 hz with rfl | hz
      · exact (gt_ne hlt).symm
      · exact (gt_ne (List.lt_trans hlt ((List.pairwise_cons.1 h2).1 z hz))).symm
    simp [keys, this]
  | case5 a r b s hn hlt ih =>
    intro h1 h2
    have h3 := List.pairwise_cons.1 h2
    have hb : b.1 ∉ keys (a :: r) := ris_not fun z hz => by
      rcases List.mem_cons.1 hz with rfl | hz
      · exact hlt
      · exact List.lt_trans hlt ((List.pairwise_cons.1 h1).1 z hz)
    rw [mergeU, if_neg hn, if_pos hlt, List.mem_cons, ih h1 h3.2, List.mem_cons (b := b)]
    constructor
    · rintro (rfl | h | ⟨h, h'⟩)
      · exact .inr ⟨.inl rfl, hb⟩
      · exact .inl h
      · exact .inr ⟨.inr h, h'⟩
    · rintro (h | ⟨rfl | h, h'⟩)
      · exact .inr (.inl h)
      · exact .inl rfl
      · exact .inr (.inr ⟨h, h'⟩)
  | case6 a r b s hn hn2 ih =>
    intro h1 h2
    have h3 := List.pairwise_cons.1 h1
    have h4 := List.pairwise_cons.1 h2
    have e : a.1 = b.1 := bs_inj (lt_tri hn hn2)
    rw [mergeU, if_neg hn, if_neg hn2, List.mem_cons, ih h3.2 h4.2, List.mem_cons (b := b), List.mem_cons (b := a), or_assoc]
    refine or_congr_right (or_congr_right ?_)
    constructor
    · rintro ⟨h, h'⟩
      have : z.1 ≠ a.1 := by rw [e]; exact (gt_ne (h4.1 z h)).symm
      exact ⟨.inr h, by simpa [keys, this] using h'⟩
    · rintro ⟨rfl | h, h'⟩
      · exact absurd (by simp [keys, e]) h'
      · exact ⟨h, fun hm => h' (by unfold keys at hm ⊢; simp only [List.map_cons, List.mem_cons]; exact .inr hm)⟩
/-- What the document puts together, in its order. -/
def unionS (was now : List Lab) : List Lab := was ++ now.filter fun x => !(getS was x.1).2
theorem union_nodup {r s : List Lab} (h1 : Ris r) (h2 : Ris s) : (keys (unionS r s)).Nodup := by
  unfold unionS keys
  rw [List.map_append, List.nodup_append]
  refine ⟨h1.nodup, ?_, fun a ha b hb e => ?_⟩
  · exact Ris.nodup (h2.filter _)
  · obtain ⟨z, hz, rfl⟩ := List.mem_map.1 hb
    have := (List.mem_filter.1 hz).2
    rw [Bool.not_eq_true'] at this
    have h3 : z.1 ∈ keys r := by rw [← e]; exact ha
    rw [getS_iff.2 h3] at this
    cases this
theorem ris_nodup {l : List Lab} (h : Ris l) : l.Nodup := List.Pairwise.imp (fun h e => by rw [e] at h; exact List.lt_irrefl _ h) h
theorem nodup_of_keys {l : List Lab} (h : (keys l).Nodup) : l.Nodup := by
  unfold keys at h
  rw [List.Nodup, List.pairwise_map] at h
  exact h.imp fun h e => h (by rw [e])
theorem mergeU_sort {r s : List Lab} (h1 : Ris r) (h2 : Ris s) : sortS (unionS r s) = mergeU r s := by
  have hn := union_nodup h1 h2
  refine (sortS_eq hn ?_ ((mergeU_ris h1 h2).imp lt_le)).symm
  refine (List.perm_ext_iff_of_nodup (ris_nodup (mergeU_ris h1 h2)) (nodup_of_keys hn)).2 fun z => ?_
  rw [mergeU_iff h1 h2]
  unfold unionS
  simp only [List.mem_append, List.mem_filter, Bool.not_eq_true']
  refine or_congr_right (and_congr_right fun _ => ?_)
  rw [← getS_iff, Bool.not_eq_true]
/-! ### what Check takes -/
structure OkL (l : List Lab) : Prop where
  len : l.length ≤ 32
  key : ∀ x ∈ l, keyS (bs x.1) = true
  val : ∀ x ∈ l, valS (bs x.2) = true
  ris : Ris l
theorem badAt_zero {p : Option ByteArray} {x : Lab} : badAt p x = 0 ↔ keyS (bs x.1) = true ∧ valS (bs x.2) = true ∧ ∀ q, p = some q → bs q < bs x.1 := by
  unfold badAt
  cases hk : keyS (bs x.1)
  · simp
  · cases hv : valS (bs x.2)
    · simp
    · cases p with
      | none => simp
      | some q =>
        by_cases h1 : x.1 = q
        · subst h1
          simp [List.lt_irrefl]
        · by_cases h2 : bs x.1 < bs q
          · simp [h1, h2]
            exact lt_le h2
          · simp only [if_neg h1, if_neg h2, true_iff]
            simp
            exact lt_of_le_ne (List.not_lt.1 h2) fun e => h1 (bs_inj e).symm
theorem checkGo_zero : ∀ {l : List Lab} {i : Int} {p : Option ByteArray}, (checkGo i p l).2 = 0 ↔ ((∀ x ∈ l, keyS (bs x.1) = true) ∧ (∀ x ∈ l, valS (bs x.2) = true) ∧ Ris l ∧ ∀ q, p = some q → ∀ x ∈ l, bs q < bs x.1)
  | [], i, p => by simp [checkGo, Ris]
  | x :: r, i, p => by
    rw [checkGo]
    by_cases h : badAt p x = 0
    · rw [if_pos h, checkGo_zero]
      obtain ⟨h1, h2, h3⟩ := badAt_zero.1 h
      constructor
      · rintro ⟨a, b, c, d⟩
        refine ⟨by simpa [h1] using a, by simpa [h2] using b, List.pairwise_cons.2 ⟨d _ rfl, c⟩, fun q hq y hy => ?_⟩
        rcases List.mem_cons.1 hy with rfl | hy
        · exact h3 q hq
        · exact List.lt_trans (h3 q hq) (d _ rfl y hy)
      · rintro ⟨a, b, c, d⟩
        have hc := List.pairwise_cons.1 c
        exact ⟨fun y hy => a y (by simp [hy]), fun y hy => b y (by simp [hy]), hc.2, fun q hq y hy => by cases hq; exact hc.1 y hy⟩
    · rw [if_neg h]
      constructor
      · intro h0; exact absurd h0 h
      · rintro ⟨a, b, c, d⟩
        exact absurd (badAt_zero.2 ⟨a x (by simp), b x (by simp), fun q hq => d q hq x (by simp)⟩) h
theorem checkS_zero {l : List Lab} : (checkS l).2 = 0 ↔ OkL l := by
  unfold checkS
  by_cases h : 32 < l.length
  · rw [if_pos h]
    exact ⟨fun h0 => absurd h0 (by decide), fun h0 => absurd h0.len (by omega)⟩
  · rw [if_neg h, checkGo_zero]
    exact ⟨fun ⟨a, b, c, _⟩ => ⟨by omega, a, b, c⟩, fun h0 => ⟨h0.key, h0.val, h0.ris, fun q hq => by cases hq⟩⟩
theorem checkGo_fst : ∀ {l : List Lab} {i : Int} {p : Option ByteArray}, (checkGo i p l).2 = 0 → (checkGo i p l).1 = 0
  | [], i, p, _ => rfl
  | x :: r, i, p, h => by
    rw [checkGo] at h ⊢
    by_cases hb : badAt p x = 0
    · rw [if_pos hb] at h ⊢; exact checkGo_fst h
    · rw [if_neg hb] at h; exact absurd h hb
theorem checkS_fst {l : List Lab} (h : (checkS l).2 = 0) : checkS l = (0, 0) := by
  unfold checkS at h ⊢
  by_cases hl : 32 < l.length
  · rw [if_pos hl] at h; exact absurd h (by decide)
  · rw [if_neg hl] at h ⊢
    exact Prod.ext (checkGo_fst h) h
def diffS (was now : List Lab) : List DL := if (checkS was).2 = 0 ∧ (checkS now).2 = 0 then mergeD was now else []
/-! ### a list with its differences -/
def wrongS (p : Option ByteArray) (l : List Lab) (d : DL) : Int :=
  if keyS (bs d.key) = false then 31
  else if p = some d.key then 33
  else if (∃ q, p = some q ∧ bs d.key < bs q) then 36
  else if (d.had = false ∧ d.has = false) ∨ (d.had = false ∧ d.old ≠ ByteArray.empty) ∨ (d.has = false ∧ d.new ≠ ByteArray.empty) ∨ (d.had = true ∧ d.has = true ∧ d.old = d.new) then 37
  else if (d.had = true ∧ valS (bs d.old) = false) ∨ (d.has = true ∧ valS (bs d.new) = false) then 32
  else if d.had ≠ (getS l d.key).2 ∨ (d.had = true ∧ d.old ≠ (getS l d.key).1) then 38 else 0
def stepP (out : List Lab) (d : DL) : List Lab := (if d.had = true then delS out d.key else out) ++ (if d.has = true then [(d.key, d.new)] else [])
open Classical in
def patchGo (l : List Lab) : Option ByteArray → List Lab → List DL → List Lab × Int
  | _, out, [] => if 32 < out.length then ([], 34) else (sortS out, 0)
  | p, out, d :: r => if wrongS p l d = 0 then patchGo l (some d.key) (stepP out d) r else ([], wrongS p l d)
def patchS (l : List Lab) (ds : List DL) : List Lab × Int := if (checkS l).2 ≠ 0 then ([], (checkS l).2) else patchGo l none l ds
theorem del_mem {l : List Lab} {k : ByteArray} {x : Lab} : x ∈ delS l k ↔ x ∈ l ∧ x.1 ≠ k := by simp [delS]
theorem del_keys {l : List Lab} {k q : ByteArray} : q ∈ keys (delS l k) ↔ q ∈ keys l ∧ q ≠ k := by
  simp only [mem_keys, del_mem]
  constructor
  · rintro ⟨x, ⟨h1, h2⟩, rfl⟩; exact ⟨⟨x, h1, rfl⟩, h2⟩
  · rintro ⟨⟨x, h1, rfl⟩, h2⟩; exact ⟨x, ⟨h1, h2⟩, rfl⟩
theorem del_nodup {l : List Lab} (h : (keys l).Nodup) (k : ByteArray) : (keys (delS l k)).Nodup := h.sublist ((List.filter_sublist).map _)
theorem put_nodup {l : List Lab} (h : (keys l).Nodup) (k v : ByteArray) : (keys (delS l k ++ [(k, v)])).Nodup := by
  have h1 := del_nodup h k
  unfold keys at h1 ⊢
  rw [List.map_append, List.nodup_append]
  refine ⟨h1, by simp, fun a ha b hb e => ?_⟩
  simp at hb
  exact (del_keys.1 (show a ∈ keys (delS l k) from ha)).2 (e.trans hb)
/-- While a list is patched, no key stands twice. -/
structure Pat (l : List Lab) (p : Option ByteArray) (out : List Lab) : Prop where
  nodup : (keys out).Nodup
  from_ : ∀ k ∈ keys out, k ∈ keys l ∨ ∃ q, p = some q ∧ bs k ≤ bs q
theorem Pat.start {l : List Lab} (h : Ris l) : Pat l none l := ⟨h.nodup, fun k hk => .inl hk⟩
theorem Pat.step {l out : List Lab} {p : Option ByteArray} {d : DL} (h : Pat l p out) (hw : wrongS p l d = 0) : Pat l (some d.key) (stepP out d) := by
  unfold wrongS at hw
  by_cases h1 : keyS (bs d.key) = false
  · rw [if_pos h1] at hw; cases hw
  rw [if_neg h1] at hw
  by_cases h2 : p = some d.key
  · rw [if_pos h2] at hw; cases hw
  rw [if_neg h2] at hw
  by_cases h3 : ∃ q, p = some q ∧ bs d.key < bs q
  · rw [if_pos h3] at hw; cases hw
  rw [if_neg h3] at hw
  have hlt : ∀ q, p = some q → bs q < bs d.key := fun q hq => lt_of_le_ne (List.not_lt.1 fun hl => h3 ⟨q, hq, hl⟩) fun e => h2 (by rw [hq, bs_inj e])
  have hle : ∀ k, (∃ q, p = some q ∧ bs k ≤ bs q) → bs k ≤ bs d.key := fun k ⟨q, hq, hk⟩ => List.le_trans hk (lt_le (hlt q hq))
  split at hw
  · cases hw
  split at hw
  · cases hw
  split at hw
  · cases hw
  rename_i h4 h5 h6
  have hin : d.had = false → d.key ∉ keys l := fun hf hm => h6 (.inl (by rw [hf, getS_iff.2 hm]; decide))
  have hout : d.had = false → d.key ∉ keys out := fun hf hm => by
    rcases h.from_ _ hm with h7 | ⟨q, hq, h7⟩
    · exact hin hf h7
    · exact List.lt_irrefl _ (List.lt_of_le_of_lt h7 (hlt q hq))
  have hmid : (keys (if d.had = true then delS out d.key else out)).Nodup ∧ d.key ∉ keys (if d.had = true then delS out d.key else out) ∧ ∀ k ∈ keys (if d.had = true then delS out d.key else out), k ∈ keys out := by
    cases hh : d.had
    · exact ⟨h.nodup, hout hh, fun k hk => hk⟩
    · exact ⟨del_nodup h.nodup _, fun hm => (del_keys.1 hm).2 rfl, fun k hk => (del_keys.1 hk).1⟩
  obtain ⟨m1, m2, m3⟩ := hmid
  refine ⟨?_, fun k hk => ?_⟩
  · unfold stepP keys
    rw [List.map_append, List.nodup_append]
    refine ⟨m1, by split <;> simp, fun a ha b hb e => ?_⟩
    split at hb
    · simp at hb
      subst hb
      rw [e] at ha
      exact m2 ha
    · simp at hb
  · unfold stepP keys at hk
    rw [List.map_append, List.mem_append] at hk
    rcases hk with hk | hk
    · rcases h.from_ k (m3 k hk) with h7 | h7
      · exact .inl h7
      · exact .inr ⟨_, rfl, hle k h7⟩
    · split at hk
      · simp at hk; exact .inr ⟨_, rfl, by rw [hk]; exact List.le_refl _⟩
      · simp at hk
end Go.B
