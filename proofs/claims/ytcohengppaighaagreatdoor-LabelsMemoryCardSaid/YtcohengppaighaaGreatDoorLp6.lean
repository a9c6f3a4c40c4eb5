/- Labels: a list is a map; the differences lead there and back; no program. -/
import Derived.Test.YtcohengppaighaaGreatDoorLp5
set_option linter.unusedVariables false
set_option linter.unusedSimpArgs false
namespace Go.B

theorem ris_ext {l d : List Lab} (h1 : Ris l) (h2 : Ris d) (h : ∀ x, x ∈ l ↔ x ∈ d) : l = d := by
  have hp : d.Perm l := (List.perm_ext_iff_of_nodup (ris_nodup h2) (ris_nodup h1)).2 fun x => (h x).symm
  rw [← h1.sort]
  exact (sortS_eq h1.nodup hp (h2.imp lt_le)).symm
theorem getS_mem {l : List Lab} {k : ByteArray} (h : (getS l k).2 = true) : (k, (getS l k).1) ∈ l := by
  induction l with
  | nil => simp [getS] at h
  | cons x r ih =>
    rw [getS] at h ⊢
    by_cases hx : x.1 = k
    · rw [if_pos hx]
      subst hx
      exact List.mem_cons_self
    · rw [if_neg hx] at h ⊢
      exact List.mem_cons_of_mem _ (ih h)
theorem getS_not {l : List Lab} {k : ByteArray} (h : k ∉ keys l) : getS l k = (ByteArray.empty, false) := getS_none fun x hx e => h (mem_keys.2 ⟨x, hx, e⟩)
theorem getS_false {l : List Lab} {k : ByteArray} (h : (getS l k).2 = false) : getS l k = (ByteArray.empty, false) := getS_not fun hm => by rw [getS_iff.2 hm] at h; cases h
theorem getS_at {l : List Lab} (hn : (keys l).Nodup) {k v : ByteArray} (h : (k, v) ∈ l) : getS l k = (v, true) := getS_some hn h
theorem getS_ext {l d : List Lab} (h1 : (keys l).Nodup) (h2 : (keys d).Nodup) {k : ByteArray} (h : ∀ v, (k, v) ∈ l ↔ (k, v) ∈ d) : getS l k = getS d k := by
  cases hl : (getS l k).2
  · have : k ∉ keys d := fun hm => by
      obtain ⟨x, hx, rfl⟩ := mem_keys.1 hm
      have := getS_at h1 ((h x.2).2 hx)
      rw [this] at hl; cases hl
    rw [getS_not this, getS_false hl]
  · have := getS_at h2 ((h _).1 (getS_mem hl))
    rw [this]
    exact Prod.ext rfl hl
theorem del_len {l : List Lab} (h : (keys l).Nodup) {k : ByteArray} (hk : k ∈ keys l) : (delS l k).length + 1 = l.length := by
  induction l with
  | nil => simp [keys] at hk
  | cons x r ih =>
    unfold keys at h hk
    simp only [List.map_cons, List.nodup_cons, List.mem_cons] at h hk
    unfold delS at ih ⊢
    rw [List.filter_cons]
    by_cases hx : x.1 = k
    · have hf : List.filter (fun x => decide (x.1 ≠ k)) r = r := List.filter_eq_self.2 fun y hy => decide_eq_true fun e => h.1 (by rw [hx, ← e]; exact List.mem_map_of_mem hy)
      rw [if_neg (by simp [hx]), hf]
      simp
    · rw [if_pos (by simp [hx])]
      have := ih h.2 (hk.resolve_left fun e => hx e.symm)
      simp only [List.length_cons]
      omega
theorem del_not {l : List Lab} {k : ByteArray} (hk : k ∉ keys l) : delS l k = l := by
  unfold delS
  exact List.filter_eq_self.2 fun y hy => decide_eq_true fun e => hk (mem_keys.2 ⟨y, hy, e⟩)
theorem del_lt {l : List Lab} {k : ByteArray} : (delS l k).length < l.length ↔ k ∈ keys l := by
  constructor
  · intro h
    by_cases hk : k ∈ keys l
    · exact hk
    · rw [del_not hk] at h; omega
  · intro hk
    obtain ⟨x, hx, e⟩ := mem_keys.1 hk
    have h1 : (delS l k).length ≤ l.length := List.length_filter_le _ _
    rcases Nat.lt_or_ge (delS l k).length l.length with h2 | h2
    · exact h2
    · have := List.Sublist.eq_of_length_le (show (delS l k).Sublist l from List.filter_sublist) h2
      rw [← this] at hx
      have := (List.mem_filter.1 hx).2
      rw [decide_eq_true_eq] at this
      exact absurd e this
theorem del_ris {l : List Lab} (h : Ris l) (k : ByteArray) : Ris (delS l k) := h.filter _
/-- What Put makes. -/
theorem mem_put {l : List Lab} {k v : ByteArray} {x : Lab} : x ∈ sortS (delS l k ++ [(k, v)]) ↔ (x ∈ l ∧ x.1 ≠ k) ∨ x = (k, v) := by
  rw [sortS_mem, List.mem_append, del_mem]
  simp
theorem put_len {l : List Lab} (h : (keys l).Nodup) (k v : ByteArray) : (k ∈ keys l → (sortS (delS l k ++ [(k, v)])).length = l.length) ∧ (k ∉ keys l → (sortS (delS l k ++ [(k, v)])).length = l.length + 1) := by
  rw [sortS_len, List.length_append]
  exact ⟨fun hk => by rw [← del_len h hk]; rfl, fun hk => by rw [del_not hk]; rfl⟩
theorem put_ok {l : List Lab} (h : OkL l) {k v : ByteArray} (hk : keyS (bs k) = true) (hv : valS (bs v) = true) (hl : ¬ (k ∉ keys l ∧ l.length = 32)) : putS l k v = (sortS (delS l k ++ [(k, v)]), 0) ∧ OkL (sortS (delS l k ++ [(k, v)])) := by
  have h1 := checkS_zero.2 h
  have hg : ¬ ((getS l k).2 = false ∧ l.length = 32) := fun ⟨a, b⟩ => hl ⟨fun hm => (by rw [getS_iff.2 hm] at a; cases a), b⟩
  refine ⟨?_, ?_⟩
  · unfold putS
    rw [if_neg (by simpa using h1), if_neg (by simp [hk]), if_neg (by simp [hv]), if_neg hg]
  · have hlen := h.len
    refine okL_sort ?_ ?_ ?_ (put_nodup h.ris.nodup k v)
    · have := put_len h.ris.nodup k v
      rw [sortS_len] at this
      by_cases hm : k ∈ keys l
      · rw [this.1 hm]; omega
      · have h3 : l.length ≠ 32 := fun e => hl ⟨hm, e⟩
        rw [this.2 hm]; omega
    · intro x hx
      rw [← sortS_mem, mem_put] at hx
      rcases hx with ⟨h2, _⟩ | rfl
      · exact h.key x h2
      · exact hk
    · intro x hx
      rw [← sortS_mem, mem_put] at hx
      rcases hx with ⟨h2, _⟩ | rfl
      · exact h.val x h2
      · exact hv
theorem put_no {l : List Lab} (h : OkL l) {k v : ByteArray} (hf : (putS l k v).2 ≠ 0) : (putS l k v).1 = [] ∧ (keyS (bs k) = false ∨ valS (bs v) = false ∨ ((getS l k).2 = false ∧ l.length = 32)) := by
  have h1 := checkS_zero.2 h
  unfold putS at hf ⊢
  rw [if_neg (by simpa using h1)] at hf ⊢
  cases hk : keyS (bs k)
  · exact ⟨rfl, .inl rfl⟩
  · cases hv : valS (bs v)
    · exact ⟨rfl, .inr (.inl rfl)⟩
    · rw [hk, hv] at hf
      by_cases hg : (getS l k).2 = false ∧ l.length = 32
      · rw [if_neg (by simp), if_neg (by simp), if_pos hg]
        exact ⟨rfl, .inr (.inr hg)⟩
      · rw [if_neg (by simp), if_neg (by simp), if_neg hg] at hf
        exact absurd rfl hf
theorem put_yes {l : List Lab} (h : OkL l) {k v : ByteArray} (hf : (putS l k v).2 = 0) : keyS (bs k) = true ∧ valS (bs v) = true ∧ ¬ (k ∉ keys l ∧ l.length = 32) := by
  have h1 := checkS_zero.2 h
  unfold putS at hf
  rw [if_neg (by simpa using h1)] at hf
  cases hk : keyS (bs k)
  · rw [hk, if_pos rfl] at hf; exact absurd hf (by decide)
  · cases hv : valS (bs v)
    · rw [hk, hv, if_neg (by simp), if_pos rfl] at hf; exact absurd hf (by decide)
    · rw [hk, hv, if_neg (by simp), if_neg (by simp)] at hf
      refine ⟨rfl, rfl, fun ⟨a, b⟩ => ?_⟩
      rw [if_pos ⟨by rw [getS_not a], b⟩] at hf
      exact absurd hf (by decide)
theorem put_again {l : List Lab} (h : OkL l) {k v : ByteArray} (hf : (putS l k v).2 = 0) : putS (putS l k v).1 k v = ((putS l k v).1, 0) := by
  obtain ⟨hk, hv, hl⟩ := put_yes h hf
  obtain ⟨e, ho⟩ := put_ok h hk hv hl
  rw [e]
  have hin : k ∈ keys (sortS (delS l k ++ [(k, v)])) := mem_keys.2 ⟨(k, v), mem_put.2 (.inr rfl), rfl⟩
  obtain ⟨e2, ho2⟩ := put_ok ho hk hv (fun a => a.1 hin)
  rw [e2]
  refine Prod.ext (ris_ext ho2.ris ho.ris fun x => ?_) rfl
  simp only [mem_put]
  constructor
  · rintro (⟨h1, _⟩ | rfl)
    · exact h1
    · exact .inr rfl
  · rintro (⟨h1, h2⟩ | rfl)
    · exact .inl ⟨.inl ⟨h1, h2⟩, h2⟩
    · exact .inr rfl
/-- Two puts of unlike keys change about. -/
theorem put_swap {l : List Lab} (h : OkL l) {k v k' v' : ByteArray} (hne : k' ≠ k) (h1 : (putS l k v).2 = 0) (h2 : (putS (putS l k v).1 k' v').2 = 0) (h3 : (putS l k' v').2 = 0) :
    putS (putS l k' v').1 k v = ((putS (putS l k v).1 k' v').1, 0) := by
  obtain ⟨hk, hv, hl⟩ := put_yes h h1
  obtain ⟨e, ho⟩ := put_ok h hk hv hl
  rw [e] at h2 ⊢
  obtain ⟨hk', hv', hl'⟩ := put_yes ho h2
  obtain ⟨e2, ho2⟩ := put_ok ho hk' hv' hl'
  obtain ⟨_, _, hl3⟩ := put_yes h h3
  obtain ⟨e3, ho3⟩ := put_ok h hk' hv' hl3
  rw [e2, e3]
  have hl4 : ¬ (k ∉ keys (sortS (delS l k' ++ [(k', v')])) ∧ (sortS (delS l k' ++ [(k', v')])).length = 32) := by
    rintro ⟨a, b⟩
    have hkl : k ∉ keys l := fun hm => by
      obtain ⟨x, hx, e⟩ := mem_keys.1 hm
      exact a (mem_keys.2 ⟨x, mem_put.2 (.inl ⟨hx, by rw [e]; exact hne.symm⟩), e⟩)
    by_cases hm : k' ∈ keys l
    · rw [(put_len h.ris.nodup k' v').1 hm] at b
      exact hl ⟨hkl, b⟩
    · rw [(put_len h.ris.nodup k' v').2 hm] at b
      refine hl' ⟨fun hm' => ?_, ?_⟩
      · obtain ⟨x, hx, e⟩ := mem_keys.1 hm'
        rcases mem_put.1 hx with ⟨h5, _⟩ | rfl
        · exact hm (mem_keys.2 ⟨x, h5, e⟩)
        · exact hne e.symm
      · rw [(put_len h.ris.nodup k v).2 hkl]; exact b
  obtain ⟨e4, ho4⟩ := put_ok ho3 hk hv hl4
  rw [e4]
  refine Prod.ext (ris_ext ho4.ris ho2.ris fun x => ?_) rfl
  simp only [mem_put]
  constructor
  · rintro (⟨⟨h5, h6⟩ | rfl, h7⟩ | rfl)
    · exact .inl ⟨.inl ⟨h5, h7⟩, h6⟩
    · exact .inr rfl
    · exact .inl ⟨.inr rfl, hne.symm⟩
  · rintro (⟨⟨h5, h6⟩ | rfl, h7⟩ | rfl)
    · exact .inl ⟨.inl ⟨h5, h7⟩, h6⟩
    · exact .inr rfl
    · exact .inl ⟨.inr rfl, hne⟩
/-! ### there and back -/
def dkeys (ds : List DL) : List ByteArray := ds.map (·.key)
/-- Differences as Diff gives them. -/
structure Dif (was now : List Lab) (ds : List DL) : Prop where
  of : ∀ d ∈ ds, d = dOf was now d.key
  keep : ∀ d ∈ ds, dKeep d = true
  ris : ds.Pairwise fun a b => bs a.key < bs b.key
theorem dOf_key (was now : List Lab) (k : ByteArray) : (dOf was now k).key = k := rfl
theorem merge_dif {r s : List Lab} (h1 : Ris r) (h2 : Ris s) : Dif r s (mergeD r s) := by
  rw [mergeD_eq h1 h2]
  refine ⟨fun d hd => ?_, fun d hd => (List.mem_filter.1 hd).2, ?_⟩
  · obtain ⟨x, _, rfl⟩ := List.mem_map.1 (List.mem_filter.1 hd).1
    rfl
  · refine List.Pairwise.filter _ ?_
    rw [List.pairwise_map]
    exact mergeU_ris h1 h2
theorem merge_all {r s : List Lab} (h1 : Ris r) (h2 : Ris s) {k : ByteArray} (hk : k ∉ dkeys (mergeD r s)) : getS r k = getS s k := by
  by_cases hu : k ∈ keys (mergeU r s)
  · obtain ⟨x, hx, rfl⟩ := mem_keys.1 hu
    have h3 : dOf r s x.1 ∉ mergeD r s := fun hm => hk (List.mem_map_of_mem (f := DL.key) hm)
    rw [mergeD_eq h1 h2, List.mem_filter, not_and] at h3
    have h4 := h3 (List.mem_map_of_mem (f := fun x : Lab => dOf r s x.1) hx)
    have h5 : dKeep (dOf r s x.1) = false := by simpa using h4
    unfold dKeep dOf at h5
    simp only [Bool.or_eq_false_iff, decide_eq_false_iff_not, Decidable.not_not] at h5
    exact Prod.ext h5.2 h5.1
  · have hr : k ∉ keys r := fun hm => by
      obtain ⟨x, hx, rfl⟩ := mem_keys.1 hm
      exact hu (mem_keys.2 ⟨x, (mergeU_iff h1 h2).2 (.inl hx), rfl⟩)
    have hs : k ∉ keys s := fun hm => by
      obtain ⟨x, hx, rfl⟩ := mem_keys.1 hm
      exact hu (mem_keys.2 ⟨x, (mergeU_iff h1 h2).2 (.inr ⟨hx, hr⟩), rfl⟩)
    rw [getS_not hr, getS_not hs]
theorem dif_key {was now : List Lab} (h1 : OkL was) (h2 : OkL now) {ds : List DL} (h : Dif was now ds) {d : DL} (hd : d ∈ ds) : keyS (bs d.key) = true := by
  have e := h.of d hd
  have hk := h.keep d hd
  by_cases ha : d.key ∈ keys was
  · obtain ⟨x, hx, e'⟩ := mem_keys.1 ha
    rw [← e']; exact h1.key x hx
  · by_cases hb : d.key ∈ keys now
    · obtain ⟨x, hx, e'⟩ := mem_keys.1 hb
      rw [← e']; exact h2.key x hx
    · rw [e] at hk
      unfold dKeep dOf at hk
      rw [getS_not ha, getS_not hb] at hk
      simp at hk
/-- A difference is right by itself, held against either list but for what is stale. -/
theorem wrong_dif {was now l : List Lab} (h1 : OkL was) (h2 : OkL now) {ds : List DL} (h : Dif was now ds) {d : DL} (hd : d ∈ ds) {p : Option ByteArray} (hp : ∀ q, p = some q → bs q < bs d.key) :
    wrongS p l d = if d.had ≠ (getS l d.key).2 ∨ (d.had = true ∧ d.old ≠ (getS l d.key).1) then 38 else 0 := by
  have hk := dif_key h1 h2 h hd
  have e := h.of d hd
  have hkeep := h.keep d hd
  unfold wrongS
  rw [if_neg (by simp [hk]), if_neg (fun e => List.lt_irrefl _ (hp _ e)), if_neg (fun ⟨q, hq, hl⟩ => List.lt_irrefl _ (List.lt_trans hl (hp q hq)))]
  have e1 : d.had = (getS was d.key).2 := congrArg DL.had e
  have e2 : d.has = (getS now d.key).2 := congrArg DL.has e
  have e3 : d.old = (getS was d.key).1 := congrArg DL.old e
  have e4 : d.new = (getS now d.key).1 := congrArg DL.new e
  have f1 : d.had = false → d.old = ByteArray.empty := fun hf => by rw [e3, getS_false (e1 ▸ hf)]
  have f2 : d.has = false → d.new = ByteArray.empty := fun hf => by rw [e4, getS_false (e2 ▸ hf)]
  have f3 : d.had = true → valS (bs d.old) = true := fun hf => by rw [e3]; exact h1.val _ (getS_mem (e1 ▸ hf))
  have f4 : d.has = true → valS (bs d.new) = true := fun hf => by rw [e4]; exact h2.val _ (getS_mem (e2 ▸ hf))
  have hk2 : ¬ (d.had = d.has ∧ d.old = d.new) := fun ⟨a, b⟩ => by
    unfold dKeep at hkeep
    rw [a, b] at hkeep
    simp at hkeep
  rw [if_neg, if_neg]
  · rintro (⟨a, b⟩ | ⟨a, b⟩)
    · rw [f3 a] at b; cases b
    · rw [f4 a] at b; cases b
  · rintro (⟨a, b⟩ | ⟨a, b⟩ | ⟨a, b⟩ | ⟨a, b, c⟩)
    · exact hk2 ⟨by rw [a, b], by rw [f1 a, f2 b]⟩
    · exact b (f1 a)
    · exact b (f2 a)
    · exact hk2 ⟨by rw [a, b], c⟩
theorem patch_go {was now : List Lab} (h1 : OkL was) (h2 : OkL now) : ∀ {ds : List DL} {p : Option ByteArray} {out : List Lab}, Dif was now ds → (∀ q, p = some q → ∀ d ∈ ds, bs q < bs d.key) →
    patchGo was p out ds = patchGo was none (ds.foldl stepP out) []
  | [], p, out, _, _ => rfl
  | d :: r, p, out, h, hp => by
    have hr := List.pairwise_cons.1 h.ris
    have e := h.of d (by simp)
    have e1 : d.had = (getS was d.key).2 := congrArg DL.had e
    have e3 : d.old = (getS was d.key).1 := congrArg DL.old e
    conv => lhs; rw [patchGo]
    rw [wrong_dif h1 h2 h (by simp) (fun q hq => hp q hq d (by simp)), if_neg (show ¬ (d.had ≠ (getS was d.key).2 ∨ (d.had = true ∧ d.old ≠ (getS was d.key).1)) from fun hc => by
      rcases hc with hc | ⟨_, hc⟩
      · exact hc e1
      · exact hc e3), if_pos rfl, List.foldl_cons]
    exact patch_go h1 h2 ⟨fun x hx => h.of x (by simp [hx]), fun x hx => h.keep x (by simp [hx]), hr.2⟩ fun q hq x hx => by cases hq; exact hr.1 x hx
theorem fold_mem {was now : List Lab} (h2 : (keys now).Nodup) {x : Lab} : ∀ {ds : List DL} {out : List Lab}, Dif was now ds → (∀ d ∈ ds, d.had = false → d.key ∉ keys out) →
    (x ∈ ds.foldl stepP out ↔ (x ∈ out ∧ x.1 ∉ dkeys ds) ∨ (x ∈ now ∧ x.1 ∈ dkeys ds))
  | [], out, _, _ => by simp [dkeys]
  | d :: r, out, h, hout => by
    have hr := List.pairwise_cons.1 h.ris
    have e := h.of d (by simp)
    have e2 : d.has = (getS now d.key).2 := congrArg DL.has e
    have e4 : d.new = (getS now d.key).1 := congrArg DL.new e
    have hstep : ∀ y : Lab, y ∈ stepP out d ↔ (y ∈ out ∧ y.1 ≠ d.key) ∨ (y ∈ now ∧ y.1 = d.key) := fun y => by
      have hl : y ∈ (if d.had = true then delS out d.key else out) ↔ y ∈ out ∧ y.1 ≠ d.key := by
        cases hh : d.had
        · have := hout d (by simp) hh
          simp only [Bool.false_eq_true, if_false]
          exact ⟨fun hy => ⟨hy, fun e => this (mem_keys.2 ⟨y, hy, e⟩)⟩, fun hy => hy.1⟩
        · simp only [if_true]
          exact del_mem
      have hr' : y ∈ (if d.has = true then [(d.key, d.new)] else []) ↔ y ∈ now ∧ y.1 = d.key := by
        cases hh : d.has
        · simp only [Bool.false_eq_true, if_false]
          refine ⟨fun hy => (by cases hy), fun ⟨hy, e⟩ => ?_⟩
          have h3 := getS_at h2 (k := d.key) (v := y.2) (by rw [← e]; exact hy)
          have h4 := e2.trans (congrArg Prod.snd h3)
          rw [hh] at h4; cases h4
        · simp only [if_true, List.mem_singleton]
          have hm := getS_mem (l := now) (k := d.key) (by rw [← e2]; exact hh)
          rw [← e4] at hm
          exact ⟨fun hy => by rw [hy]; exact ⟨hm, rfl⟩, fun ⟨hy, e⟩ => key_uniq h2 hy hm e⟩
      unfold stepP
      rw [List.mem_append, hl, hr']
    rw [List.foldl_cons, fold_mem h2 ⟨fun x hx => h.of x (by simp [hx]), fun x hx => h.keep x (by simp [hx]), hr.2⟩ (fun d' hd' hf hm => ?_), hstep]
    · simp only [dkeys, List.map_cons, List.mem_cons, not_or]
      constructor
      · rintro (⟨⟨a, b⟩ | ⟨a, b⟩, c⟩ | ⟨a, b⟩)
        · exact .inl ⟨a, b, c⟩
        · exact .inr ⟨a, .inl b⟩
        · exact .inr ⟨a, .inr b⟩
      · rintro (⟨a, b, c⟩ | ⟨a, b | b⟩)
        · exact .inl ⟨.inl ⟨a, b⟩, c⟩
        · by_cases hc : x.1 ∈ List.map (fun x => x.key) r
          · exact .inr ⟨a, hc⟩
          · exact .inl ⟨.inr ⟨a, b⟩, hc⟩
        · exact .inr ⟨a, b⟩
    · obtain ⟨y, hy, e'⟩ := mem_keys.1 hm
      rcases (hstep y).1 hy with ⟨a, b⟩ | ⟨a, b⟩
      · exact hout d' (by simp [hd']) hf (mem_keys.2 ⟨y, a, e'⟩)
      · have := hr.1 d' hd'
        rw [← e', b] at this
        exact List.lt_irrefl _ this
theorem fold_nodup {was now : List Lab} (h1 : OkL was) (h2 : OkL now) : ∀ {ds : List DL} {p : Option ByteArray} {out : List Lab}, Dif was now ds → (∀ q, p = some q → ∀ d ∈ ds, bs q < bs d.key) → Pat was p out → (keys (ds.foldl stepP out)).Nodup
  | [], p, out, _, _, hq => hq.nodup
  | d :: r, p, out, h, hp, hq => by
    have hr := List.pairwise_cons.1 h.ris
    have e := h.of d (by simp)
    have e1 : d.had = (getS was d.key).2 := congrArg DL.had e
    have e3 : d.old = (getS was d.key).1 := congrArg DL.old e
    have hw : wrongS p was d = 0 := by
      rw [wrong_dif h1 h2 h (by simp) (fun q hq => hp q hq d (by simp)), if_neg]
      rintro (hc | ⟨_, hc⟩)
      · exact hc e1
      · exact hc e3
    rw [List.foldl_cons]
    exact fold_nodup h1 h2 ⟨fun x hx => h.of x (by simp [hx]), fun x hx => h.keep x (by simp [hx]), hr.2⟩ (fun q hq x hx => by cases hq; exact hr.1 x hx) (hq.step hw)
/-- The differences lead there. -/
theorem patch_dif {was now : List Lab} (h1 : OkL was) (h2 : OkL now) {ds : List DL} (h : Dif was now ds) (hall : ∀ k, k ∉ dkeys ds → getS was k = getS now k) : patchS was ds = (now, 0) := by
  have hc := checkS_zero.2 h1
  unfold patchS
  rw [if_neg (by simpa using hc), patch_go h1 h2 h (fun q hq => by cases hq), patchGo]
  have hn := fold_nodup h1 h2 (p := none) h (fun q hq => by cases hq) (Pat.start h1.ris)
  have hm : ∀ x, x ∈ ds.foldl stepP was ↔ x ∈ now := fun x => by
    rw [fold_mem h2.ris.nodup h (fun d hd hf hm => by
      have e1 : d.had = (getS was d.key).2 := congrArg DL.had (h.of d hd)
      rw [getS_iff.2 hm] at e1
      rw [e1] at hf; cases hf)]
    constructor
    · rintro (⟨a, b⟩ | ⟨a, b⟩)
      · have e := hall x.1 b
        rw [getS_at h1.ris.nodup (v := x.2) a] at e
        have := getS_mem (l := now) (k := x.1) (by rw [← e])
        rw [← e] at this
        exact this
      · exact a
    · intro a
      by_cases b : x.1 ∈ dkeys ds
      · exact .inr ⟨a, b⟩
      · have e := hall x.1 b
        rw [getS_at h2.ris.nodup (v := x.2) a] at e
        have := getS_mem (l := was) (k := x.1) (by rw [e])
        rw [e] at this
        exact .inl ⟨this, b⟩
  have hp : (ds.foldl stepP was).Perm now := (List.perm_ext_iff_of_nodup (nodup_of_keys hn) (ris_nodup h2.ris)).2 hm
  have hl := h2.len
  rw [if_neg (by rw [hp.length_eq]; omega)]
  refine Prod.ext ?_ rfl
  exact ris_ext (sortS_ris hn) h2.ris fun x => by rw [sortS_mem, hm]
def backD (d : DL) : DL := ⟨d.key, d.new, d.old, d.has, d.had⟩
theorem dif_back {was now : List Lab} {ds : List DL} (h : Dif was now ds) : Dif now was (ds.map backD) := by
  refine ⟨fun d hd => ?_, fun d hd => ?_, ?_⟩
  · obtain ⟨x, hx, rfl⟩ := List.mem_map.1 hd
    have := h.of x hx
    rw [this]; rfl
  · obtain ⟨x, hx, rfl⟩ := List.mem_map.1 hd
    have := h.keep x hx
    unfold dKeep at this ⊢
    simp only [Bool.or_eq_true, decide_eq_true_eq, backD] at this ⊢
    rcases this with h3 | h3
    · exact .inl (decide_eq_true (Ne.symm h3))
    · exact .inr (decide_eq_true (Ne.symm h3))
  · rw [List.pairwise_map]; exact h.ris
theorem back_keys (ds : List DL) : dkeys (ds.map backD) = dkeys ds := by simp [dkeys, backD]
theorem mergeD_self {l : List Lab} (h : Ris l) : mergeD l l = [] := by
  rw [mergeD_eq h h, List.filter_eq_nil_iff]
  intro d hd
  obtain ⟨x, _, rfl⟩ := List.mem_map.1 hd
  simp [dKeep, dOf]
/-- Where they lead has them no more. -/
theorem patch_stale {was now : List Lab} (h1 : OkL was) (h2 : OkL now) {d : DL} {ds : List DL} (h : Dif was now (d :: ds)) : (patchS now (d :: ds)).2 = 38 := by
  have hc := checkS_zero.2 h2
  have hw : wrongS none now d = 38 := by
    rw [wrong_dif h1 h2 h (by simp) (fun q hq => by cases hq), if_pos]
    have e := h.of d (by simp)
    have e1 : d.had = (getS was d.key).2 := congrArg DL.had e
    have e2 : d.has = (getS now d.key).2 := congrArg DL.has e
    have e3 : d.old = (getS was d.key).1 := congrArg DL.old e
    have e4 : d.new = (getS now d.key).1 := congrArg DL.new e
    by_cases ha : d.had = (getS now d.key).2
    · right
      have hk := h.keep d (by simp)
      unfold dKeep at hk
      simp only [Bool.or_eq_true, decide_eq_true_eq] at hk
      have hne : d.old ≠ d.new := hk.resolve_left fun hc => hc (by rw [ha, e2])
      refine ⟨?_, by rw [← e4]; exact hne⟩
      cases hh : d.had
      · have f1 : d.old = ByteArray.empty := by rw [e3, getS_false (e1 ▸ hh)]
        have f2 : d.new = ByteArray.empty := by rw [e4, getS_false (by rw [← ha, hh])]
        exact absurd (by rw [f1, f2]) hne
      · rfl
    · exact .inl ha
  unfold patchS
  rw [if_neg (by simpa using hc), patchGo, if_neg (by rw [hw]; decide)]
  exact hw
end Go.B
