/- The queue, as a plain list in its order beside a map of names: laws without any memory. -/
import Derived.Test.YtfjgiaimlmnepaaQ1
set_option linter.unusedVariables false
set_option linter.unusedSimpArgs false
namespace Go.Proofs.Ytfjgiaimlmnepaa
open Go Go.V Go.B

instance : DecidableEq Wt := fun a b =>
  if h : a.name = b.name ∧ a.pr = b.pr ∧ a.seq = b.seq ∧ a.tries = b.tries ∧ a.til = b.til ∧ a.asleep = b.asleep then
    isTrue (by obtain ⟨h1, h2, h3, h4, h5, h6⟩ := h; cases a; cases b; simp_all)
  else isFalse (fun e => h (by subst e; simp))
def ahead (a b : Wt) : Bool := decide (b.pr < a.pr) || (decide (a.pr = b.pr) && decide (a.seq < b.seq))
theorem ahead_iff {a b : Wt} : ahead a b = true ↔ b.pr < a.pr ∨ (a.pr = b.pr ∧ a.seq < b.seq) := by simp [ahead]
theorem ahead_no {a b : Wt} : ahead a b = false ↔ ¬ (b.pr < a.pr ∨ (a.pr = b.pr ∧ a.seq < b.seq)) := by
  rw [← ahead_iff]; cases ahead a b <;> simp
theorem ahead_trans {a b c : Wt} (h : ahead a b = true) (k : ahead b c = true) : ahead a c = true := by
  rw [ahead_iff] at *; omega
theorem ahead_irr (a : Wt) : ahead a a = false := by rw [ahead_no]; omega
theorem ahead_key {a b c : Wt} (h1 : b.pr = c.pr) (h2 : b.seq = c.seq) : ahead a b = ahead a c := by simp [ahead, h1, h2]
theorem ahead_key' {a b c : Wt} (h1 : b.pr = c.pr) (h2 : b.seq = c.seq) : ahead b a = ahead c a := by simp [ahead, h1, h2]
def cmpV (a b : Wt) : Int := if b.pr < a.pr then -1 else if b.pr > a.pr then 1 else if a.seq < b.seq then -1 else if a.seq > b.seq then 1 else 0
theorem cmpV_neg (a b : Wt) : cmpV a b < 0 ↔ ahead a b = true := by
  rw [ahead_iff]; unfold cmpV; repeat' split
  all_goals omega
def Sorted (xs : List Wt) : Prop := xs.Pairwise fun a b => ahead a b = true
theorem Sorted.get {xs : List Wt} (h : Sorted xs) {i j : Nat} {a b : Wt} (hi : xs[i]? = some a) (hj : xs[j]? = some b) (hij : i < j) : ahead a b = true := by
  obtain ⟨h1, rfl⟩ := List.getElem?_eq_some_iff.1 hi
  obtain ⟨h2, rfl⟩ := List.getElem?_eq_some_iff.1 hj
  exact List.pairwise_iff_getElem.1 h i j h1 h2 hij
theorem Sorted.down {xs : List Wt} (h : Sorted xs) {t : Wt} {i j : Nat} {a b : Wt} (hi : xs[i]? = some a) (hj : xs[j]? = some b) (hij : i ≤ j) (ht : ahead b t = true) : ahead a t = true := by
  rcases Nat.lt_or_eq_of_le hij with h' | rfl
  · exact ahead_trans (h.get hi hj h') ht
  · rw [hi] at hj; cases hj; exact ht
/-- How many stand ahead of x. -/
def place (xs : List Wt) (x : Wt) : Nat := (xs.takeWhile fun y => ahead y x).length
theorem place_le (xs : List Wt) (x : Wt) : place xs x ≤ xs.length := by
  unfold place
  exact List.Sublist.length_le (List.takeWhile_sublist _)
theorem place_of {xs : List Wt} {x : Wt} {i : Nat} (h1 : ∀ k y, xs[k]? = some y → k < i → ahead y x = true) (h2 : ∀ y, xs[i]? = some y → ahead y x = false) (hi : i ≤ xs.length) : place xs x = i := by
  unfold place
  induction xs generalizing i with
  | nil => simp at hi; simp [hi]
  | cons a xs ih =>
    cases i with
    | zero =>
      have := h2 a (by simp)
      simp [List.takeWhile_cons, this]
    | succ i =>
      have h0 := h1 0 a (by simp) (by omega)
      simp only [List.takeWhile_cons, h0, if_true, List.length_cons]
      rw [ih (i := i) (fun k y hk hki => h1 (k + 1) y (by simpa using hk) (by omega)) (fun y hy => h2 y (by simpa using hy)) (by simpa using hi)]
theorem place_at {xs : List Wt} (h : Sorted xs) {i : Nat} {x y : Wt} (hi : xs[i]? = some y) (h1 : x.pr = y.pr) (h2 : x.seq = y.seq) : place xs x = i := by
  refine place_of (fun k z hk hki => ?_) (fun z hz => ?_) (by have := (List.getElem?_eq_some_iff.1 hi).1; omega)
  · rw [ahead_key h1 h2]; exact h.get hk hi hki
  · rw [hi] at hz; cases hz
    rw [ahead_key h1 h2]; exact ahead_irr _
def ins (xs : List Wt) (x : Wt) : List Wt := xs.take (place xs x) ++ x :: xs.drop (place xs x)
theorem ins_eq (xs : List Wt) (x : Wt) : ins xs x = (xs.takeWhile fun y => ahead y x) ++ x :: (xs.dropWhile fun y => ahead y x) := by
  have h := List.takeWhile_append_dropWhile (p := fun y => ahead y x) (l := xs)
  unfold ins place
  have h1 : xs.take (xs.takeWhile fun y => ahead y x).length = xs.takeWhile fun y => ahead y x := by
    have : ∀ (a b : List Wt), (a ++ b).take a.length = a := fun a b => List.take_left
    have h2 := this (xs.takeWhile fun y => ahead y x) (xs.dropWhile fun y => ahead y x)
    rwa [h] at h2
  have h2 : xs.drop (xs.takeWhile fun y => ahead y x).length = xs.dropWhile fun y => ahead y x := by
    have : ∀ (a b : List Wt), (a ++ b).drop a.length = b := fun a b => List.drop_left
    have h2 := this (xs.takeWhile fun y => ahead y x) (xs.dropWhile fun y => ahead y x)
    rwa [h] at h2
  rw [h1, h2]
theorem ins_perm (xs : List Wt) (x : Wt) : (ins xs x).Perm (x :: xs) := by
  unfold ins
  refine List.perm_middle.trans ?_
  rw [List.take_append_drop]
theorem ins_len (xs : List Wt) (x : Wt) : (ins xs x).length = xs.length + 1 := by
  have := (ins_perm xs x).length_eq; simpa using this
theorem mem_ins {xs : List Wt} {x y : Wt} : y ∈ ins xs x ↔ y = x ∨ y ∈ xs := by rw [(ins_perm xs x).mem_iff]; simp
theorem mem_takeWhile {α : Type} {p : α → Bool} {l : List α} {y : α} (h : y ∈ l.takeWhile p) : p y = true := by
  induction l with
  | nil => simp at h
  | cons a l ih =>
    simp only [List.takeWhile_cons] at h
    split at h
    · rcases List.mem_cons.1 h with rfl | h
      · assumption
      · exact ih h
    · cases h
theorem ins_sorted {xs : List Wt} (h : Sorted xs) {x : Wt} (hx : ∀ y ∈ xs, ahead y x = true ∨ ahead x y = true) : Sorted (ins xs x) := by
  rw [ins_eq]
  have hs := List.takeWhile_append_dropWhile (p := fun y => ahead y x) (l := xs)
  have h' : Sorted ((xs.takeWhile fun y => ahead y x) ++ (xs.dropWhile fun y => ahead y x)) := by rw [hs]; exact h
  unfold Sorted at h' ⊢
  rw [List.pairwise_append] at h' ⊢
  obtain ⟨p1, p2, p3⟩ := h'
  have hdw : ∀ y ∈ xs.dropWhile fun y => ahead y x, ahead x y = true := by
    cases hd : xs.dropWhile fun y => ahead y x with
    | nil => intro y hy; cases hy
    | cons d ds =>
      have hdn : ahead d x = false := by
        have h1 := List.head_dropWhile_not (p := fun y => ahead y x) (l := xs) (by rw [hd]; simp)
        simp only [hd, List.head_cons] at h1
        simpa using h1
      have hdm : d ∈ xs := by
        have : d ∈ xs.dropWhile fun y => ahead y x := by rw [hd]; simp
        exact (List.dropWhile_sublist _).subset this
      have hxd : ahead x d = true := (hx d hdm).resolve_left (by rw [hdn]; simp)
      intro y hy
      rcases List.mem_cons.1 hy with rfl | hy
      · exact hxd
      · rw [hd, List.pairwise_cons] at p2
        exact ahead_trans hxd (p2.1 y hy)
  refine ⟨p1, List.pairwise_cons.2 ⟨hdw, p2⟩, fun a ha b hb => ?_⟩
  rcases List.mem_cons.1 hb with rfl | hb
  · exact mem_takeWhile (p := fun y => ahead y b) ha
  · exact p3 a ha b hb
theorem ins_erase {xs : List Wt} (h : Sorted xs) {i : Nat} {x y : Wt} (hi : xs[i]? = some y) (h1 : x.pr = y.pr) (h2 : x.seq = y.seq) : ins (xs.eraseIdx i) x = xs.set i x := by
  have hlt := (List.getElem?_eq_some_iff.1 hi).1
  have hp : place (xs.eraseIdx i) x = i := by
    refine place_of (fun k z hk hki => ?_) (fun z hz => ?_) (by rw [List.length_eraseIdx_of_lt hlt]; omega)
    · rw [List.getElem?_eraseIdx_of_lt hki] at hk
      rw [ahead_key h1 h2]; exact h.get hk hi hki
    · rw [List.getElem?_eraseIdx_of_ge (Nat.le_refl _)] at hz
      have := h.get hi hz (by omega)
      rw [ahead_key h1 h2]
      rw [ahead_iff] at this
      rw [ahead_no]; omega
  unfold ins
  rw [hp, List.eraseIdx_eq_take_drop_succ, List.set_eq_take_append_cons_drop, if_pos hlt]
  rw [List.take_append, List.drop_append]
  have : (xs.take i).length = i := by rw [List.length_take]; omega
  simp [this, List.take_take]

/-! ### the queue -/
structure QInv (xs : List Wt) (m : List (ByteArray × Wt)) (next : Nat) : Prop where
  sorted : Sorted xs
  len : xs.length ≤ 2048
  nx : next ≤ 1099511627776
  seq : ∀ x ∈ xs, 0 ≤ x.seq ∧ x.seq < (next : Int)
  tries : ∀ x ∈ xs, 0 ≤ x.tries ∧ x.tries ≤ 1099511627776
  til : ∀ x ∈ xs, 0 ≤ x.til ∧ x.til ≤ 1099511627840
  names : (xs.map (·.name)).Nodup
  seqs : (xs.map (·.seq)).Nodup
  mp : ∀ k x, mget m k = some x ↔ x ∈ xs ∧ x.name = k
theorem QInv.empty : QInv [] [] 0 := ⟨List.Pairwise.nil, by simp, by omega, by simp, by simp, by simp, by simp, by simp, by simp [mget]⟩
theorem QInv.no {xs : List Wt} {m : List (ByteArray × Wt)} {next : Nat} (h : QInv xs m next) {k : ByteArray} : mget m k = none ↔ ∀ x ∈ xs, x.name ≠ k := by
  constructor
  · intro hn x hx e
    have := (h.mp k x).2 ⟨hx, e⟩
    rw [hn] at this; cases this
  · intro hn
    cases hg : mget m k with
    | none => rfl
    | some x => have := (h.mp k x).1 hg; exact absurd this.2 (hn x this.1)
theorem nodup_uniq {α β : Type} {f : α → β} {l : List α} (h : (l.map f).Nodup) {a b : α} (ha : a ∈ l) (hb : b ∈ l) (e : f a = f b) : a = b := by
  induction l with
  | nil => cases ha
  | cons x l ih =>
    simp only [List.map_cons, List.nodup_cons] at h
    rcases List.mem_cons.1 ha with h1 | h1
    · rcases List.mem_cons.1 hb with h2 | h2
      · rw [h1, h2]
      · exact absurd (List.mem_map.2 ⟨b, h2, by rw [← e, h1]⟩) h.1
    · rcases List.mem_cons.1 hb with h2 | h2
      · exact absurd (List.mem_map.2 ⟨a, h1, by rw [e, h2]⟩) h.1
      · exact ih h.2 h1 h2
/-- One more. -/
theorem QInv.more {xs : List Wt} {m : List (ByteArray × Wt)} {next next' : Nat} (h : QInv xs m next) {x : Wt} (hl : xs.length < 2048) (hn : ∀ y ∈ xs, y.name ≠ x.name) (hs : ∀ y ∈ xs, y.seq ≠ x.seq)
    (hx : 0 ≤ x.seq ∧ x.seq < (next' : Int)) (hnn : next ≤ next') (hn' : next' ≤ 1099511627776) (ht : 0 ≤ x.tries ∧ x.tries ≤ 1099511627776) (hu : 0 ≤ x.til ∧ x.til ≤ 1099511627840) : QInv (ins xs x) (mput m x.name x) next' := by
  have hp := ins_perm xs x
  refine ⟨ins_sorted h.sorted fun y hy => ?_, by rw [ins_len]; omega, hn', fun y hy => ?_, fun y hy => ?_, fun y hy => ?_, ?_, ?_, fun k y => ?_⟩
  · have := hs y hy
    rw [ahead_iff, ahead_iff]; omega
  · rcases mem_ins.1 hy with rfl | hy
    · exact hx
    · have := h.seq y hy; omega
  · rcases mem_ins.1 hy with rfl | hy
    · exact ht
    · exact h.tries y hy
  · rcases mem_ins.1 hy with rfl | hy
    · exact hu
    · exact h.til y hy
  · rw [(hp.map (·.name)).nodup_iff, List.map_cons, List.nodup_cons]
    exact ⟨fun hm => by obtain ⟨y, hy, e⟩ := List.mem_map.1 hm; exact hn y hy e, h.names⟩
  · rw [(hp.map (·.seq)).nodup_iff, List.map_cons, List.nodup_cons]
    exact ⟨fun hm => by obtain ⟨y, hy, e⟩ := List.mem_map.1 hm; exact hs y hy e, h.seqs⟩
  · rw [mget_mput, mem_ins]
    by_cases e : x.name = k
    · rw [if_pos e]
      constructor
      · intro h; cases h; exact ⟨.inl rfl, e⟩
      · rintro ⟨rfl | hy, hk⟩
        · rfl
        · exact absurd (hk.trans e.symm) (hn y hy)
    · rw [if_neg e, h.mp]
      constructor
      · rintro ⟨hy, hk⟩; exact ⟨.inr hy, hk⟩
      · rintro ⟨rfl | hy, hk⟩
        · exact absurd hk e
        · exact ⟨hy, hk⟩
theorem mem_erase {xs : List Wt} (hn : (xs.map (·.name)).Nodup) {i : Nat} {x y : Wt} (hi : xs[i]? = some x) : y ∈ xs.eraseIdx i ↔ y ∈ xs ∧ y.name ≠ x.name := by
  have hx : x ∈ xs := List.mem_of_getElem? hi
  constructor
  · intro hy
    have hy' := List.mem_of_mem_eraseIdx hy
    refine ⟨hy', fun e => ?_⟩
    obtain rfl := nodup_uniq hn hy' hx e
    obtain ⟨j, hj⟩ := List.mem_iff_getElem?.1 hy
    have hnd : xs.Nodup := List.Pairwise.imp (fun h e => h (congrArg _ e)) (List.pairwise_map.1 hn)
    rcases Nat.lt_or_ge j i with h | h
    · rw [List.getElem?_eraseIdx_of_lt h] at hj
      have := (List.getElem?_inj (by exact (List.getElem?_eq_some_iff.1 hj).1) hnd).1 (hj.trans hi.symm); omega
    · rw [List.getElem?_eraseIdx_of_ge h] at hj
      have := (List.getElem?_inj (by exact (List.getElem?_eq_some_iff.1 hj).1) hnd).1 (hj.trans hi.symm); omega
  · rintro ⟨hy, hne⟩
    obtain ⟨j, hj⟩ := List.mem_iff_getElem?.1 hy
    have hji : j ≠ i := fun e => by subst e; rw [hi] at hj; cases hj; exact hne rfl
    rcases Nat.lt_or_ge j i with h | h
    · exact List.mem_of_getElem? (i := j) (by rw [List.getElem?_eraseIdx_of_lt h]; exact hj)
    · exact List.mem_of_getElem? (i := j - 1) (by rw [List.getElem?_eraseIdx_of_ge (by omega), show j - 1 + 1 = j by omega]; exact hj)
/-- One less. -/
theorem QInv.erase {xs : List Wt} {m : List (ByteArray × Wt)} {next : Nat} (h : QInv xs m next) (hm : (mkeys m).Nodup) {i : Nat} {x : Wt} (hi : xs[i]? = some x) : QInv (xs.eraseIdx i) (mdel m x.name) next := by
  have hsub : (xs.eraseIdx i).Sublist xs := List.eraseIdx_sublist _ _
  refine ⟨h.sorted.sublist hsub, Nat.le_trans hsub.length_le h.len, h.nx, fun y hy => h.seq y (hsub.subset hy), fun y hy => h.tries y (hsub.subset hy), fun y hy => h.til y (hsub.subset hy),
    h.names.sublist (hsub.map _), h.seqs.sublist (hsub.map _), fun k y => ?_⟩
  rw [mget_mdel hm, mem_erase h.names hi]
  by_cases e : x.name = k
  · rw [if_pos e]
    constructor
    · intro h; cases h
    · rintro ⟨⟨_, h1⟩, h2⟩; exact absurd (h2.trans e.symm) h1
  · rw [if_neg e, h.mp]
    constructor
    · rintro ⟨h1, h2⟩; exact ⟨⟨h1, fun e2 => e (e2.symm.trans h2)⟩, h2⟩
    · rintro ⟨⟨h1, _⟩, h2⟩; exact ⟨h1, h2⟩
theorem QInv.name_at {xs : List Wt} {m : List (ByteArray × Wt)} {next : Nat} (h : QInv xs m next) {k : ByteArray} {x : Wt} (hg : mget m k = some x) : ∃ i, xs[i]? = some x ∧ i < xs.length ∧ x.name = k := by
  obtain ⟨h1, h2⟩ := (h.mp k x).1 hg
  obtain ⟨i, hi⟩ := List.mem_iff_getElem?.1 h1
  exact ⟨i, hi, (List.getElem?_eq_some_iff.1 hi).1, h2⟩
/-- One turned, its name, priority and number kept. -/
theorem QInv.turn {xs : List Wt} {m : List (ByteArray × Wt)} {next : Nat} (h : QInv xs m next) (hm : (mkeys m).Nodup) {i : Nat} {x y : Wt} (hi : xs[i]? = some y) (h0 : x.name = y.name) (h1 : x.pr = y.pr) (h2 : x.seq = y.seq)
    (ht : 0 ≤ x.tries ∧ x.tries ≤ 1099511627776) (hu : 0 ≤ x.til ∧ x.til ≤ 1099511627840) : QInv (xs.set i x) (mput m x.name x) next := by
  have hlt := (List.getElem?_eq_some_iff.1 hi).1
  have hy := List.mem_of_getElem? hi
  have e1 : xs.set i x = ins (xs.eraseIdx i) x := (ins_erase h.sorted hi h1 h2).symm
  have h3 := h.erase hm hi
  have h4 := h3.more (x := x) (next' := next) (by rw [List.length_eraseIdx_of_lt hlt]; have := h.len; omega) (fun z hz => by have := ((mem_erase h.names hi).1 hz).2; rw [h0]; exact this)
    (fun z hz e => by
      obtain ⟨z1, z2⟩ := (mem_erase h.names hi).1 hz
      have := nodup_uniq h.seqs z1 hy (by show z.seq = y.seq; rw [e, h2])
      subst this; exact z2 rfl) (by have := h.seq y hy; rw [h2]; exact this) (Nat.le_refl _) h.nx ht hu
  rw [← e1] at h4
  refine ⟨h4.sorted, h4.len, h4.nx, h4.seq, h4.tries, h4.til, h4.names, h4.seqs, fun k z => ?_⟩
  rw [← h4.mp k z, mget_mput, mget_mput]
  by_cases e : x.name = k
  · rw [if_pos e, if_pos e]
  · rw [if_neg e, if_neg e, mget_mdel hm, if_neg (by rw [← h0]; exact e)]
end Go.Proofs.Ytfjgiaimlmnepaa
