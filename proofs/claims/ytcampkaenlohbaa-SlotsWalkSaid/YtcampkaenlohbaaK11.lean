/- The document's table of names and slots, and what it tells: plain facts. -/
import Derived.Test.YtcampkaenlohbaaK10
set_option linter.unusedVariables false
set_option linter.unusedSimpArgs false
namespace Go.Proofs.Ytcampkaenlohbaa
open Go Go.V Go.B

/-! ### texts in their order -/
theorem srt_eq {l out : List ByteArray} (hp : out.Perm l) (hs : (out.map bs).Pairwise (· ≤ ·)) : out = srt l := by
  have tr : ∀ a b c : List UInt8, decide (a ≤ b) = true → decide (b ≤ c) = true → decide (a ≤ c) = true := fun a b c h1 h2 => by simp only [decide_eq_true_eq] at *; exact List.le_trans h1 h2
  have to : ∀ a b : List UInt8, (decide (a ≤ b) || decide (b ≤ a)) = true := fun a b => by simp only [Bool.or_eq_true, decide_eq_true_eq]; exact List.le_total a b
  have h1 : out.map bs = (l.map bs).mergeSort fun x y => decide (x ≤ y) := by
    refine List.Perm.eq_of_pairwise (le := fun a b => decide (a ≤ b) = true) (fun a b _ _ h1 h2 => ?_) ?_ (List.pairwise_mergeSort tr to _) ((hp.map bs).trans (List.mergeSort_perm _ _).symm)
    · simp only [decide_eq_true_eq] at h1 h2
      exact List.le_antisymm h1 h2
    · exact hs.imp fun h => by simpa using h
  unfold srt
  rw [← h1, List.map_map]
  have : unb ∘ bs = id := by funext x; rfl
  rw [this, List.map_id]
theorem srt_perm {l l' : List ByteArray} (h : l.Perm l') : srt l = srt l' := by
  have tr : ∀ a b c : List UInt8, decide (a ≤ b) = true → decide (b ≤ c) = true → decide (a ≤ c) = true := fun a b c h1 h2 => by simp only [decide_eq_true_eq] at *; exact List.le_trans h1 h2
  have to : ∀ a b : List UInt8, (decide (a ≤ b) || decide (b ≤ a)) = true := fun a b => by simp only [Bool.or_eq_true, decide_eq_true_eq]; exact List.le_total a b
  refine srt_eq ?_ ?_
  · have h1 : ((l.map bs).mergeSort fun x y => decide (x ≤ y)).Perm (l.map bs) := List.mergeSort_perm _ _
    have h2 := (h1.map unb).trans (by rw [List.map_map]; have : unb ∘ bs = id := by { funext x; rfl }; rw [this, List.map_id] : ((l.map bs).map unb).Perm l)
    exact h2.trans h
  · unfold srt
    rw [List.map_map]
    have : bs ∘ unb = id := by funext x; simp [bs, unb]
    rw [this, List.map_id]
    exact (List.pairwise_mergeSort tr to _).imp fun h => by simpa using h
theorem less_eq (a b : ByteArray) : Op.bytesLess (ByteArray.toList a) (ByteArray.toList b) = decide (bs a < bs b) := by
  rw [ByteArray.toList_eq, ByteArray.toList_eq, bytesLess_eq]; rfl

/-! ### the rows in use -/
def drsF : Nat → List Rw → List DR
  | _, [] => []
  | k, x :: xs => if x.held then ⟨(k : Int), x.name, x.v⟩ :: drsF (k + 1) xs else drsF (k + 1) xs
def drs (xs : List Rw) : List DR := drsF 0 xs
theorem drsF_app : ∀ (xs ys : List Rw) (k : Nat), drsF k (xs ++ ys) = drsF k xs ++ drsF (k + xs.length) ys
  | [], ys, k => by simp [drsF]
  | x :: xs, ys, k => by
    simp only [List.cons_append, drsF, drsF_app xs ys (k + 1), List.length_cons]
    rw [show k + 1 + xs.length = k + (xs.length + 1) by omega]
    split <;> simp
theorem drsF_pr : ∀ (xs : List Rw) (k : Nat), (drsF k xs).map DR.pr = prsF k xs
  | [], k => rfl
  | x :: xs, k => by
    simp only [drsF, prsF]
    cases h : x.held <;> simp [drsF_pr xs (k + 1), DR.pr]
theorem drs_pr (xs : List Rw) : (drs xs).map DR.pr = prs xs := drsF_pr xs 0
theorem drs_names (xs : List Rw) : (drs xs).map (·.name) = names xs := by
  unfold names
  rw [← drs_pr, List.map_map]; rfl
theorem drsF_len : ∀ (xs : List Rw) (k : Nat), (drsF k xs).length = xs.countP (·.held)
  | [], k => rfl
  | x :: xs, k => by
    simp only [drsF, List.countP_cons]
    cases h : x.held <;> simp [drsF_len xs (k + 1)]
theorem mem_drsF {d : DR} : ∀ {xs : List Rw} {k : Nat}, d ∈ drsF k xs ↔ ∃ (i : Nat) (x : Rw), xs[i]? = some x ∧ x.held = true ∧ d = ⟨((k + i : Nat) : Int), x.name, x.v⟩
  | [], k => by simp [drsF]
  | x :: xs, k => by
    have ih := mem_drsF (d := d) (xs := xs) (k := k + 1)
    have step : (∃ (i : Nat) (y : Rw), (x :: xs)[i]? = some y ∧ y.held = true ∧ d = ⟨((k + i : Nat) : Int), y.name, y.v⟩) ↔ (x.held = true ∧ d = ⟨(k : Int), x.name, x.v⟩) ∨ ∃ (i : Nat) (y : Rw), xs[i]? = some y ∧ y.held = true ∧ d = ⟨((k + 1 + i : Nat) : Int), y.name, y.v⟩ := by
      constructor
      · rintro ⟨i, y, h1, h2, h3⟩
        cases i with
        | zero => simp at h1; subst h1; exact .inl ⟨h2, h3⟩
        | succ i => exact .inr ⟨i, y, by simpa using h1, h2, by rw [h3]; congr 2; omega⟩
      · rintro (⟨h2, h3⟩ | ⟨i, y, h1, h2, h3⟩)
        · exact ⟨0, x, rfl, h2, by simpa using h3⟩
        · exact ⟨i + 1, y, by simpa using h1, h2, by rw [h3]; congr 2; omega⟩
    rw [step, ← ih]
    simp only [drsF]
    cases h : x.held <;> simp
theorem mem_drs {d : DR} {xs : List Rw} : d ∈ drs xs ↔ ∃ (i : Nat) (x : Rw), xs[i]? = some x ∧ x.held = true ∧ d = ⟨(i : Int), x.name, x.v⟩ := by
  unfold drs
  rw [mem_drsF]
  simp
theorem drs_step {xs : List Rw} {a : Nat} {x : Rw} (h : xs[a]? = some x) : drs (xs.take (a + 1)) = drs (xs.take a) ++ (if x.held then [⟨(a : Int), x.name, x.v⟩] else []) := by
  have hl := (List.getElem?_eq_some_iff.1 h).1
  unfold drs
  rw [snoc_at h, drsF_app, List.length_take, Nat.min_eq_left (by omega), Nat.zero_add]
  simp only [drsF]
theorem drs_len (xs : List Rw) : (drs xs).length = xs.countP (·.held) := drsF_len xs 0
theorem drsF_none : ∀ {xs : List Rw} {k : Nat}, (∀ x ∈ xs, x.held = false) → drsF k xs = []
  | [], k, h => rfl
  | x :: xs, k, h => by
    have ih := drsF_none (xs := xs) (k := k + 1) (fun y hy => h y (List.mem_cons_of_mem _ hy))
    simp [drsF, h x (by simp), ih]
/-- The document's rows are the table's. -/
structure Dm (s : TS) (ds : List DR) : Prop where
  ok : s.ok
  perm : ds.Perm (drs s.rows)
theorem TInv.uniq {most : Nat} {rows : List Rw} {m : List (ByteArray × Int)} {low : Nat} (h : TInv most rows m low) {i j : Nat} {x y : Rw} (hx : rows[i]? = some x) (hy : rows[j]? = some y) (h1 : x.held = true) (h2 : y.held = true) (e : x.name = y.name) : i = j := by
  have a := (h.mp x.name i).2 ⟨i, x, hx, h1, rfl, rfl⟩
  have b := (h.mp x.name j).2 ⟨j, y, hy, h2, e.symm, rfl⟩
  rw [a] at b
  have := Option.some.inj b
  omega
namespace Dm
variable {s : TS} {ds : List DR}
theorem nil : Dm TS.nil [] := ⟨⟨by simp [TS.nil], by simp [TS.nil], by simp [TS.nil, mget], by simp [TS.nil], by simp [TS.nil], by simp [TS.nil], by simp [TS.nil], by simp [TS.nil], by simp [TS.nil]⟩, by simp [TS.nil, drs, drsF]⟩
theorem mem (h : Dm s ds) {d : DR} : d ∈ ds ↔ ∃ (i : Nat) (x : Rw), s.rows[i]? = some x ∧ x.held = true ∧ d = ⟨(i : Int), x.name, x.v⟩ := by
  rw [h.perm.mem_iff, mem_drs]
theorem len (h : Dm s ds) : ds.length = s.m.length := by
  rw [h.perm.length_eq, drs_len, h.ok.cnt]
theorem len_le (h : Dm s ds) : ds.length ≤ 65536 := by
  have h1 := h.len
  have h2 := h.ok.full
  have h3 := h.ok.top
  omega
theorem slot_lt (h : Dm s ds) {d : DR} (hd : d ∈ ds) : 0 ≤ d.slot ∧ d.slot < (s.rows.length : Int) := by
  obtain ⟨i, x, hx, _, rfl⟩ := h.mem.1 hd
  have := (List.getElem?_eq_some_iff.1 hx).1
  simp; omega
theorem idx {P : DR → Bool} {i : Nat} {x : Rw} (h : Dm s ds) (hx : s.rows[i]? = some x) (hh : x.held = true) (hp : P ⟨(i : Int), x.name, x.v⟩ = true) (hu : ∀ (j : Nat) (y : Rw), s.rows[j]? = some y → y.held = true → P ⟨(j : Int), y.name, y.v⟩ = true → j = i) :
    ∃ a : Nat, ds[a]? = some ⟨(i : Int), x.name, x.v⟩ ∧ idxI ds P = (a : Int) := by
  cases hf : ds.findIdx? P with
  | none =>
    rw [List.findIdx?_eq_none_iff] at hf
    have := hf _ (h.mem.2 ⟨i, x, hx, hh, rfl⟩)
    rw [hp] at this; cases this
  | some a =>
    refine ⟨a, ?_, by unfold idxI; rw [hf]⟩
    obtain ⟨hl, h1, _⟩ := List.findIdx?_eq_some_iff_getElem.1 hf
    obtain ⟨j, y, hy, hyh, e⟩ := h.mem.1 (List.getElem_mem hl)
    rw [e] at h1
    have := hu j y hy hyh h1
    subst this
    rw [hx] at hy
    cases hy
    rw [List.getElem?_eq_getElem hl, e]
theorem idx_none {P : DR → Bool} (h : Dm s ds) (hu : ∀ (j : Nat) (y : Rw), s.rows[j]? = some y → y.held = true → P ⟨(j : Int), y.name, y.v⟩ = false) : idxI ds P = -1 :=
  idxI_none fun k y hy => by
    obtain ⟨j, x, hx, hh, rfl⟩ := h.mem.1 (List.mem_of_getElem? hy)
    exact hu j x hx hh
theorem at_held {a : Nat} {x : Rw} (h : Dm s ds) (hx : s.rows[a]? = some x) (hh : x.held = true) : ∃ i : Nat, ds[i]? = some ⟨(a : Int), x.name, x.v⟩ ∧ idxI ds (fun d => d.slot == (a : Int)) = (i : Int) :=
  h.idx (P := fun d => d.slot == (a : Int)) hx hh (by simp) fun j y _ _ e => by
    have h1 : (j : Int) = a := by simpa using e
    omega
theorem at_free {a : Int} (h : Dm s ds) (hf : ∀ (j : Nat) (x : Rw), s.rows[j]? = some x → x.held = true → (j : Int) ≠ a) : idxI ds (fun d => d.slot == a) = -1 :=
  h.idx_none (P := fun d => d.slot == a) fun j y hy hh => by simpa using hf j y hy hh
theorem find_held {a : Nat} {x : Rw} {name : ByteArray} (h : Dm s ds) (hx : s.rows[a]? = some x) (hh : x.held = true) (hn : x.name = name) : ∃ i : Nat, ds[i]? = some ⟨(a : Int), x.name, x.v⟩ ∧ idxI ds (fun d => decide (d.name = name)) = (i : Int) :=
  h.idx (P := fun d => decide (d.name = name)) hx hh (by simpa using hn) fun j y hy hyh e => h.ok.uniq hy hx hyh hh (by rw [hn]; simpa using e)
theorem find_none {name : ByteArray} (h : Dm s ds) (hg : mget s.m name = none) : idxI ds (fun d => decide (d.name = name)) = -1 :=
  h.idx_none (P := fun d => decide (d.name = name)) fun j y hy hh => by
    by_cases e : y.name = name
    · have := (h.ok.mp name j).2 ⟨j, y, hy, hh, e, rfl⟩
      rw [hg] at this; cases this
    · simpa using e
end Dm
theorem drs_set {xs : List Rw} {i : Nat} {x y : Rw} (hx : xs[i]? = some x) : drs (xs.set i y) = drs (xs.take i) ++ (if y.held then [⟨(i : Int), y.name, y.v⟩] else []) ++ drsF (i + 1) (xs.drop (i + 1)) := by
  have hl := (List.getElem?_eq_some_iff.1 hx).1
  rw [List.set_eq_take_append_cons_drop, if_pos hl]
  unfold drs
  rw [drsF_app, List.length_take, Nat.min_eq_left (by omega), Nat.zero_add]
  simp only [drsF]
  split <;> simp
theorem set_self {α : Type} {xs : List α} {i : Nat} {x : α} (h : xs[i]? = some x) : xs.set i x = xs := by
  obtain ⟨hl, e⟩ := List.getElem?_eq_some_iff.1 h
  rw [← e]
  exact List.set_getElem_self hl
theorem drs_get {xs : List Rw} {i : Nat} {x : Rw} (hx : xs[i]? = some x) : drs xs = drs (xs.take i) ++ (if x.held then [⟨(i : Int), x.name, x.v⟩] else []) ++ drsF (i + 1) (xs.drop (i + 1)) := by
  have := drs_set (y := x) hx
  rwa [set_self hx] at this
theorem drs_put {xs : List Rw} {a : Nat} {x : Rw} (ha : a = xs.length ∨ ∃ y, xs[a]? = some y ∧ y.held = false) (hh : x.held = true) : (drs (putRows xs a x)).Perm (drs xs ++ [⟨(a : Int), x.name, x.v⟩]) := by
  unfold putRows
  split
  · rename_i e
    subst e
    unfold drs
    rw [drsF_app]
    simp [drsF, hh]
  · rename_i hne
    rcases ha with e | ⟨y, hy, hyf⟩
    · exact absurd e hne
    · rw [drs_set hy, drs_get hy, if_pos hh, if_neg (by simp [hyf]), List.append_nil]
      rw [List.append_assoc, List.append_assoc]
      exact List.Perm.append_left _ List.perm_append_comm
end Go.Proofs.Ytcampkaenlohbaa
