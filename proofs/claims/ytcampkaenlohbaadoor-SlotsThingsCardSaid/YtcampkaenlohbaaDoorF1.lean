/- Slots: numerals as names; a table whose slots are filled in their order. -/
import Derived.Test.YtcampkaenlohbaaDoorK4
import Derived.Test.YtcampkaenlohbaaDoorSi
set_option linter.unusedVariables false
set_option linter.unusedSimpArgs false
namespace Go.Proofs.YtcampkaenlohbaaDoor
open Go Go.V Go.B

/-! ### numerals -/
def dv (l : List UInt8) : Nat := l.foldl (fun a c => a * 10 + (c.toNat - 48)) 0
theorem dv_dec (u : Nat) : dv (Go.Lib.decDigits u) = u := by
  induction u using Nat.strongRecOn with
  | _ u ih =>
    rw [Go.Lib.decDigits]
    split
    · simp [dv]; omega
    · rename_i h
      have := ih (u / 10) (by omega)
      unfold dv at this ⊢
      rw [List.foldl_append, this]
      simp; omega
theorem dec_len (u : Nat) : (Go.Lib.decDigits u).length ≤ u / 10 + 1 := by
  induction u using Nat.strongRecOn with
  | _ u ih =>
    rw [Go.Lib.decDigits]
    split
    · simp
    · have := ih (u / 10) (by omega)
      rw [List.length_append, List.length_singleton]
      omega
def nm (i : Nat) : ByteArray := (⟨#[110]⟩ : ByteArray) ++ ⟨(Go.Lib.itoa (i : Int)).toArray⟩
theorem nm_data (i : Nat) : (nm i).data.toList = 110 :: Go.Lib.decDigits i := by
  unfold nm Go.Lib.itoa
  rw [if_neg (by omega), Int.toNat_natCast]
  simp
theorem nm_inj {i j : Nat} (h : nm i = nm j) : i = j := by
  have := congrArg (fun b : ByteArray => dv (b.data.toList.tail)) h
  simp only [nm_data, List.tail_cons, dv_dec] at this
  exact this
theorem nm_size (i : Nat) : (nm i).size = (Go.Lib.decDigits i).length + 1 := by
  have : (nm i).size = (nm i).data.toList.length := by simp
  rw [this, nm_data]; simp
theorem nm_good {i : Nat} (h : i < 300) : ¬ badN (nm i) := by
  have h1 := nm_size i
  have h2 := dec_len i
  unfold badN
  omega
def more : ByteArray := ⟨#[109, 111, 114, 101]⟩
theorem nm_more (i : Nat) : nm i ≠ more := fun h => by
  have := congrArg (fun b : ByteArray => b.data.toList.head?) h
  simp [nm_data, more] at this
theorem more_good : ¬ badN more := by decide
theorem empty_bad : badN ByteArray.empty := by decide
theorem tab_ext {F : List Nat} {w w' : World} {P : Program} {name : String} {k : IntKind} {zs : List Int} {g : Nat} (h : Go.Lib.TabIs P w name k zs) (hg : P.globalNamed name = some g) (e : Ext F w w') (hF : g ∉ F) : Go.Lib.TabIs P w' name k zs := by
  unfold Go.Lib.TabIs World.var? at h ⊢
  rw [hg] at h ⊢
  simp only [Option.bind_some] at h ⊢
  have hl : g < w.heap.size := by
    rcases Nat.lt_or_ge g w.heap.size with h1 | h1
    · exact h1
    · rw [Array.getElem?_eq_none h1] at h; cases h
  rw [e.same g hl hF]; exact h
/-- The powers of ten stand. -/
def Pow (w : World) : Prop := Go.Lib.TabIs Tryd.prog w "internal/strconv.uint64pow10" .u64 Go.Lib.pow10Tab
theorem pow_at : ∃ g, Tryd.prog.globalNamed "internal/strconv.uint64pow10" = some g := Option.isSome_iff_exists.1 (by kernel_rfl)
theorem Pow.ext0 {w w' : World} (h : Pow w) (e : Ext [] w w') : Pow w' := by
  obtain ⟨g, hg⟩ := pow_at
  exact tab_ext h hg e (by simp)
theorem Itoa_c {w : World} (hp : Pow w) (i : Nat) (hi : i < 1000000) {R : Ending → World → Prop} (k : ∀ w', Ext [] w w' → R (.returned (.string ⟨(Go.Lib.itoa (i : Int)).toArray⟩)) w') : Calls Tryd.prog 9 #[.int .i64 (i : Int)] w R := by
  refine (Any.strconv_Itoa Tryd.lays171 (i : Int) (by omega) (by omega) w hp).mono fun e w' h => ?_
  obtain ⟨rfl, n, os, rfl⟩ := h
  refine k _ ⟨rfl, rfl, rfl, ?_, fun b hb _ => ?_⟩
  · rw [Go.Sort.size_grow]
    exact Nat.le_add_right _ _
  · show ((w.heap ++ os)[b]?) = _
    rw [Array.getElem?_append_left hb]
/-! ### filled tables -/
theorem span_lo : ∀ (rows : List Rw) (i : Nat) (x : Rw), spanOf rows ≤ i → rows[i]? = some x → x.held = false
  | [], i, x, _, h => by simp at h
  | y :: ys, i, x, hi, h => by
    unfold spanOf at hi
    cases i with
    | zero =>
      simp at h
      subst h
      split at hi
      · split at hi
        · omega
        · rename_i h0; simpa using h0
      · omega
    | succ i =>
      simp only [List.getElem?_cons_succ] at h
      refine span_lo ys i x ?_ h
      split at hi <;> omega
theorem trim_at {rows : List Rw} {j : Nat} {y : Rw} (hh : y.held = true) : (trimT rows)[j]? = some y ↔ rows[j]? = some y := by
  unfold trimT
  rw [List.getElem?_take]
  constructor
  · intro h; split at h
    · exact h
    · cases h
  · intro h
    rw [if_pos]
    · exact h
    · rcases Nat.lt_or_ge j (spanOf rows) with h1 | h1
      · exact h1
      · have := span_lo rows j y h1 h
        rw [hh] at this; cases this
/-- What Drop does. -/
def Full (s : TS) (n : Nat) : Prop := s.rows.length = n ∧ ∀ j, j < n → ∃ x, s.rows[j]? = some x ∧ x.held = true ∧ x.name = nm j
section
variable {s : TS} {n : Nat}
theorem Full.cnt (h : Full s n) (o : s.ok) : s.m.length = n := by
  rw [o.cnt, ← h.1, List.countP_eq_length]
  intro x hx
  obtain ⟨j, hj⟩ := List.getElem?_of_mem hx
  obtain ⟨y, hy, hh, _⟩ := h.2 j (by rw [← h.1]; exact (List.getElem?_eq_some_iff.1 hj).1)
  rw [hj] at hy; cases hy; exact hh
theorem Full.look (h : Full s n) (o : s.ok) {j : Nat} (hj : j < n) (hb : j < 300) : lookV s (nm j) = ((j : Int), 0) := by
  obtain ⟨x, h1, h2, h3⟩ := h.2 j hj
  unfold lookV
  rw [if_neg (nm_good hb), (o.mp (nm j) (j : Int)).2 ⟨j, x, h1, h2, h3, rfl⟩]
theorem Full.none (h : Full s n) (o : s.ok) {name : ByteArray} (hn : ∀ j, j < n → nm j ≠ name) (hb : ¬ badN name) : lookV s name = (0, 54) := by
  unfold lookV
  rw [if_neg hb]
  cases hg : mget s.m name with
  | none => rfl
  | some v =>
    obtain ⟨i, x, h1, h2, h3, _⟩ := (o.mp name v).1 hg
    have hi : i < n := by rw [← h.1]; exact (List.getElem?_eq_some_iff.1 h1).1
    obtain ⟨y, g1, _, g3⟩ := h.2 i hi
    rw [h1] at g1; cases g1
    exact absurd (g3.symm.trans h3) (hn i hi)
theorem Full.free (h : Full s n) : freeAt s.rows = n := freeAt_of (fun i hi => by
  obtain ⟨x, h1, h2, _⟩ := h.2 i hi
  exact ⟨x, h1, h2⟩) (.inl h.1.symm)
theorem Full.put (h : Full s n) (o : s.ok) (hm : n < s.most) (hb : n < 300) (v : Int) : (putV s (nm n) v).2 = ((n : Int), 0) ∧ Full (putV s (nm n) v).1 (n + 1) ∧ (putV s (nm n) v).1.most = s.most := by
  have hl := h.none o (name := nm n) (fun j hj e => by have := nm_inj e; omega) (nm_good hb)
  have hc := h.cnt o
  unfold putV
  rw [hl, if_neg (by decide), if_neg (by decide), if_neg (by omega), h.free]
  refine ⟨rfl, ⟨?_, fun j hj => ?_⟩, rfl⟩
  · show (putRows s.rows n _).length = _
    unfold putRows
    rw [if_pos h.1.symm, List.length_append, h.1]; rfl
  · by_cases e : j = n
    · exact ⟨_, (put_at (by rw [h.1]; exact Nat.le_refl _)).2 (.inl ⟨e, rfl⟩), rfl, by rw [e]⟩
    · obtain ⟨x, h1, h2, h3⟩ := h.2 j (by omega)
      exact ⟨x, (put_at (by rw [h.1]; exact Nat.le_refl _)).2 (.inr ⟨e, h1⟩), h2, h3⟩
theorem Full.again (h : Full s n) (o : s.ok) {j : Nat} (hj : j < n) (hb : j < 300) (v : Int) : putV s (nm j) v = (s, 0, 52) := by
  unfold putV
  rw [h.look o hj hb, if_pos rfl]
theorem put_empty (v : Int) : putV s ByteArray.empty v = (s, 0, 51) := by
  have : lookV s ByteArray.empty = (0, 51) := by unfold lookV; rw [if_pos empty_bad]
  unfold putV
  rw [this, if_neg (by decide), if_pos (by decide)]
theorem Full.more (h : Full s n) (o : s.ok) (hm : s.most = n) (v : Int) : putV s more v = (s, 0, 53) := by
  have hl := h.none o (name := Go.Proofs.YtcampkaenlohbaaDoor.more) (fun j _ => nm_more j) more_good
  have hc := h.cnt o
  unfold putV
  rw [hl, if_neg (by decide), if_neg (by decide), if_pos (by omega)]
theorem Full.drop (h : Full s n) (o : s.ok) {d : Nat} (hd : d < n) (hb : d < 300) : (dropV s (nm d)).2 = ((d : Int), 0) ∧ (dropV s (nm d)).1.most = s.most ∧ (dropV s (nm d)).1.rows = trimT (s.rows.set d Rw.zero) := by
  unfold dropV
  rw [h.look o hd hb, if_neg (fun e => e rfl), Int.toNat_natCast]
  exact ⟨rfl, rfl, rfl⟩
theorem Full.back (h : Full s n) (hm : s.most = n) {d : Nat} (hd : d < n) (hb : d < 300) {s1 : TS} (o1 : s1.ok) (hr : s1.rows = trimT (s.rows.set d Rw.zero)) (hm1 : s1.most = n) (v : Int) (o2 : (putV s1 (nm d) v).1.ok) :
    (putV s1 (nm d) v).2 = ((d : Int), 0) ∧ Full (putV s1 (nm d) v).1 n ∧ (putV s1 (nm d) v).1.most = n := by
  have hdl : d < s.rows.length := by rw [h.1]; exact hd
  have hx : ∀ i, i < n → i ≠ d → ∃ x, s1.rows[i]? = some x ∧ x.held = true ∧ x.name = nm i := fun i hi hne => by
    obtain ⟨x, h1, h2, h3⟩ := h.2 i hi
    exact ⟨x, by rw [hr, trim_at h2, List.getElem?_set_ne (fun e => hne e.symm)]; exact h1, h2, h3⟩
  have hz : ∀ x, s1.rows[d]? = some x → x.held = false := fun x hx => by
    cases hh : x.held with
    | false => rfl
    | true =>
      rw [hr, trim_at hh, List.getElem?_set_self hdl] at hx
      cases hx; cases hh
  have hle : s1.rows.length ≤ n := by
    rw [hr]; unfold trimT
    rw [List.length_take, List.length_set, h.1]; exact Nat.min_le_right _ _
  have hdle : d ≤ s1.rows.length := by
    rcases Nat.lt_or_ge s1.rows.length d with h1 | h1
    · obtain ⟨x, g, _⟩ := hx s1.rows.length (by omega) (by omega)
      rw [List.getElem?_eq_none (Nat.le_refl _)] at g; cases g
    · exact h1
  have hfree : freeAt s1.rows = d := freeAt_of (fun i hi => by
    obtain ⟨x, h1, h2, _⟩ := hx i (by omega) (by omega)
    exact ⟨x, h1, h2⟩) (by
    rcases Nat.lt_or_ge d s1.rows.length with h1 | h1
    · exact .inr ⟨_, List.getElem?_eq_getElem h1, hz _ (List.getElem?_eq_getElem h1)⟩
    · exact .inl (by omega))
  have hl : lookV s1 (nm d) = (0, 54) := by
    unfold lookV
    rw [if_neg (nm_good hb)]
    cases hg : mget s1.m (nm d) with
    | none => rfl
    | some v =>
      obtain ⟨i, x, h1, h2, h3, _⟩ := (o1.mp (nm d) v).1 hg
      have hi : i < n := by have := (List.getElem?_eq_some_iff.1 h1).1; omega
      by_cases e : i = d
      · subst e
        rw [hz x h1] at h2; cases h2
      · obtain ⟨y, g1, _, g3⟩ := hx i hi e
        rw [h1] at g1; cases g1
        exact absurd (nm_inj (g3.symm.trans h3)) e
  have hcnt : s1.m.length < n := by
    have h1 := o1.cnt
    obtain ⟨y, g1, g2, _⟩ := h.2 d hd
    have h2 := cnt_held Rw.zero g1
    have h3 : (s.rows.set d Rw.zero).countP (·.held) ≥ s1.rows.countP (·.held) := by
      rw [hr]
      exact List.Sublist.countP_le (List.take_sublist _ _)
    have h4 := List.countP_le_length (p := fun x : Rw => x.held) (l := s.rows)
    rw [g2] at h2
    simp only [if_true, Rw.zero, Bool.false_eq_true, if_false] at h2
    have h5 := h.1
    simp only [Rw.zero] at h3
    omega
  have e : putV s1 (nm d) v = (⟨s1.most, putRows s1.rows d ⟨true, nm d, v⟩, mput s1.m (nm d) (d : Int), d + 1⟩, (d : Int), 0) := by
    unfold putV
    rw [hl, if_neg (by decide), if_neg (by decide), if_neg (by omega), hfree]
  rw [e] at o2 ⊢
  have hat : ∀ j, j < n → ∃ x, (putRows s1.rows d ⟨true, nm d, v⟩)[j]? = some x ∧ x.held = true ∧ x.name = nm j := fun j hj => by
    by_cases e : j = d
    · exact ⟨_, (put_at hdle).2 (.inl ⟨e, rfl⟩), rfl, by rw [e]⟩
    · obtain ⟨x, h1, h2, h3⟩ := hx j hj e
      exact ⟨x, (put_at hdle).2 (.inr ⟨e, h1⟩), h2, h3⟩
  refine ⟨rfl, ⟨?_, hat⟩, hm1⟩
  have h1 : (putRows s1.rows d ⟨true, nm d, v⟩).length ≤ s1.most := o2.len
  show (putRows s1.rows d ⟨true, nm d, v⟩).length = n
  rcases Nat.lt_or_ge (putRows s1.rows d ⟨true, nm d, v⟩).length n with h2 | h2
  · obtain ⟨x, g, _⟩ := hat _ h2
    rw [List.getElem?_eq_none (Nat.le_refl _)] at g; cases g
  · omega
end
end Go.Proofs.YtcampkaenlohbaaDoor
