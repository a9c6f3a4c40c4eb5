/- Slots: the iterator that All answers; the names sorted. -/
import Derived.Test.YtcampkaenlohbaaK7
import Derived.Test.YtcampkaenlohbaaRg
import Derived.Test.YtcampkaenlohbaaSh
import Derived.Sort.OwnSorted
set_option linter.unusedVariables false
set_option linter.unusedSimpArgs false
namespace Go.Proofs.Ytcampkaenlohbaa
open Go Go.V Go.B

structure Pr where
  slot : Int
  name : ByteArray
def Pr.out (y : Pr) : List Value := [.int .i64 y.slot, .string y.name]
/-- The slots in use and their names, rising; the first row's slot is k. -/
def prsF : Nat → List Rw → List Pr
  | _, [] => []
  | k, x :: xs => if x.held then ⟨(k : Int), x.name⟩ :: prsF (k + 1) xs else prsF (k + 1) xs
def prs (xs : List Rw) : List Pr := prsF 0 xs
theorem prsF_app : ∀ (xs ys : List Rw) (k : Nat), prsF k (xs ++ ys) = prsF k xs ++ prsF (k + xs.length) ys
  | [], ys, k => by simp [prsF]
  | x :: xs, ys, k => by
    simp only [List.cons_append, prsF, prsF_app xs ys (k + 1), List.length_cons]
    rw [show k + 1 + xs.length = k + (xs.length + 1) by omega]
    split <;> simp
theorem prs_step {xs : List Rw} {a : Nat} {x : Rw} (h : xs[a]? = some x) : prs (xs.take (a + 1)) = prs (xs.take a) ++ (if x.held then [⟨(a : Int), x.name⟩] else []) := by
  have hl := (List.getElem?_eq_some_iff.1 h).1
  unfold prs
  rw [snoc_at h, prsF_app, List.length_take, Nat.min_eq_left (by omega), Nat.zero_add]
  simp only [prsF]
theorem prs_split {xs : List Rw} {a : Nat} {x : Rw} (h : xs[a]? = some x) (hh : x.held = true) : prs xs = prs (xs.take a) ++ ⟨(a : Int), x.name⟩ :: prsF (a + 1) (xs.drop (a + 1)) := by
  have hl := (List.getElem?_eq_some_iff.1 h).1
  have e : xs = xs.take (a + 1) ++ xs.drop (a + 1) := (List.take_append_drop _ _).symm
  have h1 := prs_step h
  unfold prs at h1 ⊢
  conv => lhs; rw [e]
  rw [prsF_app, h1, List.length_take, Nat.min_eq_left (by omega), Nat.zero_add]
  simp [hh]
theorem prsF_len : ∀ (xs : List Rw) (k : Nat), (prsF k xs).length = xs.countP (·.held)
  | [], k => rfl
  | x :: xs, k => by
    simp only [prsF, List.countP_cons]
    cases h : x.held <;> simp [prsF_len xs (k + 1)]
theorem All_iter {b n c : Nat} {A : Option Addr} {xs : List Rw} (hn : xs.length = n) (hb : n ≤ 65536) :
    Iter Try.prog Pr.out 41 [.pointer (some ⟨b, 0, none⟩)] (prs xs) (fun w => BlkT w b [.slice A n c] 77 ∧ Cells w A (RL.flat xs)) := by
  intro yl w J Q R j0 st hK hy k1 k2
  refine walk_c (A := A) (c := c) (xs := xs) (J := fun a w1 => J (prs (xs.take a)) w1) (Q := Q) hn hb (hK _ _ j0).1 j0 (fun a w1 w2 e h => st _ _ _ e h) (fun a w1 h => (hK _ _ h).2) ?_ ?_ ?_ (fun w1 h => k2 w1 h)
  · intro a x w1 hx hh h
    rw [prs_step hx, hh]
    simpa using h
  · intro a x w1 hx hh h R' q1 q2
    refine hy _ ⟨(a : Int), x.name⟩ _ w1 (prs_split hx hh) h R' (fun w2 h2 => q1 w2 ?_) q2
    rw [prs_step hx, hh]
    simpa using h2
  · intro w1 h
    rw [List.take_of_length_le (by omega)] at h
    exact k1 w1 h
theorem OwnL.none0 {α : Type} {L : Lay α} {w : World} {B n c : Nat} {e : TypeId} {A : Option Addr} {xs : List α} (h : OwnL L w B e A n c xs) (hA : A ≠ none) : ∃ g cap cur, A = some ⟨g, 0, none⟩ ∧ c = cap ∧ B ≤ g ∧ w.heap[g]? = some (.cells cur e (0, 0)) ∧ n ≤ cap ∧ cap ≤ maxLen ∧ cur.size = cap * L.sz ∧ cur.toList.take (n * L.sz) = L.flat xs := by
  rcases h.2 with ⟨hv, _⟩ | ⟨g, cap, cur, hv, h1, h2, h3, h4, h5, h6⟩
  · injection hv with h1; exact absurd h1 hA
  · injection hv with e1 e2 e3
    exact ⟨g, cap, cur, e1, e3, h1, h2, h3, h4, h5, h6⟩
def bs (s : ByteArray) : List UInt8 := s.data.toList
def unb (l : List UInt8) : ByteArray := ⟨l.toArray⟩
def srt (l : List ByteArray) : List ByteArray := ((l.map bs).mergeSort fun x y => decide (x ≤ y)).map unb
theorem SL_flat (l : List ByteArray) : SL.flat l = (l.map bs).map encStr := by
  induction l with
  | nil => rfl
  | cons x l ih => rw [Lay.flat_cons, ih]; simp [SL, bs, encStr]
theorem SL_srt (l : List ByteArray) : SL.flat (srt l) = ((l.map bs).mergeSort fun x y => decide (x ≤ y)).map encStr := by
  rw [SL_flat]
  unfold srt
  rw [List.map_map, List.map_map]
  congr 1
/-- slices.Sort at texts, over a row of the call's own. -/
theorem sort_c {w : World} {B n c : Nat} {A : Option Addr} {xs : List ByteArray} (own : OwnL SL w B 9 A n c xs) (hA : A ≠ none) (hn : n < 4611686018427387904) {R : Ending → World → Prop}
    (k : ∀ w', OwnL SL w' B 9 A n c (srt xs) → Ext (ownF A) w w' → R (.returned undef) w') : Calls Try.prog 31 #[.slice A n c] w R := by
  have hxl := own.len
  obtain ⟨g, cap, cur, rfl, rfl, hB, hh, hnc, hcm, hsz, htk⟩ := OwnL.none0 own hA
  have hss : (xs.map bs).length = n := by simpa using hxl
  have h1 : cur.toList.take (xs.map bs).length = (xs.map bs).map encStr := by
    rw [hss, ← SL_flat, ← htk]
    show _ = cur.toList.take (n * 1)
    rw [Nat.mul_one]
  have := Any.slices_Sort_string Try.lays190 g 0 c (xs.map bs) w (holds_of_block hh h1) (Array.getElem?_eq_some_iff.1 hh).1 (by omega)
  rw [hss] at this
  refine Calls.mono this ?_
  rintro e w' ⟨rfl, m, os, rfl⟩
  refine k _ ?_ (Ext.of_grown (A := some ⟨g, 0, none⟩) (n := n) (c := c) (grownBy_sorted _))
  have hl : ((xs.map bs).mergeSort fun x y => decide (x ≤ y)).length = (xs.map bs).length := List.length_mergeSort _
  have := ownsRow_sorted (n := m) (os := os) hl hB hh (by omega) hcm hsz
  rw [hss, ← SL_srt] at this
  exact this
end Go.Proofs.Ytcampkaenlohbaa
