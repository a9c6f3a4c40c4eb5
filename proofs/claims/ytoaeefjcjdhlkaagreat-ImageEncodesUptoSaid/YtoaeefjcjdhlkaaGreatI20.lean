/- Image: how long an image can be; no program. -/
import Derived.Test.YtoaeefjcjdhlkaaGreatI19
import Derived.Test.YtoaeefjcjdhlkaaGreatRows
import Derived.Test.YtoaeefjcjdhlkaaGreatOg
set_option linter.unusedVariables false
set_option linter.unusedSimpArgs false
namespace Go.Proofs.YtoaeefjcjdhlkaaGreat
open Go Go.V Go.B
open Go.ChangeShapes Go.WideShapes Go.ChangeAt Go.RowKit Go.Joins Go.Deep

mutual
def bulkD : D → Nat
  | .int _ => 1
  | .str s => s.size + 1
  | .bool _ => 1
  | .list l => bulkL l + 1
def bulkR : List D → Nat
  | [] => 0
  | d :: r => bulkD d + bulkR r
def bulkL : List (List D) → Nat
  | [] => 0
  | r :: l => bulkR r + bulkL l + 1
end
/-- The most bytes that a piece costs. -/
def costP : Piece → Nat
  | .count _ => 3
  | .num _ => 10
  | .truth _ => 1
  | .text s => s.size + 6
def costPs (ps : List Piece) : Nat := (ps.map costP).sum
theorem costPs_app (a b : List Piece) : costPs (a ++ b) = costPs a + costPs b := by simp [costPs]
theorem costPs_one (p : Piece) : costPs [p] = costP p := by simp [costPs]
theorem costPs_cons (p : Piece) (l : List Piece) : costPs (p :: l) = costP p + costPs l := by simp [costPs]
mutual
theorem cost_D : ∀ (d : D), costPs (flatD d) ≤ 10 * bulkD d
  | .int n => by simp [flatD, costPs_one, costP, bulkD]
  | .str s => by simp [flatD, costPs_one, costP, bulkD]; omega
  | .bool b => by simp [flatD, costPs_one, costP, bulkD]
  | .list l => by
    have := cost_L l
    simp only [flatD, costPs_cons, costP, bulkD]
    omega
theorem cost_R : ∀ (r : List D), costPs (flatR r) ≤ 10 * bulkR r
  | [] => by simp [flatR, costPs]
  | d :: r => by
    have h1 := cost_D d
    have h2 := cost_R r
    simp only [flatR, costPs_app, bulkR]
    omega
theorem cost_L : ∀ (l : List (List D)), costPs (flatL l) ≤ 10 * bulkL l
  | [] => by simp [flatL, costPs]
  | r :: l => by
    have h1 := cost_R r
    have h2 := cost_L l
    simp only [flatL, costPs_app, bulkL]
    omega
end
/-- What a piece may hold. -/
def okP : Piece → Prop
  | .count n => n ≤ 1048576
  | .text s => s.size ≤ 1048576
  | .num n => -9223372036854775808 ≤ n ∧ n < 9223372036854775808
  | .truth _ => True
mutual
theorem ok_D : ∀ {t : Ty} {d : D}, tyD t d → bulkD d ≤ 1048576 → ∀ p ∈ flatD d, okP p
  | t, .int n, ht, h => by
    cases t <;> simp only [tyD] at ht
    intro p hp
    simp [flatD] at hp
    subst hp
    exact ht
  | t, .str s, ht, h => by
    intro p hp
    simp [flatD] at hp
    subst hp
    simp only [bulkD] at h
    show s.size ≤ 1048576
    omega
  | t, .bool b, ht, h => by
    intro p hp
    simp [flatD] at hp
    subst hp
    trivial
  | t, .list l, ht, h => by
    cases t <;> simp only [tyD] at ht
    rename_i ts
    intro p hp
    simp only [bulkD] at h
    simp only [flatD, List.mem_cons] at hp
    rcases hp with rfl | hp
    · show l.length ≤ 1048576
      have := len_L l
      omega
    · exact ok_L ht.2 (by omega) p hp
theorem ok_R : ∀ {ts : List Ty} {r : List D}, tyR ts r → bulkR r ≤ 1048576 → ∀ p ∈ flatR r, okP p
  | ts, [], ht, h => by intro p hp; simp [flatR] at hp
  | [], d :: r, ht, h => ht.elim
  | t :: ts, d :: r, ht, h => by
    simp only [tyR] at ht
    simp only [bulkR] at h
    intro p hp
    simp only [flatR, List.mem_append] at hp
    rcases hp with hp | hp
    · exact ok_D ht.1 (by omega) p hp
    · exact ok_R ht.2 (by omega) p hp
theorem ok_L : ∀ {ts : List Ty} {l : List (List D)}, tyL ts l → bulkL l ≤ 1048576 → ∀ p ∈ flatL l, okP p
  | ts, [], ht, h => by intro p hp; simp [flatL] at hp
  | ts, r :: l, ht, h => by
    simp only [tyL] at ht
    simp only [bulkL] at h
    intro p hp
    simp only [flatL, List.mem_append] at hp
    rcases hp with hp | hp
    · exact ok_R ht.1 (by omega) p hp
    · exact ok_L ht.2 (by omega) p hp
theorem len_L : ∀ (l : List (List D)), l.length ≤ bulkL l
  | [] => by simp
  | r :: l => by
    have := len_L l
    simp only [bulkL, List.length_cons]
    omega
end
theorem texts_app' (a b : List Piece) : (texts (a ++ b)).length = (texts a).length + (texts b).length := by simp [texts]
mutual
theorem texts_D : ∀ (d : D), (texts (flatD d)).length ≤ bulkD d
  | .int n => Nat.zero_le _
  | .str s => by show 1 ≤ s.size + 1; omega
  | .bool b => Nat.zero_le _
  | .list l => by
    have := texts_L l
    have e : texts (.count l.length :: flatL l) = texts (flatL l) := rfl
    rw [flatD, e]
    simp only [bulkD]
    omega
theorem texts_bulkR : ∀ (r : List D), (texts (flatR r)).length ≤ bulkR r
  | [] => by simp [flatR, texts]
  | d :: r => by
    have h1 := texts_D d
    have h2 := texts_bulkR r
    rw [flatR, texts_app']
    simp only [bulkR]
    omega
theorem texts_L : ∀ (l : List (List D)), (texts (flatL l)).length ≤ bulkL l
  | [] => by simp [flatL, texts]
  | r :: l => by
    have h1 := texts_bulkR r
    have h2 := texts_L l
    rw [flatL, texts_app']
    simp only [bulkL]
    omega
end
theorem sevens_le3 {n : Nat} (h : n ≤ 1048576) : (sevens n).length ≤ 3 := by
  have h1 := sevens_len 3 n (by omega)
  omega
theorem numCode_lt {n : Int} (h : -9223372036854775808 ≤ n ∧ n < 9223372036854775808) : numCode n < 18446744073709551616 := by
  unfold numCode; split <;> omega
def costT (T : List ByteArray) : Nat := (T.map fun t => t.size + 3).sum
theorem costT_ins (T : List ByteArray) (s : ByteArray) : costT (insS T s) ≤ costT T + (s.size + 3) := by
  unfold insS costT
  rw [List.map_append, List.sum_append, List.map_cons, List.sum_cons]
  have : ((T.filter fun t => decide (bs t < bs s)).map fun t => t.size + 3).sum + ((T.filter fun t => decide (bs s < bs t)).map fun t => t.size + 3).sum ≤ (T.map fun t => t.size + 3).sum := by
    induction T with
    | nil => simp
    | cons t T ih =>
      simp only [List.filter_cons]
      split
      · rename_i h1
        split
        · rename_i h2
          simp only [decide_eq_true_eq] at h1 h2
          exact absurd (lt_tr h1 h2) (lt_irr _)
        · simp only [List.map_cons, List.sum_cons]; omega
      · split
        · simp only [List.map_cons, List.sum_cons]; omega
        · simp only [List.map_cons, List.sum_cons]; omega
  omega
theorem costT_fold (l : List ByteArray) : ∀ T, costT (l.foldl insS T) ≤ costT T + costT l := by
  induction l with
  | nil => intro T; simp [costT]
  | cons s l ih =>
    intro T
    have h1 := ih (insS T s)
    have h2 := costT_ins T s
    have h3 : costT (s :: l) = (s.size + 3) + costT l := by simp [costT]
    rw [List.foldl_cons]
    omega
def costN : Piece → Nat
  | .count _ => 3
  | .num _ => 10
  | .truth _ => 1
  | .text s => 3
def costNs (ps : List Piece) : Nat := (ps.map costN).sum
theorem cost_parts (ps : List Piece) : costT (texts ps) + costNs ps = costPs ps := by
  induction ps with
  | nil => simp [costT, costNs, costPs, texts]
  | cons p ps ih =>
    cases p <;> simp [costT, costNs, costPs, texts, textOf, costN, costP, List.filterMap_cons] at ih ⊢ <;> omega
theorem pieces_cost {T : List ByteArray} (hT : T.length ≤ 1048577) : ∀ {ps : List Piece}, (∀ p ∈ ps, okP p) → (∀ s ∈ texts ps, s ∈ T) → (piecesB T ps).length ≤ costNs ps
  | [], _, _ => by simp [piecesB]
  | p :: ps, hok, ht => by
    have ih := pieces_cost hT (ps := ps) (fun q hq => hok q (by simp [hq])) (fun s hs => ht s (by
      simp only [texts, List.mem_filterMap] at hs ⊢
      obtain ⟨q, hq, e⟩ := hs
      exact ⟨q, by simp [hq], e⟩))
    have h1 : (pieceB T p).length ≤ costN p := by
      have hp := hok p (by simp)
      cases p with
      | count n => exact sevens_le3 hp
      | num n =>
        have := sevens_ten (numCode_lt hp)
        exact this
      | truth b => simp [pieceB, costN]
      | text s =>
        have hs := ht s (by simp [texts, textOf])
        have := idxS_lt hs
        exact sevens_le3 (by omega)
    have e : piecesB T (p :: ps) = pieceB T p ++ piecesB T ps := by simp [piecesB]
    have e2 : costNs (p :: ps) = costN p + costNs ps := by simp [costNs]
    rw [e, List.length_append, e2]
    omega
theorem rows_cost : ∀ {T : List ByteArray}, (∀ t ∈ T, t.size ≤ 1048576) → (T.flatMap rowB).length ≤ costT T
  | [], _ => by simp [costT]
  | t :: T, h => by
    have ih := rows_cost (T := T) (fun x hx => h x (by simp [hx]))
    have h1 := sevens_le3 (h t (by simp))
    have e : costT (t :: T) = (t.size + 3) + costT T := by simp [costT]
    rw [List.flatMap_cons, List.length_append, e, rowB, List.length_append, bs_len]
    omega
/-- A state of some bulk has a short image. -/
theorem image_small {tys : List Ty} {r : List D} (ht : tyR tys r) (hb : bulkR r ≤ 1048576) : (imageS r).length ≤ 16777216 := by
  have hok := ok_R ht hb
  have hmem : ∀ s ∈ texts (flatR r), s ∈ tableOf (flatR r) := fun s hs => mem_table.2 hs
  have hsz : ∀ t ∈ tableOf (flatR r), t.size ≤ 1048576 := fun t h => by
    have := mem_table.1 h
    simp only [texts, List.mem_filterMap] at this
    obtain ⟨p, hp, e⟩ := this
    cases p <;> simp [textOf] at e
    subst e
    exact hok _ hp
  have hlen : ∀ ps : List Piece, (texts ps).length ≤ costT (texts ps) := fun ps => by
    generalize texts ps = l
    induction l with
    | nil => simp
    | cons s l ih =>
      have e : costT (s :: l) = (s.size + 3) + costT l := by simp [costT]
      rw [e, List.length_cons]
      omega
  have hTl : (tableOf (flatR r)).length ≤ 1048577 := by
    have h1 : (tableOf (flatR r)).length ≤ (texts (flatR r)).length := by
      have hi : ∀ (T : List ByteArray) (s : ByteArray), (insS T s).length ≤ T.length + 1 := fun T s => by
        unfold insS
        induction T with
        | nil => simp
        | cons t T ih =>
          simp only [List.filter_cons, List.length_append, List.length_cons] at ih ⊢
          split
          · rename_i h1
            split
            · rename_i h2
              simp only [decide_eq_true_eq] at h1 h2
              exact absurd (lt_tr h1 h2) (lt_irr _)
            · simp only [List.length_cons]; omega
          · split
            · simp only [List.length_cons]; omega
            · omega
      have hf : ∀ (l T : List ByteArray), (l.foldl insS T).length ≤ T.length + l.length := fun l => by
        induction l with
        | nil => intro T; simp
        | cons s l ih => intro T; have := ih (insS T s); have := hi T s; simp only [List.foldl_cons, List.length_cons]; omega
      have := hf (texts (flatR r)) []
      simpa [tableOf] using this
    have h2 : (texts (flatR r)).length ≤ bulkR r := texts_bulkR r
    omega
  have h1 := cost_R r
  have h2 := cost_parts (flatR r)
  have h3 := pieces_cost hTl hok hmem
  have h4 := rows_cost hsz
  have h5 : costT (tableOf (flatR r)) ≤ costT (texts (flatR r)) := by
    have := costT_fold (texts (flatR r)) []
    have e : costT [] = 0 := rfl
    unfold tableOf
    omega
  have h6 := sevens_ten (n := (tableOf (flatR r)).length) (by omega)
  simp only [imageS, signS, innerS, tableB, List.length_append, sumB_len]
  have h7 : headB.length = 6 := rfl
  omega
end Go.Proofs.YtoaeefjcjdhlkaaGreat
