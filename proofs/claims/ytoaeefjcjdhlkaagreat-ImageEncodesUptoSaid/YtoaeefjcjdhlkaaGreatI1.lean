/- Image: what is written reads back; what reads is written so; no program. -/
import Derived.Test.YtoaeefjcjdhlkaaGreatI0
set_option linter.unusedVariables false
set_option linter.unusedSimpArgs false
namespace Go.B

mutual
/-- No list has empty rows. -/
def goodT : Ty → Prop
  | .list ts => ts ≠ [] ∧ goodTs ts
  | _ => True
def goodTs : List Ty → Prop
  | [] => True
  | t :: ts => goodT t ∧ goodTs ts
end
theorem piecesB_app (T : List ByteArray) (a b : List Piece) : piecesB T (a ++ b) = piecesB T a ++ piecesB T b := by simp [piecesB]
theorem piecesB_cons (T : List ByteArray) (a : Piece) (b : List Piece) : piecesB T (a :: b) = pieceB T a ++ piecesB T b := by simp [piecesB]
theorem piecesB_one (T : List ByteArray) (a : Piece) : piecesB T [a] = pieceB T a := by simp [piecesB]
theorem texts_app (a b : List Piece) : texts (a ++ b) = texts a ++ texts b := by simp [texts]
theorem sevens_small {n : Nat} (h : n < 128) : sevens n = [UInt8.ofNat n] := by rw [sevens, dif_pos h]
theorem sevens_big {n : Nat} (h : ¬ n < 128) : sevens n = UInt8.ofNat (n % 128 + 128) :: sevens (n / 128) := by rw [sevens, dif_neg h]
theorem sevens_pos (n : Nat) : 1 ≤ (sevens n).length := by
  by_cases h : n < 128
  · rw [sevens_small h]; simp
  · rw [sevens_big h]; simp
theorem pieceB_pos (T : List ByteArray) (p : Piece) : 1 ≤ (pieceB T p).length := by
  cases p with
  | truth b => simp [pieceB]
  | _ => exact sevens_pos _
theorem piecesB_len (T : List ByteArray) (ps : List Piece) : ps.length ≤ (piecesB T ps).length := by
  induction ps with
  | nil => simp [piecesB]
  | cons p ps ih =>
    rw [piecesB_cons, List.length_append, List.length_cons]
    have := pieceB_pos T p
    omega
theorem flatD_pos (d : D) : 1 ≤ (flatD d).length := by cases d <;> simp [flatD]
theorem flatL_len {ts : List Ty} (hts : ts ≠ []) : ∀ {l : List (List D)}, tyL ts l → l.length ≤ (flatL l).length
  | [], _ => by simp [flatL]
  | r :: l, h => by
    simp only [tyL] at h
    have ih := flatL_len hts h.2
    have h1 : 1 ≤ (flatR r).length := by
      cases ts with
      | nil => exact absurd rfl hts
      | cons t ts =>
        cases r with
        | nil => exact h.1.elim
        | cons d r => have := flatD_pos d; simp only [flatR, List.length_append]; omega
    simp only [flatL, List.length_append, List.length_cons]
    omega

/-! ### counts -/
theorem u8n (n : Nat) (h : n < 256) : (UInt8.ofNat n).toNat = n := by simp [UInt8.toNat_ofNat']; omega
theorem countGo_sevens (start : Nat) (r : List UInt8) (u : List Bool) : ∀ (n i acc a : Nat), i ≤ 9 → n < 2 ^ (64 - 7 * i) → (0 < i → n ≠ 0) →
    countGo start i acc a (sevens n ++ r) u = .ok (acc + n * 2 ^ (7 * i)) ⟨a + (sevens n).length, r, u⟩ := by
  intro n
  induction n using Nat.strongRecOn with
  | _ n ih =>
    intro i acc a hi hn h0
    by_cases h : n < 128
    · rw [sevens_small h]
      have hc := u8n n (by omega)
      have h9 : ¬ ((i = 9 ∧ 1 < (UInt8.ofNat n).toNat) ∨ (0 < i ∧ (UInt8.ofNat n).toNat = 0)) := by
        rw [hc]
        rintro (⟨rfl, h1⟩ | ⟨h1, h2⟩)
        · have : n < 2 := by simpa using hn
          omega
        · exact h0 h1 h2
      simp only [List.cons_append, List.nil_append, countGo]
      rw [if_neg h9, if_pos (by rw [hc]; exact h), hc, Nat.mod_eq_of_lt h]
      rfl
    · rw [sevens_big h]
      have hc := u8n (n % 128 + 128) (by omega)
      have hi8 : i ≤ 8 := by
        rcases Nat.lt_or_ge i 9 with h1 | h1
        · omega
        · obtain rfl : i = 9 := by omega
          have : n < 2 := by simpa using hn
          omega
      simp only [List.cons_append, countGo]
      rw [if_neg (by rw [hc]; omega), if_neg (by rw [hc]; omega), hc]
      have e1 : (n % 128 + 128) % 128 = n % 128 := by omega
      have e2 : 2 ^ (7 * (i + 1)) = 128 * 2 ^ (7 * i) := by rw [Nat.mul_add, Nat.pow_add, Nat.mul_comm]
      have e3 : 2 ^ (64 - 7 * i) = 128 * 2 ^ (64 - 7 * (i + 1)) := by
        rw [show 64 - 7 * i = 7 + (64 - 7 * (i + 1)) by omega, Nat.pow_add]
      rw [ih (n / 128) (by omega) (i + 1) _ _ (by omega) (by rw [e3] at hn; omega) (fun _ => by omega), e1, e2]
      congr 1
      · have : n / 128 * (128 * 2 ^ (7 * i)) = (128 * (n / 128)) * 2 ^ (7 * i) := by rw [← Nat.mul_assoc, Nat.mul_comm (n / 128)]
        rw [this, Nat.add_assoc, ← Nat.add_mul]
        congr 2
        omega
      · simp; omega
theorem countS_sevens {n : Nat} (h : n < 18446744073709551616) (a : Nat) (r : List UInt8) (u : List Bool) : countS ⟨a, sevens n ++ r, u⟩ = .ok n ⟨a + (sevens n).length, r, u⟩ := by
  have := countGo_sevens a r u n 0 0 a (by omega) (by simpa using h) (by omega)
  simpa [countS] using this
theorem countGo_ok {start : Nat} {u : List Bool} : ∀ {l : List UInt8} {i acc a n : Nat} {s : Pst}, i ≤ 9 → countGo start i acc a l u = .ok n s →
    ∃ m, n = acc + m * 2 ^ (7 * i) ∧ l = sevens m ++ s.rest ∧ (0 < i → m ≠ 0) ∧ m < 2 ^ (64 - 7 * i) ∧ s.at_ = a + (sevens m).length ∧ s.used = u
  | [], i, acc, a, n, s, hi, h => by simp [countGo] at h
  | c :: r, i, acc, a, n, s, hi, h => by
    simp only [countGo] at h
    split at h
    · cases h
    · rename_i h9
      split at h
      · rename_i hc
        cases h
        have hc' : UInt8.ofNat c.toNat = c := by simp
        refine ⟨c.toNat, by rw [Nat.mod_eq_of_lt hc], by rw [sevens_small hc, hc']; rfl, fun h1 h2 => h9 (.inr ⟨h1, h2⟩), ?_, by rw [sevens_small hc]; rfl, rfl⟩
        rcases Nat.lt_or_ge i 9 with h1 | h1
        · have : 2 ^ 7 ≤ 2 ^ (64 - 7 * i) := Nat.pow_le_pow_right (by omega) (by omega)
          omega
        · obtain rfl : i = 9 := by omega
          have : ¬ 1 < c.toNat := fun h2 => h9 (.inl ⟨rfl, h2⟩)
          show c.toNat < 2
          omega
      · rename_i hc
        have hi8 : i ≤ 8 := by
          rcases Nat.lt_or_ge i 9 with h1 | h1
          · omega
          · obtain rfl : i = 9 := by omega
            exact absurd (.inl ⟨rfl, by omega⟩) h9
        obtain ⟨m, h1, h2, h3, h4, h5, h6⟩ := countGo_ok (by omega) h
        have hm := h3 (by omega)
        have hcl := c.toNat_lt
        have hk : ¬ (c.toNat % 128 + 128 * m) < 128 := by omega
        have e1 : (c.toNat % 128 + 128 * m) % 128 + 128 = c.toNat := by omega
        have e2 : (c.toNat % 128 + 128 * m) / 128 = m := by omega
        have e3 : 2 ^ (7 * (i + 1)) = 128 * 2 ^ (7 * i) := by rw [Nat.mul_add, Nat.pow_add, Nat.mul_comm]
        have e4 : 2 ^ (64 - 7 * i) = 128 * 2 ^ (64 - 7 * (i + 1)) := by
          rw [show 64 - 7 * i = 7 + (64 - 7 * (i + 1)) by omega, Nat.pow_add]
        have hc' : UInt8.ofNat c.toNat = c := by simp
        have hs : sevens (c.toNat % 128 + 128 * m) = c :: sevens m := by rw [sevens_big hk, e1, e2, hc']
        refine ⟨c.toNat % 128 + 128 * m, ?_, by rw [hs, h2]; rfl, fun _ => by omega, by rw [e4]; omega, by rw [hs, h5, List.length_cons]; omega, h6⟩
        rw [h1, e3, Nat.add_mul, Nat.add_assoc]
        congr 2
        rw [← Nat.mul_assoc, Nat.mul_comm m]
theorem countS_ok {s s' : Pst} {n : Nat} (h : countS s = .ok n s') : n < 18446744073709551616 ∧ s.rest = sevens n ++ s'.rest ∧ s'.at_ = s.at_ + (sevens n).length ∧ s'.used = s.used := by
  obtain ⟨m, h1, h2, h3, h4, h5, h6⟩ := countGo_ok (by omega) h
  simp only [Nat.mul_zero, Nat.pow_zero, Nat.mul_one, Nat.zero_add] at h1
  subst h1
  exact ⟨by simpa using h4, h2, h5, h6⟩
theorem numBack_code {n : Int} : numBack (numCode n) = n := by
  unfold numBack numCode
  split
  · rw [if_pos (by omega)]; omega
  · rw [if_neg (by omega)]; omega
theorem numCode_lt {n : Int} (h : -9223372036854775808 ≤ n ∧ n < 9223372036854775808) : numCode n < 18446744073709551616 := by
  unfold numCode
  split <;> omega
theorem numCode_back (n : Nat) : numCode (numBack n) = n := by
  unfold numBack numCode
  split
  · rw [if_pos (by omega)]; omega
  · rw [if_neg (by omega)]; omega
theorem numBack_in {n : Nat} (h : n < 18446744073709551616) : -9223372036854775808 ≤ numBack n ∧ numBack n < 9223372036854775808 := by
  unfold numBack
  split <;> omega

/-! ### what is written reads back -/
def mark (T : List ByteArray) (u : List Bool) (ps : List Piece) : List Bool := (texts ps).foldl (fun u s => u.set (idxS T s) true) u
theorem mark_app (T : List ByteArray) (u : List Bool) (a b : List Piece) : mark T u (a ++ b) = mark T (mark T u a) b := by simp [mark, texts_app]
theorem mark_len (T : List ByteArray) (ps : List Piece) : ∀ u : List Bool, (mark T u ps).length = u.length := by
  unfold mark
  generalize texts ps = l
  induction l with
  | nil => intro u; rfl
  | cons s l ih => intro u; rw [List.foldl_cons, ih, List.length_set]
theorem mark_text {T : List ByteArray} {u : List Bool} {s : ByteArray} : mark T u [.text s] = u.set (idxS T s) true := rfl
theorem mark_none {T : List ByteArray} {u : List Bool} {p : Piece} (h : textOf p = none) : mark T u [p] = u := by
  simp [mark, texts, h]
mutual
theorem readT_flat {T : List ByteArray} (hT : T.length < 18446744073709551616) : ∀ {t : Ty} {d : D}, goodT t → tyD t d → (∀ s ∈ texts (flatD d), s ∈ T) → ∀ (a : Nat) (rest : List UInt8) (u : List Bool),
    readT T t ⟨a, piecesB T (flatD d) ++ rest, u⟩ = .ok d ⟨a + (piecesB T (flatD d)).length, rest, mark T u (flatD d)⟩
  | .int, d, hg, ht, hs, a, rest, u => by
    cases d <;> simp only [tyD] at ht
    rename_i n
    simp only [flatD, piecesB_one, pieceB, readT, numS, countS_sevens (numCode_lt ht), Res.bind, numBack_code, mark_none (p := Piece.num n) rfl]
  | .str, d, hg, ht, hs, a, rest, u => by
    cases d <;> simp only [tyD] at ht
    rename_i s
    have hm : s ∈ T := hs s (by simp [flatD, texts, textOf])
    have hl := idxS_lt hm
    have hn : T[idxS T s]? = some s := by rw [List.getElem?_eq_getElem hl, idxS_get rfl hl]
    simp only [flatD, piecesB_one, pieceB, readT, textS, countS_sevens (show idxS T s < 18446744073709551616 by omega), Res.bind, hn, mark_text]
  | .bool, d, hg, ht, hs, a, rest, u => by
    cases d <;> simp only [tyD] at ht
    rename_i b
    cases b <;> simp [flatD, piecesB, pieceB, readT, truthS, Res.bind, mark_none (p := Piece.truth _) rfl]
  | .list ts, d, hg, ht, hs, a, rest, u => by
    cases d <;> simp only [tyD] at ht
    rename_i l
    simp only [goodT] at hg
    have hp : l.length ≤ (piecesB T (flatL l)).length := Nat.le_trans (flatL_len hg.1 ht.2) (piecesB_len _ _)
    have hs' : ∀ s ∈ texts (flatL l), s ∈ T := fun s h => hs s (by rw [flatD, ← List.singleton_append, texts_app]; simp [h])
    simp only [flatD, piecesB_cons, pieceB, readT, manyS, List.append_assoc]
    rw [countS_sevens (by omega)]
    simp only [Res.bind]
    rw [if_neg (by simp; omega)]
    simp only []
    rw [timesS_flat hT hg.2 ht.2 hs']
    simp only []
    rw [← List.singleton_append (l := flatL l), mark_app, mark_none (p := Piece.count l.length) rfl]
    congr 2
    simp; omega
theorem readTs_flat {T : List ByteArray} (hT : T.length < 18446744073709551616) : ∀ {ts : List Ty} {r : List D}, goodTs ts → tyR ts r → (∀ s ∈ texts (flatR r), s ∈ T) → ∀ (a : Nat) (rest : List UInt8) (u : List Bool),
    readTs T ts ⟨a, piecesB T (flatR r) ++ rest, u⟩ = .ok r ⟨a + (piecesB T (flatR r)).length, rest, mark T u (flatR r)⟩
  | [], [], hg, ht, hs, a, rest, u => by simp [readTs, flatR, piecesB, mark, texts]
  | [], d :: r, hg, ht, hs, a, rest, u => ht.elim
  | t :: ts, [], hg, ht, hs, a, rest, u => ht.elim
  | t :: ts, d :: r, hg, ht, hs, a, rest, u => by
    simp only [goodTs] at hg
    simp only [tyR] at ht
    simp only [flatR, piecesB_app, List.append_assoc, readTs]
    rw [readT_flat hT hg.1 ht.1 (fun s h => hs s (by rw [flatR, texts_app]; simp [h]))]
    simp only [Res.bind]
    rw [readTs_flat hT hg.2 ht.2 (fun s h => hs s (by rw [flatR, texts_app]; simp [h]))]
    simp only []
    rw [mark_app]
    congr 2
    simp; omega
theorem timesS_flat {T : List ByteArray} (hT : T.length < 18446744073709551616) : ∀ {ts : List Ty} {l : List (List D)}, goodTs ts → tyL ts l → (∀ s ∈ texts (flatL l), s ∈ T) → ∀ (a : Nat) (rest : List UInt8) (u : List Bool),
    timesS (readTs T ts) l.length ⟨a, piecesB T (flatL l) ++ rest, u⟩ = .ok l ⟨a + (piecesB T (flatL l)).length, rest, mark T u (flatL l)⟩
  | ts, [], hg, ht, hs, a, rest, u => by simp [timesS, flatL, piecesB, mark, texts]
  | ts, r :: l, hg, ht, hs, a, rest, u => by
    simp only [tyL] at ht
    simp only [flatL, piecesB_app, List.append_assoc, List.length_cons, timesS]
    rw [readTs_flat hT hg ht.1 (fun s h => hs s (by rw [flatL, texts_app]; simp [h]))]
    simp only [Res.bind]
    rw [timesS_flat hT hg ht.2 (fun s h => hs s (by rw [flatL, texts_app]; simp [h]))]
    simp only []
    rw [mark_app]
    congr 2
    simp; omega
end
end Go.B
