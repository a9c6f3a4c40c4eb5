/- Image: what reads is written so; no program. -/
import Derived.Test.YtoaeefjcjdhlkaaGreatI1
set_option linter.unusedVariables false
set_option linter.unusedSimpArgs false
namespace Go.B

/-- Between the two stand just these pieces. -/
structure Rd (T : List ByteArray) (ps : List Piece) (s s' : Pst) : Prop where
  mem : ∀ x ∈ texts ps, x ∈ T
  rest : s.rest = piecesB T ps ++ s'.rest
  at_ : s'.at_ = s.at_ + (piecesB T ps).length
  used : s'.used = mark T s.used ps
theorem Rd.nil (T : List ByteArray) (s : Pst) : Rd T [] s s := ⟨by simp [texts], by simp [piecesB], by simp [piecesB], by simp [mark, texts]⟩
theorem Rd.trans {T : List ByteArray} {a b : List Piece} {s s1 s2 : Pst} (h : Rd T a s s1) (k : Rd T b s1 s2) : Rd T (a ++ b) s s2 := by
  refine ⟨fun x hx => ?_, ?_, ?_, ?_⟩
  · rw [texts_app, List.mem_append] at hx
    exact hx.elim (h.mem x) (k.mem x)
  · rw [piecesB_app, List.append_assoc, ← k.rest, h.rest]
  · rw [piecesB_app, List.length_append, k.at_, h.at_, Nat.add_assoc]
  · rw [mark_app, k.used, h.used]
theorem Rd.len {T : List ByteArray} {ps : List Piece} {s s' : Pst} (h : Rd T ps s s') : s'.rest.length ≤ s.rest.length := by
  rw [h.rest, List.length_append]; omega
theorem bind_ok {α β : Type} {r : Res α} {f : α → Pst → Res β} {b : β} {s : Pst} (h : r.bind f = .ok b s) : ∃ a s1, r = .ok a s1 ∧ f a s1 = .ok b s := by
  cases r with
  | ok a s1 => exact ⟨a, s1, rfl, h⟩
  | err c p => cases h
theorem Rd.plain {T : List ByteArray} {p : Piece} {s s' : Pst} (hp : textOf p = none) (h1 : s.rest = pieceB T p ++ s'.rest) (h2 : s'.at_ = s.at_ + (pieceB T p).length) (h3 : s'.used = s.used) : Rd T [p] s s' :=
  ⟨by simp [texts, hp], by rw [piecesB_one]; exact h1, by rw [piecesB_one]; exact h2, by rw [mark_none hp]; exact h3⟩
theorem manyS_ok {T : List ByteArray} {s s' : Pst} {n : Nat} (h : manyS s = .ok n s') : Rd T [.count n] s s' ∧ n ≤ s'.rest.length := by
  obtain ⟨n', s1, h1, h2⟩ := bind_ok h
  split at h2
  · cases h2
  · rename_i hn
    cases h2
    obtain ⟨_, h3, h4, h5⟩ := countS_ok h1
    exact ⟨.plain rfl h3 h4 h5, by omega⟩
mutual
theorem readT_ok {T : List ByteArray} (hT : T.Nodup) : ∀ {t : Ty} {d : D} {s s' : Pst}, s.rest.length < 9223372036854775808 → readT T t s = .ok d s' → tyD t d ∧ Rd T (flatD d) s s'
  | .int, d, s, s', hl, h => by
    obtain ⟨n, s1, h1, h2⟩ := bind_ok h
    cases h2
    obtain ⟨m, s2, h3, h4⟩ := bind_ok h1
    cases h4
    obtain ⟨h5, h6, h7, h8⟩ := countS_ok h3
    exact ⟨numBack_in h5, .plain rfl (by rw [pieceB, numCode_back]; exact h6) (by rw [pieceB, numCode_back]; exact h7) h8⟩
  | .str, d, s, s', hl, h => by
    obtain ⟨n, s1, h1, h2⟩ := bind_ok h
    cases h2
    obtain ⟨m, s2, h3, h4⟩ := bind_ok h1
    split at h4
    · cases h4
    · rename_i t ht
      cases h4
      obtain ⟨h5, h6, h7, h8⟩ := countS_ok h3
      obtain ⟨hm, rfl⟩ := List.getElem?_eq_some_iff.1 ht
      have hi : idxS T T[m] = m := idxS_of hT hm
      refine ⟨trivial, ?_, ?_, ?_, ?_⟩
      · intro x hx
        simp [flatD, texts, textOf] at hx
        subst hx
        exact List.getElem_mem hm
      · rw [flatD, piecesB_one, pieceB, hi]; exact h6
      · rw [flatD, piecesB_one, pieceB, hi]; exact h7
      · rw [flatD, mark_text, hi, ← h8]
  | .bool, d, s, s', hl, h => by
    obtain ⟨n, s1, h1, h2⟩ := bind_ok h
    cases h2
    unfold truthS at h1
    split at h1
    · cases h1
    · rename_i c r hr
      split at h1
      · cases h1
      · rename_i hc
        cases h1
        refine ⟨trivial, .plain rfl ?_ ?_ rfl⟩
        · rw [hr, pieceB]
          have : c.toNat = 0 ∨ c.toNat = 1 := by omega
          rcases this with e | e
          · have : c = 0 := UInt8.toNat_inj.1 (by rw [e]; rfl)
            subst this
            simp
          · have : c = 1 := UInt8.toNat_inj.1 (by rw [e]; rfl)
            subst this
            simp
        · simp [pieceB]
  | .list ts, d, s, s', hl, h => by
    obtain ⟨k, s1, h1, h2⟩ := bind_ok h
    obtain ⟨l, s2, h3, h4⟩ := bind_ok h2
    cases h4
    obtain ⟨h5, h6⟩ := manyS_ok (T := T) h1
    obtain ⟨h7, h8, h9⟩ := timesS_ok hT (by have := h5.len; omega) h3
    refine ⟨⟨by have := h5.len; omega, h7⟩, ?_⟩
    rw [flatD, h8]
    exact h5.trans h9
theorem readTs_ok {T : List ByteArray} (hT : T.Nodup) : ∀ {ts : List Ty} {r : List D} {s s' : Pst}, s.rest.length < 9223372036854775808 → readTs T ts s = .ok r s' → tyR ts r ∧ Rd T (flatR r) s s'
  | [], r, s, s', hl, h => by
    simp only [readTs] at h
    cases h
    exact ⟨trivial, .nil T s⟩
  | t :: ts, r, s, s', hl, h => by
    simp only [readTs] at h
    obtain ⟨d, s1, h1, h2⟩ := bind_ok h
    obtain ⟨r', s2, h3, h4⟩ := bind_ok h2
    cases h4
    obtain ⟨h5, h6⟩ := readT_ok hT hl h1
    obtain ⟨h7, h8⟩ := readTs_ok hT (by have := h6.len; omega) h3
    exact ⟨⟨h5, h7⟩, h6.trans h8⟩
theorem timesS_ok {T : List ByteArray} (hT : T.Nodup) : ∀ {k : Nat} {ts : List Ty} {l : List (List D)} {s s' : Pst}, s.rest.length < 9223372036854775808 → timesS (readTs T ts) k s = .ok l s' → tyL ts l ∧ l.length = k ∧ Rd T (flatL l) s s'
  | 0, ts, l, s, s', hl, h => by
    simp only [timesS] at h
    cases h
    exact ⟨by simp only [tyL], rfl, .nil T s⟩
  | k + 1, ts, l, s, s', hl, h => by
    simp only [timesS] at h
    obtain ⟨r, s1, h1, h2⟩ := bind_ok h
    obtain ⟨l', s2, h3, h4⟩ := bind_ok h2
    cases h4
    obtain ⟨h5, h6⟩ := readTs_ok hT hl h1
    obtain ⟨h7, h8, h9⟩ := timesS_ok hT (by have := h6.len; omega) h3
    exact ⟨⟨h5, h7⟩, by rw [List.length_cons, h8], h6.trans h9⟩
end

/-! ### the table -/
theorem lt_irr (a : List UInt8) : ¬ a < a := List.lt_irrefl a
theorem lt_tr {a b c : List UInt8} (h : a < b) (k : b < c) : a < c := List.lt_trans h k
theorem lt_tri (a b : List UInt8) : a < b ∨ a = b ∨ b < a := by
  rcases Decidable.em (a < b) with h | h
  · exact .inl h
  · rcases List.le_iff_lt_or_eq.1 (List.not_lt.1 h) with h1 | h1
    · exact .inr (.inr h1)
    · exact .inr (.inl h1.symm)
theorem Strict.nodup {T : List ByteArray} (h : Strict T) : T.Nodup := h.imp fun h e => by subst e; exact lt_irr _ h
theorem mem_insS {T : List ByteArray} {s x : ByteArray} : x ∈ insS T s ↔ x ∈ T ∨ x = s := by
  unfold insS
  rw [List.mem_append, List.mem_cons, List.mem_filter, List.mem_filter, decide_eq_true_eq, decide_eq_true_eq]
  constructor
  · rintro (h | h | h)
    · exact .inl h.1
    · exact .inr h
    · exact .inl h.1
  · rintro (h | h)
    · rcases lt_tri (bs x) (bs s) with h1 | h1 | h1
      · exact .inl ⟨h, h1⟩
      · exact .inr (.inl (bs_inj h1))
      · exact .inr (.inr ⟨h, h1⟩)
    · exact .inr (.inl h)
theorem Strict.ins {T : List ByteArray} (h : Strict T) (s : ByteArray) : Strict (insS T s) := by
  unfold insS
  refine List.pairwise_append.2 ⟨h.filter _, List.pairwise_cons.2 ⟨fun x hx => ?_, h.filter _⟩, fun x hx y hy => ?_⟩
  · rw [List.mem_filter, decide_eq_true_eq] at hx; exact hx.2
  · rw [List.mem_filter, decide_eq_true_eq] at hx
    rcases List.mem_cons.1 hy with rfl | hy
    · exact hx.2
    · rw [List.mem_filter, decide_eq_true_eq] at hy
      exact lt_tr hx.2 hy.2
theorem tableGo_mem (l : List ByteArray) : ∀ {T : List ByteArray} {x : ByteArray}, x ∈ l.foldl insS T ↔ x ∈ T ∨ x ∈ l := by
  induction l with
  | nil => intro T x; simp
  | cons s l ih =>
    intro T x
    rw [List.foldl_cons, ih, mem_insS, List.mem_cons, or_assoc]
theorem tableGo_strict (l : List ByteArray) : ∀ {T : List ByteArray}, Strict T → Strict (l.foldl insS T) := by
  induction l with
  | nil => intro T h; exact h
  | cons s l ih => intro T h; exact ih (h.ins s)
theorem mem_table {ps : List Piece} {x : ByteArray} : x ∈ tableOf ps ↔ x ∈ texts ps := by
  unfold tableOf; rw [tableGo_mem]; simp
theorem table_strict (ps : List Piece) : Strict (tableOf ps) := tableGo_strict _ List.Pairwise.nil
theorem strict_eq : ∀ {a b : List ByteArray}, Strict a → Strict b → (∀ x, x ∈ a ↔ x ∈ b) → a = b
  | [], [], _, _, _ => rfl
  | [], y :: b, _, _, h => by have := (h y).2 (by simp); simp at this
  | x :: a, [], _, _, h => by have := (h x).1 (by simp); simp at this
  | x :: a, y :: b, ha, hb, h => by
    obtain ⟨ha1, ha2⟩ := List.pairwise_cons.1 ha
    obtain ⟨hb1, hb2⟩ := List.pairwise_cons.1 hb
    have hxy : x = y := by
      rcases List.mem_cons.1 ((h x).1 (by simp)) with e | hx
      · exact e
      · rcases List.mem_cons.1 ((h y).2 (by simp)) with e | hy
        · exact e.symm
        · exact absurd (lt_tr (ha1 y hy) (hb1 x hx)) (lt_irr _)
    subst hxy
    congr 1
    refine strict_eq ha2 hb2 fun z => ?_
    have hz := h z
    rw [List.mem_cons, List.mem_cons] at hz
    constructor
    · intro hm
      rcases hz.1 (.inr hm) with e | hm'
      · subst e; exact absurd (ha1 z hm) (lt_irr _)
      · exact hm'
    · intro hm
      rcases hz.2 (.inr hm) with e | hm'
      · subst e; exact absurd (hb1 z hm) (lt_irr _)
      · exact hm'
theorem table_uniq {T : List ByteArray} {ps : List Piece} (hT : Strict T) (h : ∀ x, x ∈ T ↔ x ∈ texts ps) : T = tableOf ps :=
  strict_eq hT (table_strict ps) fun x => by rw [h, mem_table]

theorem nextB_of {T : List ByteArray} {t : ByteArray} : nextB T (bs t) = false ↔ ∀ l, T.getLast? = some l → bs l < bs t := by
  unfold nextB
  split
  · rename_i l hl
    constructor
    · intro h l' hl'
      rw [hl] at hl'; cases hl'
      simpa using h
    · intro h
      simpa using h l hl
  · rename_i hl
    exact ⟨fun _ l' hl' => (by rw [hl] at hl'; cases hl'), fun _ => rfl⟩
theorem strict_snoc {T : List ByteArray} {t : ByteArray} (h : Strict T) (hl : ∀ l, T.getLast? = some l → bs l < bs t) : Strict (T ++ [t]) := by
  refine List.pairwise_append.2 ⟨h, List.pairwise_singleton _ _, fun x hx y hy => ?_⟩
  rw [List.mem_singleton] at hy
  subst hy
  obtain ⟨T', l, rfl⟩ : ∃ T' l, T = T' ++ [l] := ⟨T.dropLast, T.getLast (List.ne_nil_of_mem hx), (List.dropLast_concat_getLast _).symm⟩
  have h1 := hl l (by simp)
  rcases List.mem_append.1 hx with hx | hx
  · exact lt_tr ((List.pairwise_append.1 h).2.2 x hx l (by simp)) h1
  · rw [List.mem_singleton] at hx; subst hx; exact h1
theorem last_of_strict {T : List ByteArray} {t : ByteArray} {l : List ByteArray} (h : Strict (T ++ t :: l)) : ∀ x, T.getLast? = some x → bs x < bs t := fun x hx =>
  (List.pairwise_append.1 h).2.2 x (List.mem_of_getLast? hx) t (by simp)
theorem tableGo_flat : ∀ {l : List ByteArray} {T : List ByteArray} {S : List Nat} (a : Nat) (rest : List UInt8) (u : List Bool), Strict (T ++ l) → (∀ t ∈ l, t.size < 18446744073709551616) →
    ∃ S', tableGo l.length T S ⟨a, l.flatMap rowB ++ rest, u⟩ = .ok (T ++ l, S') ⟨a + (l.flatMap rowB).length, rest, u ++ List.replicate l.length false⟩
  | [], T, S, a, rest, u, h, hs => ⟨S, by simp [tableGo]⟩
  | t :: l, T, S, a, rest, u, h, hs => by
    have hz := hs t (by simp)
    have hn : nextB T (bs t) = false := nextB_of.2 (last_of_strict h)
    have htk : (bs t ++ (l.flatMap rowB ++ rest)).take t.size = bs t := by rw [← bs_len]; simp
    have hdk : (bs t ++ (l.flatMap rowB ++ rest)).drop t.size = l.flatMap rowB ++ rest := by rw [← bs_len]; simp
    obtain ⟨S', hS⟩ := tableGo_flat (l := l) (T := T ++ [t]) (S := S ++ [a]) (a + (sevens t.size).length + t.size) rest (u ++ [false]) (by simpa using h) (fun x hx => hs x (by simp [hx]))
    refine ⟨S', ?_⟩
    simp only [List.length_cons, List.flatMap_cons, rowB, List.append_assoc, tableGo, manyS]
    rw [countS_sevens hz]
    simp only [Res.bind]
    rw [if_neg (by simp [bs_len])]
    simp only [htk, hdk, unb_bs]
    rw [hn]
    simp only [Bool.false_eq_true, if_false]
    rw [hS]
    simp only [List.append_assoc, List.singleton_append, List.length_append, bs_len, List.replicate_succ]
    congr 2
    omega
theorem tableGo_ok : ∀ {k : Nat} {T : List ByteArray} {S : List Nat} {s s' : Pst} {T' : List ByteArray} {S' : List Nat}, Strict T → S.length = T.length → tableGo k T S s = .ok (T', S') s' →
    ∃ l, T' = T ++ l ∧ l.length = k ∧ Strict T' ∧ S'.length = T'.length ∧ s.rest = l.flatMap rowB ++ s'.rest ∧ s'.at_ = s.at_ + (l.flatMap rowB).length ∧ s'.used = s.used ++ List.replicate k false
  | 0, T, S, s, s', T', S', hT, hS, h => by
    simp only [tableGo] at h
    cases h
    exact ⟨[], by simp, rfl, hT, hS, by simp, by simp, by simp⟩
  | k + 1, T, S, s, s', T', S', hT, hS, h => by
    simp only [tableGo] at h
    obtain ⟨n, s1, h1, h2⟩ := bind_ok h
    obtain ⟨h3, h4⟩ := manyS_ok (T := T) h1
    have hb : bs (unb (s1.rest.take n)) = s1.rest.take n := bs_unb _
    have hsz : (unb (s1.rest.take n)).size = n := by rw [← bs_len, hb, List.length_take]; omega
    split at h2
    · cases h2
    · rename_i hn
      have hn : nextB T (bs (unb (s1.rest.take n))) = false := by rw [hb]; simpa using hn
      obtain ⟨l, h5, h6, h7, h8, h9, h10, h11⟩ := tableGo_ok (strict_snoc hT (nextB_of.1 hn)) (by simp [hS]) h2
      have hr := h3.rest
      have ha := h3.at_
      have hu := h3.used
      rw [piecesB_one, pieceB] at hr ha
      rw [mark_none (p := Piece.count n) rfl] at hu
      refine ⟨unb (s1.rest.take n) :: l, by rw [h5]; simp, by simp [h6], h7, h8, ?_, ?_, ?_⟩
      · rw [List.flatMap_cons, rowB, hsz, hb, hr, List.append_assoc, List.append_assoc, ← h9, List.take_append_drop]
      · rw [h10, ha, List.flatMap_cons, rowB, hsz, hb, List.length_append, List.length_append, List.length_take]
        simp only []
        omega
      · rw [h11, hu]
        simp [List.replicate_succ]
end Go.B
