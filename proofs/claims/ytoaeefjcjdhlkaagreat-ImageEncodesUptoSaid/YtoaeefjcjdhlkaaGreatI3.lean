/- Image: the whole image, there and back; turned, cut short, longer; no program. -/
import Derived.Test.YtoaeefjcjdhlkaaGreatI2
set_option linter.unusedVariables false
set_option linter.unusedSimpArgs false
namespace Go.B

theorem partAt_self (r : List UInt8) : ∀ (h : List UInt8) (i : Nat), partAt (h ++ r) h i = none
  | [], i => by cases r <;> rfl
  | x :: h, i => by simp only [List.cons_append, partAt]; rw [if_pos trivial]; exact partAt_self r h (i + 1)
theorem partAt_none : ∀ {b h : List UInt8} {i : Nat}, partAt b h i = none → h.length ≤ b.length → b.take h.length = h
  | b, [], i, _, _ => by simp
  | [], y :: h, i, _, hl => by simp at hl
  | x :: b, y :: h, i, hp, hl => by
    simp only [partAt] at hp
    split at hp
    · rename_i e
      subst e
      rw [List.length_cons, List.take_succ_cons, partAt_none hp (by simpa using hl)]
    · cases hp
theorem le8_len : ∀ (k h : Nat), (le8 k h).length = k
  | 0, h => rfl
  | k + 1, h => by simp only [le8, List.length_cons, le8_len]
theorem le8_inj : ∀ {k a b : Nat}, a < 256 ^ k → b < 256 ^ k → le8 k a = le8 k b → a = b
  | 0, a, b, ha, hb, h => by simp at ha hb; omega
  | k + 1, a, b, ha, hb, h => by
    simp only [le8, List.cons.injEq] at h
    have h1 := congrArg UInt8.toNat h.1
    rw [u8n _ (by omega), u8n _ (by omega)] at h1
    rw [Nat.pow_succ] at ha hb
    have h2 := le8_inj (a := a / 256) (b := b / 256) (by omega) (by omega) h.2
    omega
theorem fnv_lt (l : List UInt8) : ∀ h, h < 18446744073709551616 → l.foldl fnvStep h < 18446744073709551616 := by
  induction l with
  | nil => intro h hh; exact hh
  | cons c l ih => intro h _; exact ih _ (Nat.mod_lt _ (by omega))
theorem sumS_lt (b : List UInt8) : sumS b < 18446744073709551616 := fnv_lt b _ (by omega)
theorem sumB_len (b : List UInt8) : (sumB b).length = 8 := le8_len _ _
theorem sumB_inj {a b : List UInt8} (h : sumB a = sumB b) : sumS a = sumS b := le8_inj (by have := sumS_lt a; simpa using this) (by have := sumS_lt b; simpa using this) h
theorem innerS_split (r : List D) (more : List UInt8) : (innerS r ++ more).drop 6 = tableB (tableOf (flatR r)) ++ (piecesB (tableOf (flatR r)) (flatR r) ++ more) := by
  simp [innerS, headB]
theorem mark_all {T : List ByteArray} : ∀ (l : List ByteArray) (u : List Bool) (i : Nat), (u[i]? = some true ∨ (i < u.length ∧ ∃ s ∈ l, idxS T s = i)) → (l.foldl (fun u s => u.set (idxS T s) true) u)[i]? = some true
  | [], u, i, h => by
    rcases h with h | ⟨_, s, hs, _⟩
    · exact h
    · cases hs
  | s :: l, u, i, h => by
    rw [List.foldl_cons]
    refine mark_all l _ i ?_
    by_cases e : idxS T s = i
    · subst e
      rcases Nat.lt_or_ge (idxS T s) u.length with hlt | hge
      · left; simp [List.getElem?_set, hlt]
      · rcases h with h | h
        · rw [List.getElem?_eq_none hge] at h; cases h
        · omega
    · rcases h with h | ⟨hlt, s', hs', e'⟩
      · left; rw [List.getElem?_set_ne e]; exact h
      · rcases List.mem_cons.1 hs' with rfl | hs'
        · exact absurd e' e
        · right; exact ⟨by simpa using hlt, s', hs', e'⟩
theorem mark_only {T : List ByteArray} : ∀ (l : List ByteArray) (u : List Bool) (i : Nat), (l.foldl (fun u s => u.set (idxS T s) true) u)[i]? = some true → u[i]? = some true ∨ ∃ s ∈ l, idxS T s = i
  | [], u, i, h => .inl h
  | s :: l, u, i, h => by
    rw [List.foldl_cons] at h
    rcases mark_only l _ i h with h1 | ⟨s', hs', e⟩
    · by_cases e : idxS T s = i
      · exact .inr ⟨s, by simp, e⟩
      · rw [List.getElem?_set_ne e] at h1; exact .inl h1
    · exact .inr ⟨s', by simp [hs'], e⟩
theorem unused_none {u : List Bool} (h : ∀ i, i < u.length → u[i]? = some true) : u.findIdx? (fun x => !x) = none := by
  rw [List.findIdx?_eq_none_iff]
  intro x hx
  obtain ⟨i, hi⟩ := List.mem_iff_getElem?.1 hx
  rw [h i (List.getElem?_eq_some_iff.1 hi).1] at hi
  cases hi
  rfl
/-- The texts of a row are no more than its pieces. -/
theorem table_len (ps : List Piece) : (tableOf ps).length ≤ (piecesB (tableOf ps) ps).length := by
  have h1 : (tableOf ps).length ≤ (texts ps).length := by
    have hi : ∀ (T : List ByteArray) (s : ByteArray), (insS T s).length ≤ T.length + 1 := fun T s => by
      unfold insS
      induction T with
      | nil => simp
      | cons t T ih =>
        simp only [List.filter_cons, List.length_append, List.length_cons] at ih ⊢
        split
        · rename_i h1
          split
          · rename_i h2
            simp only [decide_eq_true_eq] at h1 h2
            exact absurd (lt_tr h1 h2) (lt_irr _)
          · simp only [List.length_cons]; omega
        · split
          · simp only [List.length_cons]; omega
          · omega
    have hf : ∀ (l T : List ByteArray), (l.foldl insS T).length ≤ T.length + l.length := fun l => by
      induction l with
      | nil => intro T; simp
      | cons s l ih => intro T; have := ih (insS T s); have := hi T s; simp only [List.foldl_cons, List.length_cons]; omega
    have := hf (texts ps) []
    simpa [tableOf] using this
  have h2 : (texts ps).length ≤ ps.length := List.length_filterMap_le _ _
  have h3 := piecesB_len (tableOf ps) ps
  omega
/-- What the inside of an image, and any bytes behind it, reads as. -/
theorem insideS_flat {tys : List Ty} {r : List D} (hg : goodTs tys) (ht : tyR tys r) (hb : (innerS r).length < 18446744073709551616) (more : List UInt8) :
    insideS tys (innerS r ++ more) = if more ≠ [] then .err 264 (innerS r).length else .ok r ⟨(innerS r).length, [], mark (tableOf (flatR r)) (List.replicate (tableOf (flatR r)).length false) (flatR r)⟩ := by
  generalize hT : tableOf (flatR r) = T
  have hlen : (innerS r).length = 6 + ((tableB T).length + (piecesB T (flatR r)).length) := by rw [innerS, hT]; simp [headB]; omega
  have hst : Strict T := hT ▸ table_strict _
  have hTl : T.length ≤ (T.flatMap rowB).length := by
    have : ∀ l : List ByteArray, l.length ≤ (l.flatMap rowB).length := fun l => by
      induction l with
      | nil => simp
      | cons t l ih =>
        have := sevens_pos t.size
        simp only [List.flatMap_cons, List.length_append, List.length_cons, rowB]
        omega
    exact this T
  have htb : (tableB T).length = (sevens T.length).length + (T.flatMap rowB).length := by simp [tableB]
  have hsz : ∀ t ∈ T, t.size < 18446744073709551616 := fun t h => by
    have : (rowB t).length ≤ (T.flatMap rowB).length := by
      obtain ⟨a, b, rfl⟩ := List.append_of_mem h
      simp; omega
    simp only [rowB, List.length_append, bs_len] at this
    omega
  obtain ⟨S', hS⟩ := tableGo_flat (l := T) (T := []) (S := []) (6 + (sevens T.length).length) (piecesB T (flatR r) ++ more) [] (by simpa using hst) hsz
  unfold insideS
  rw [innerS_split, hT, tableB]
  simp only [tableS, manyS, List.append_assoc]
  rw [countS_sevens (by omega)]
  simp only [Res.bind]
  rw [if_neg (by rw [List.length_append]; omega)]
  simp only [List.nil_append] at hS ⊢
  rw [hS]
  simp only []
  rw [readTs_flat (T := T) (by omega) hg ht (fun s hs => by rw [← hT, mem_table]; exact hs)]
  simp only []
  by_cases hm : more = []
  · subst hm
    rw [if_neg (by simp), if_neg (by simp)]
    have hu : (mark T (List.replicate T.length false) (flatR r)).findIdx? (fun u => !u) = none := unused_none fun i hi => by
      rw [mark_len, List.length_replicate] at hi
      refine mark_all _ _ i (.inr ⟨by simpa using hi, T[i], ?_, idxS_of hst.nodup hi⟩)
      rw [← mem_table, hT]
      exact List.getElem_mem hi
    rw [hu]
    simp only []
    congr 2
    rw [hlen, htb]; omega
  · rw [if_pos hm, if_pos hm, hlen, htb]
    congr 1
    omega
theorem insideS_ok {tys : List Ty} {b : List UInt8} {r : List D} {s : Pst} (hh : b.take 6 = headB) (hl : b.length < 9223372036854775808) (h : insideS tys b = .ok r s) : tyR tys r ∧ b = innerS r := by
  unfold insideS at h
  obtain ⟨⟨T, S⟩, s1, h1, h2⟩ := bind_ok h
  obtain ⟨r', s2, h3, h4⟩ := bind_ok h2
  obtain ⟨k, s0, h5, h6⟩ := bind_ok h1
  have h5 := (manyS_ok (T := []) h5).1
  obtain ⟨l, e1, h7, h8, h9, h10, h11, h12⟩ := tableGo_ok (T := []) List.Pairwise.nil rfl h6
  rw [List.nil_append] at e1
  subst e1
  have hr5 := h5.rest
  have hu5 := h5.used
  rw [piecesB_one, pieceB] at hr5
  rw [mark_none (p := Piece.count k) rfl] at hu5
  have hlen1 : s1.rest.length < 9223372036854775808 := by
    have := h5.len
    have h13 : s0.rest.length = _ := congrArg List.length h10
    rw [List.length_append] at h13
    simp only [List.length_drop] at this
    omega
  obtain ⟨ht, hrd⟩ := readTs_ok h8.nodup hlen1 h3
  split at h4
  · cases h4
  · rename_i hnil
    have hnil : s2.rest = [] := Classical.byContradiction hnil
    split at h4
    · cases h4
    · rename_i hun
      cases h4
      have hu : s1.used = List.replicate T.length false := by rw [h12, hu5, ← h7]; simp
      have hall : ∀ x ∈ T, x ∈ texts (flatR r) := fun x hx => by
        obtain ⟨i, hi⟩ := List.mem_iff_getElem?.1 hx
        obtain ⟨hil, rfl⟩ := List.getElem?_eq_some_iff.1 hi
        have hus : s.used.length = T.length := by rw [hrd.used, mark_len, hu]; simp
        have h14 : s.used[i]? = some true := by
          have h15 : s.used[i]'(by omega) ∈ s.used := List.getElem_mem _
          have h16 := (List.findIdx?_eq_none_iff.1 hun) _ h15
          rw [List.getElem?_eq_getElem (by omega)]
          simpa using h16
        rw [hrd.used] at h14
        rcases mark_only _ _ i h14 with h15 | ⟨x, hx, hxi⟩
        · rw [hu, List.getElem?_replicate] at h15; split at h15 <;> cases h15
        · rw [idxS_get hxi hil]; exact hx
      have hT : T = tableOf (flatR r) := table_uniq h8 fun x => ⟨hall x, hrd.mem x⟩
      refine ⟨ht, ?_⟩
      rw [innerS, ← hT, tableB, ← List.take_append_drop 6 b, hh]
      congr 1
      have hr2 := hrd.rest
      rw [hnil, List.append_nil] at hr2
      simp only [] at hr5
      rw [hr5, h10, hr2, h7, List.append_assoc]

theorem innerS_len (r : List D) : 6 + 1 ≤ (innerS r).length := by
  have := sevens_pos (tableOf (flatR r)).length
  simp [innerS, headB, tableB]; omega
theorem signS_take (b : List UInt8) : (signS b).take ((signS b).length - 8) = b ∧ (signS b).drop ((signS b).length - 8) = sumB b := by
  have h : (signS b).length - 8 = b.length := by simp [signS, sumB_len]
  rw [h]
  simp [signS]
theorem innerS_head (r : List D) (more : List UInt8) : (innerS r ++ more).take 6 = headB ∧ partAt (innerS r ++ more) headB 0 = none := by
  have e : innerS r ++ more = headB ++ (tableB (tableOf (flatR r)) ++ piecesB (tableOf (flatR r)) (flatR r) ++ more) := by rw [innerS]; simp
  rw [e]
  exact ⟨by simp [headB], partAt_self _ _ _⟩
/-- An image and any bytes ahead of a sum that is made right. -/
theorem decode_more {tys : List Ty} {r : List D} (hg : goodTs tys) (ht : tyR tys r) {more : List UInt8} (hl : (signS (innerS r ++ more)).length ≤ 16777216) :
    decodeS tys (signS (innerS r ++ more)) = if more ≠ [] then .error (264, ((innerS r).length : Int)) else .ok r := by
  have hi := innerS_len r
  have hlen : (signS (innerS r ++ more)).length = (innerS r).length + more.length + 8 := by simp [signS, sumB_len]; omega
  unfold decodeS
  obtain ⟨e1, e2⟩ := signS_take (innerS r ++ more)
  rw [if_neg (by omega)]
  have hp : partAt (signS (innerS r ++ more)) headB 0 = none := by
    rw [signS, List.append_assoc]; exact (innerS_head r _).2
  rw [hp]
  simp only []
  rw [if_neg (by omega), e1, e2, if_neg (by simp), insideS_flat hg ht (by omega)]
  by_cases hm : more = []
  · rw [if_neg (by simp [hm]), if_neg (by simp [hm])]
  · rw [if_pos hm, if_pos hm]
theorem decode_image {tys : List Ty} {r : List D} (hg : goodTs tys) (ht : tyR tys r) (hl : (imageS r).length ≤ 16777216) : decodeS tys (imageS r) = .ok r := by
  have := decode_more hg ht (more := []) (by rw [List.append_nil]; exact hl)
  rw [List.append_nil, if_neg (by simp)] at this
  exact this
theorem image_decode {tys : List Ty} {b : List UInt8} {r : List D} (h : decodeS tys b = .ok r) : tyR tys r ∧ b = imageS r ∧ b.length ≤ 16777216 := by
  unfold decodeS at h
  split at h
  · cases h
  · rename_i hl
    split at h
    · cases h
    · rename_i hp
      split at h
      · cases h
      · rename_i h14
        split at h
        · cases h
        · rename_i hs
          have hs := Classical.byContradiction hs
          split at h
          · rename_i r' s' hin
            cases h
            have hh := partAt_none hp (by simp [headB]; omega)
            obtain ⟨h1, h2⟩ := insideS_ok (by rw [List.take_take, Nat.min_eq_left (by omega)]; exact hh) (by rw [List.length_take]; omega) hin
            refine ⟨h1, ?_, by omega⟩
            rw [imageS, signS, ← h2, ← hs, List.take_append_drop]
          · cases h
/-- Refused: longer ones. -/
theorem longer_no {tys : List Ty} {r : List D} (hg : goodTs tys) (ht : tyR tys r) {more : List UInt8} (hm : more ≠ []) (r' : List D) : decodeS tys (signS (innerS r ++ more)) ≠ .ok r' := fun h => by
  have hl := (image_decode h).2.2
  rw [decode_more hg ht hl, if_pos hm] at h
  cases h
theorem sign_inj {a b : List UInt8} (h : signS a = signS b) : a = b := by
  have h1 := signS_take a
  have h2 := signS_take b
  rw [← h1.1, ← h2.1, h]
theorem longer_no' {tys : List Ty} {r : List D} (hg : goodTs tys) (ht : tyR tys r) {more : List UInt8} (hm : more ≠ []) (r' : List D) : decodeS tys (imageS r ++ more) ≠ .ok r' := fun h => by
  obtain ⟨h1, h2, h3⟩ := image_decode h
  have e : innerS r' = innerS r ++ (sumB (innerS r) ++ more).take more.length := by
    have h4 := (signS_take (innerS r')).1
    have h5 : signS (innerS r') = innerS r ++ (sumB (innerS r) ++ more) := by
      rw [← List.append_assoc]; exact h2.symm
    rw [h5] at h4
    have h6 : (innerS r ++ (sumB (innerS r) ++ more)).length - 8 = (innerS r).length + more.length := by simp [sumB_len]; omega
    rw [h6, List.take_append, List.take_of_length_le (by omega)] at h4
    rw [← h4]
    congr 2
    omega
  have hne : (sumB (innerS r) ++ more).take more.length ≠ [] := fun e => by
    have h1 := congrArg List.length e
    rw [List.length_take, List.length_append, sumB_len, List.length_nil] at h1
    have h2 : more.length ≠ 0 := fun h => hm (List.length_eq_zero_iff.1 h)
    omega
  refine longer_no hg ht hne r' ?_
  rw [← e]
  rw [h2] at h
  exact h
/-- Refused: shorter ones. -/
theorem short_no {tys : List Ty} {r : List D} (hg : goodTs tys) (ht : tyR tys r) (hl : (imageS r).length ≤ 16777216) {p q : List UInt8} (hq : q ≠ []) (e : innerS r = p ++ q) (r' : List D) : decodeS tys (signS p) ≠ .ok r' := fun h => by
  obtain ⟨h1, h2, h3⟩ := image_decode h
  have e2 : p = innerS r' := sign_inj h2
  subst e2
  refine longer_no hg h1 hq r ?_
  rw [← e]
  exact decode_image hg ht hl
theorem short_no' {tys : List Ty} {r : List D} (hg : goodTs tys) (ht : tyR tys r) (hl : (imageS r).length ≤ 16777216) {p q : List UInt8} (hq : q ≠ []) (e : imageS r = p ++ q) (r' : List D) : decodeS tys p ≠ .ok r' := fun h => by
  obtain ⟨h1, h2, h3⟩ := image_decode h
  subst h2
  refine longer_no' hg h1 hq r ?_
  rw [← e]
  exact decode_image hg ht hl
theorem image_inj {tys : List Ty} {a b : List D} (hg : goodTs tys) (ha : tyR tys a) (hb : tyR tys b) (hl : (imageS a).length ≤ 16777216) (h : imageS a = imageS b) : a = b := by
  have h1 := decode_image hg ha hl
  have h2 := decode_image hg hb (by rw [← h]; exact hl)
  rw [h, h2] at h1
  cases h1
  rfl
/-! ### one byte turned -/
theorem fnv_inj_h {a b : Nat} {c : UInt8} (ha : a < 18446744073709551616) (hb : b < 18446744073709551616) (h : fnvStep a c = fnvStep b c) : a = b := by
  unfold fnvStep at h
  have hx : ∀ n, n < 18446744073709551616 → n ^^^ c.toNat < 18446744073709551616 := fun n hn => Nat.xor_lt_two_pow (n := 64) (by simpa using hn) (by have := c.toNat_lt; omega)
  have key : ∀ m, m < 18446744073709551616 → (m * 1099511628211 % 18446744073709551616) * 14886173955864302971 % 18446744073709551616 = m := fun m hm => by
    rw [Nat.mod_mul_mod, Nat.mul_assoc, show 1099511628211 * 14886173955864302971 = 1 + 18446744073709551616 * 887285111055 from rfl, Nat.mul_add, Nat.mul_one, Nat.mul_left_comm, Nat.add_mul_mod_self_left, Nat.mod_eq_of_lt hm]
  have h1 := key _ (hx a ha)
  have h2 := key _ (hx b hb)
  rw [h] at h1
  have h3 : a ^^^ c.toNat = b ^^^ c.toNat := h1.symm.trans h2
  have h4 := congrArg (· ^^^ c.toNat) h3
  simpa [Nat.xor_assoc] using h4
theorem fnv_inj_c {a : Nat} {c d : UInt8} (ha : a < 18446744073709551616) (h : fnvStep a c = fnvStep a d) : c = d := by
  unfold fnvStep at h
  have hx : ∀ c : UInt8, a ^^^ c.toNat < 18446744073709551616 := fun c => Nat.xor_lt_two_pow (n := 64) (by simpa using ha) (by have := c.toNat_lt; omega)
  have key : ∀ m, m < 18446744073709551616 → (m * 1099511628211 % 18446744073709551616) * 14886173955864302971 % 18446744073709551616 = m := fun m hm => by
    rw [Nat.mod_mul_mod, Nat.mul_assoc, show 1099511628211 * 14886173955864302971 = 1 + 18446744073709551616 * 887285111055 from rfl, Nat.mul_add, Nat.mul_one, Nat.mul_left_comm, Nat.add_mul_mod_self_left, Nat.mod_eq_of_lt hm]
  have h1 := key _ (hx c)
  have h2 := key _ (hx d)
  rw [h] at h1
  have h3 : a ^^^ c.toNat = a ^^^ d.toNat := h1.symm.trans h2
  have h4 := congrArg (a ^^^ ·) h3
  simp only [← Nat.xor_assoc, Nat.xor_self, Nat.zero_xor] at h4
  exact UInt8.toNat_inj.1 h4
theorem fold_inj (l : List UInt8) : ∀ {a b : Nat}, a < 18446744073709551616 → b < 18446744073709551616 → l.foldl fnvStep a = l.foldl fnvStep b → a = b := by
  induction l with
  | nil => intro a b _ _ h; exact h
  | cons c l ih => intro a b ha hb h; exact fnv_inj_h ha hb (ih (Nat.mod_lt _ (by omega)) (Nat.mod_lt _ (by omega)) h)
theorem sum_turned {p q : List UInt8} {c d : UInt8} (h : sumS (p ++ c :: q) = sumS (p ++ d :: q)) : c = d := by
  unfold sumS at h
  rw [List.foldl_append, List.foldl_append, List.foldl_cons, List.foldl_cons] at h
  exact fnv_inj_c (fnv_lt p _ (by omega)) (fold_inj q (Nat.mod_lt _ (by omega)) (Nat.mod_lt _ (by omega)) h)
theorem turned_no {tys : List Ty} {r : List D} {p q : List UInt8} {c d : UInt8} (hcd : c ≠ d) (e : imageS r = p ++ c :: q) (r' : List D) : decodeS tys (p ++ d :: q) ≠ .ok r' := fun h => by
  obtain ⟨_, h2, _⟩ := image_decode h
  have hlen : (imageS r).length = (imageS r').length := by rw [e, ← h2]; simp
  have hin : (innerS r).length = (innerS r').length := by simp [imageS, signS, sumB_len] at hlen; exact hlen
  have e1 : innerS r = (p ++ c :: q).take (innerS r).length := by rw [← e]; simp [imageS, signS]
  have e2 : innerS r' = (p ++ d :: q).take (innerS r).length := by rw [h2, hin]; simp [imageS, signS]
  have e3 : sumB (innerS r) = (p ++ c :: q).drop (innerS r).length := by rw [← e]; simp [imageS, signS]
  have e4 : sumB (innerS r') = (p ++ d :: q).drop (innerS r).length := by rw [h2, hin]; simp [imageS, signS]
  rcases Nat.lt_or_ge p.length (innerS r).length with hlt | hge
  · -- within the inside
    have e5 : sumB (innerS r) = sumB (innerS r') := by
      rw [e3, e4, List.drop_append, List.drop_append, List.drop_of_length_le (by omega)]
      obtain ⟨k, hk⟩ : ∃ k, (innerS r).length - p.length = k + 1 := ⟨(innerS r).length - p.length - 1, by omega⟩
      rw [hk]; rfl
    have e6 := sumB_inj e5
    obtain ⟨k, hk⟩ : ∃ k, (innerS r).length - p.length = k + 1 := ⟨(innerS r).length - p.length - 1, by omega⟩
    have t1 : innerS r = p ++ c :: q.take k := by
      rw [e1, List.take_append, List.take_of_length_le (by omega), hk]; rfl
    have t2 : innerS r' = p ++ d :: q.take k := by
      rw [e2, List.take_append, List.take_of_length_le (by omega), hk]; rfl
    rw [t1, t2] at e6
    exact hcd (sum_turned e6)
  · have t : innerS r = innerS r' := by
      rw [e1, e2, List.take_append, List.take_append]
      rw [show (innerS r).length - p.length = 0 by omega]; rfl
    have : p ++ c :: q = p ++ d :: q := by rw [← e, h2, imageS, imageS, t]
    have := List.append_cancel_left this
    cases this
    exact hcd rfl
end Go.B
