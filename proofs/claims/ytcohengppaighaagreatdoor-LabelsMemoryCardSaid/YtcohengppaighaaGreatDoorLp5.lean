/- Labels: a list's text, and a text's list; no program. -/
import Derived.Test.YtcohengppaighaaGreatDoorLp4
set_option linter.unusedVariables false
set_option linter.unusedSimpArgs false
namespace Go.B

theorem inner_ok {l : List UInt8} {c : UInt8} (h : shortS l = true) (hc : c ∈ l) : innerU c = true := by
  unfold shortS at h
  simp only [Bool.and_eq_true] at h
  exact List.all_eq_true.1 h.2.2.1 c hc
theorem val_ok {l : List UInt8} {c : UInt8} (h : valS l = true) (hc : c ∈ l) : innerU c = true := by
  unfold valS at h
  rw [Bool.or_eq_true] at h
  rcases h with h | h
  · rw [decide_eq_true_eq] at h; subst h; cases hc
  · simp only [Bool.and_eq_true] at h
    exact List.all_eq_true.1 h.2.1 c hc
theorem mem_cutS {c d : UInt8} (hd : d ≠ c) : ∀ {l : List UInt8}, d ∈ l → ∃ p ∈ cutS c l, d ∈ p
  | [], h => by cases h
  | x :: r, h => by
    unfold cutS
    by_cases hx : x = c
    · rw [if_pos hx]
      rcases List.mem_cons.1 h with rfl | h
      · exact absurd hx hd
      · obtain ⟨p, hp, hq⟩ := mem_cutS hd h
        exact ⟨p, by simp [hp], hq⟩
    · rw [if_neg hx]
      match hq : cutS c r with
      | [] => exact absurd hq (cutS_ne c r)
      | p :: ps =>
        rcases List.mem_cons.1 h with rfl | h
        · exact ⟨d :: p, by simp, by simp⟩
        · obtain ⟨q, hq1, hq2⟩ := mem_cutS hd h
          rw [hq] at hq1
          rcases List.mem_cons.1 hq1 with rfl | hq1
          · exact ⟨x :: q, by simp, by simp [hq2]⟩
          · exact ⟨q, by simp [hq1], hq2⟩
theorem name_byte {l : List UInt8} {c : UInt8} (h : nameS l = true) (hc : c ∈ l) : c = 46 ∨ lowU c = true ∨ c = 45 := by
  by_cases h0 : c = 46
  · exact .inl h0
  · obtain ⟨p, hp, hq⟩ := mem_cutS h0 hc
    unfold nameS at h
    simp only [Bool.and_eq_true] at h
    have := List.all_eq_true.1 h.2 p hp
    unfold partS at this
    simp only [Bool.and_eq_true] at this
    have := List.all_eq_true.1 this.2.1 c hq
    rw [Bool.or_eq_true, beq_iff_eq] at this
    exact .inr this
theorem key_byte {l : List UInt8} {c : UInt8} (h : keyS l = true) (hc : c ∈ l) : innerU c = true ∨ c = 47 := by
  unfold keyS at h
  rcases cut_cases 47 l with h1 | ⟨a, b, rfl, h1⟩
  · rw [cut1_not h1] at h
    exact .inl (inner_ok h hc)
  · rw [cut1_app h1] at h
    simp only [Bool.and_eq_true] at h
    rcases List.mem_append.1 hc with hc | hc
    · rcases name_byte h.1 hc with h2 | h2 | h2
      · subst h2; exact .inl (by decide)
      · refine .inl ?_
        have : lowB (c.toNat : Int) = true := h2
        show innerB _ = true
        unfold innerB wordB
        rw [this]; rfl
      · subst h2; exact .inl (by decide)
    · rcases List.mem_cons.1 hc with rfl | hc
      · exact .inr rfl
      · exact .inl (inner_ok h.2 hc)
theorem key_no {l : List UInt8} {c : UInt8} (h : keyS l = true) (h1 : innerU c = false) (h2 : c ≠ 47) : c ∉ l := fun hc => by
  rcases key_byte h hc with h3 | h3
  · rw [h3] at h1; cases h1
  · exact h2 h3
theorem val_no {l : List UInt8} {c : UInt8} (h : valS l = true) (h1 : innerU c = false) : c ∉ l := fun hc => by
  rw [val_ok h hc] at h1; cases h1
theorem item_no {x : Lab} (hk : keyS (bs x.1) = true) (hv : valS (bs x.2) = true) : (44 : UInt8) ∉ itemT x := by
  unfold itemT
  simp only [List.mem_append, List.mem_cons, not_or]
  exact ⟨key_no hk (by decide) (by decide), by decide, val_no hv (by decide)⟩
theorem item_cut {x : Lab} (hk : keyS (bs x.1) = true) : itemS (itemT x) = (x.1, x.2, true) := by
  unfold itemS itemT
  rw [cut1_app (key_no hk (by decide) (by decide))]
  rfl
theorem cut_join : ∀ {l : List Lab}, l ≠ [] → (∀ x ∈ l, keyS (bs x.1) = true) → (∀ x ∈ l, valS (bs x.2) = true) → cutS 44 (joinT l) = l.map itemT
  | [], h, _, _ => absurd rfl h
  | [x], _, hk, hv => by
    rw [joinT, cutS_not (item_no (hk x (by simp)) (hv x (by simp)))]; rfl
  | x :: y :: r, _, hk, hv => by
    rw [joinT, cutS_app (item_no (hk x (by simp)) (hv x (by simp))), cut_join (by simp) (fun z hz => hk z (by simp [hz])) (fun z hz => hv z (by simp [hz]))]; rfl
theorem itemBad_zero {out : List Lab} {it : List UInt8} : itemBad out it = 0 ↔ out.length ≠ 32 ∧ (itemS it).2.2 = true ∧ keyS (bs (itemS it).1) = true ∧ valS (bs (itemS it).2.1) = true ∧ (itemS it).1 ∉ keys out := by
  unfold itemBad
  rw [← getS_iff]
  by_cases h1 : out.length = 32
  · simp [h1]
  · cases h2 : (itemS it).2.2
    · simp [h1]
    · cases h3 : keyS (bs (itemS it).1)
      · simp [h1]
      · cases h4 : valS (bs (itemS it).2.1)
        · simp [h1]
        · cases h5 : (getS out (itemS it).1).2
          · simp [h1]
          · simp [h1]
theorem parseGo_items : ∀ {l out : List Lab} {at_ : Int}, (out ++ l).length ≤ 32 → (∀ x ∈ l, keyS (bs x.1) = true) → (∀ x ∈ l, valS (bs x.2) = true) → (keys (out ++ l)).Nodup → parseGo out at_ (l.map itemT) = (sortS (out ++ l), 0, 0)
  | [], out, at_, _, _, _, _ => by simp [parseGo]
  | x :: r, out, at_, hl, hk, hv, hn => by
    have hc := item_cut (hk x (by simp))
    have h0 : itemBad out (itemT x) = 0 := by
      rw [itemBad_zero, hc]
      refine ⟨by simp at hl; omega, rfl, hk x (by simp), hv x (by simp), fun hm => ?_⟩
      unfold keys at hn hm
      rw [List.map_append, List.nodup_append] at hn
      exact hn.2.2 _ hm x.1 (by simp) rfl
    rw [List.map_cons, parseGo, if_pos h0, hc]
    have e : (out ++ [(x.1, x.2)]) ++ r = out ++ x :: r := by simp
    rw [parseGo_items (by rw [e]; exact hl) (fun z hz => hk z (by simp [hz])) (fun z hz => hv z (by simp [hz])) (by rw [e]; exact hn), e]
theorem itemT_len {x : Lab} (hk : keyS (bs x.1) = true) (hv : valS (bs x.2) = true) : (itemT x).length ≤ 191 := by
  have h1 := key_len hk
  have h2 : (bs x.2).length ≤ 63 := by
    unfold valS at hv
    rw [Bool.or_eq_true] at hv
    rcases hv with h | h
    · rw [decide_eq_true_eq] at h; rw [h]; simp
    · simp only [Bool.and_eq_true, decide_eq_true_eq] at h; exact h.1
  unfold itemT
  simp; omega
def sumT (l : List Lab) : Nat := (l.map fun x => (itemT x).length + 1).sum
theorem join_len : ∀ {l : List Lab}, l ≠ [] → (joinT l).length + 1 = sumT l
  | [], h => absurd rfl h
  | [x], _ => by simp [joinT, sumT]
  | x :: y :: r, _ => by
    have := join_len (l := y :: r) (by simp)
    rw [joinT]
    unfold sumT at this ⊢
    rw [List.map_cons, List.sum_cons, ← this]
    simp; omega
theorem sumT_le : ∀ {l : List Lab}, (∀ x ∈ l, keyS (bs x.1) = true) → (∀ x ∈ l, valS (bs x.2) = true) → sumT l ≤ 192 * l.length
  | [], _, _ => by simp [sumT]
  | x :: r, hk, hv => by
    have h1 := itemT_len (hk x (by simp)) (hv x (by simp))
    have h2 := sumT_le (l := r) (fun z hz => hk z (by simp [hz])) (fun z hz => hv z (by simp [hz]))
    unfold sumT at h2 ⊢
    rw [List.map_cons, List.sum_cons]
    simp only [List.length_cons]
    omega
theorem join_ne {l : List Lab} (h : l ≠ []) : joinT l ≠ [] := by
  match l, h with
  | [x], _ => simp [joinT, itemT]
  | x :: y :: r, _ => simp [joinT, itemT]
theorem join_max {l : List Lab} (h : OkL l) : (joinT l).length ≤ 8192 := by
  by_cases h0 : l = []
  · subst h0; simp [joinT]
  · have h1 := join_len h0
    have h2 := sumT_le h.key h.val
    have h3 := h.len
    omega
/-- A list's text reads back. -/
theorem parse_join {l : List Lab} (h : OkL l) : parseS (joinT l) = (l, 0, 0) := by
  have hm := join_max h
  unfold parseS
  rw [if_neg (by omega)]
  by_cases h0 : l = []
  · subst h0; rfl
  · rw [if_neg (join_ne h0), cut_join h0 h.key h.val, parseGo_items (by simpa using h.len) h.key h.val (by simpa using h.ris.nodup)]
    simp [h.ris.sort]
theorem okL_sort {l : List Lab} (hl : l.length ≤ 32) (hk : ∀ x ∈ l, keyS (bs x.1) = true) (hv : ∀ x ∈ l, valS (bs x.2) = true) (hn : (keys l).Nodup) : OkL (sortS l) :=
  ⟨by rw [sortS_len]; exact hl, fun x hx => hk x (sortS_mem.1 hx), fun x hx => hv x (sortS_mem.1 hx), sortS_ris hn⟩
/-! ### what Parse takes and refuses -/
theorem itemT_cut {it : List UInt8} (h : (itemS it).2.2 = true) : itemT ((itemS it).1, (itemS it).2.1) = it := by
  unfold itemS at h ⊢
  rcases cut_cases 61 it with h1 | ⟨a, b, rfl, h1⟩
  · rw [cut1_not h1] at h; cases h
  · rw [cut1_app h1]
    unfold itemT
    simp only [bs_unb]
/-- The items' texts joined. -/
def joinP : List (List UInt8) → List UInt8
  | [] => []
  | [x] => x
  | x :: y :: r => x ++ 44 :: joinP (y :: r)
theorem joinP_cut : ∀ (n : Nat) (t : List UInt8), t.length ≤ n → joinP (cutS 44 t) = t := by
  intro n
  induction n with
  | zero =>
    intro t h
    obtain rfl := List.length_eq_zero_iff.1 (Nat.le_zero.1 h)
    rfl
  | succ n ih =>
    intro t h
    rcases cut_cases 44 t with h1 | ⟨a, b, rfl, h1⟩
    · rw [cutS_not h1]; rfl
    · rw [cutS_app h1]
      have := ih b (by simp at h; omega)
      match hq : cutS 44 b with
      | [] => exact absurd hq (cutS_ne 44 b)
      | p :: ps => rw [joinP, ← hq, this]
theorem joinP_map : ∀ l : List Lab, joinP (l.map itemT) = joinT l
  | [] => rfl
  | [x] => rfl
  | x :: y :: r => by
    have := joinP_map (y :: r)
    simp only [List.map_cons] at this ⊢
    rw [joinP, joinT, this]
/-- Where Parse takes the items, they are a list's. -/
theorem parseGo_ok : ∀ {its : List (List UInt8)} {out : List Lab} {at_ : Int}, (parseGo out at_ its).2.2 = 0 → (keys out).Nodup → out.length ≤ 32 →
    ∃ l, its = l.map itemT ∧ (∀ x ∈ l, keyS (bs x.1) = true) ∧ (∀ x ∈ l, valS (bs x.2) = true) ∧ (keys (out ++ l)).Nodup ∧ (out ++ l).length ≤ 32 ∧ parseGo out at_ its = (sortS (out ++ l), 0, 0)
  | [], out, at_, _, hn, hl => ⟨[], rfl, by simp, by simp, by simpa using hn, by simpa using hl, by simp [parseGo]⟩
  | it :: r, out, at_, h, hn, hl => by
    rw [parseGo] at h ⊢
    by_cases h0 : itemBad out it = 0
    · rw [if_pos h0] at h ⊢
      obtain ⟨h1, h2, h3, h4, h5⟩ := itemBad_zero.1 h0
      have hn' : (keys (out ++ [((itemS it).1, (itemS it).2.1)])).Nodup := by
        unfold keys at hn h5 ⊢
        rw [List.map_append, List.nodup_append]
        refine ⟨hn, by simp, fun a ha b hb e => ?_⟩
        simp at hb
        rw [← hb, ← e] at h5
        exact h5 ha
      obtain ⟨l, e1, e2, e3, e4, e5, e6⟩ := parseGo_ok h hn' (by simp; omega)
      have e : (out ++ [((itemS it).1, (itemS it).2.1)]) ++ l = out ++ ((itemS it).1, (itemS it).2.1) :: l := by simp
      rw [e] at e4 e5 e6
      refine ⟨((itemS it).1, (itemS it).2.1) :: l, ?_, ?_, ?_, e4, e5, e6⟩
      · rw [List.map_cons, itemT_cut h2, e1]
      · intro x hx
        rcases List.mem_cons.1 hx with rfl | hx
        · exact h3
        · exact e2 x hx
      · intro x hx
        rcases List.mem_cons.1 hx with rfl | hx
        · exact h4
        · exact e3 x hx
    · rw [if_neg h0] at h
      exact absurd h h0
theorem parse_ok {t : List UInt8} (h : (parseS t).2.2 = 0) : ∃ l, t = joinT l ∧ l.length ≤ 32 ∧ (keys l).Nodup ∧ parseS t = (sortS l, 0, 0) ∧ OkL (sortS l) := by
  unfold parseS at h ⊢
  by_cases h0 : 8192 < t.length
  · rw [if_pos h0] at h; exact absurd h (by decide)
  rw [if_neg h0] at h ⊢
  by_cases h1 : t = []
  · subst h1
    rw [if_pos rfl]
    have hs : sortS [] = [] := Ris.sort (by exact List.Pairwise.nil)
    exact ⟨[], rfl, by simp, by simp [keys], by rw [hs], okL_sort (by simp) (by simp) (by simp) (by simp [keys])⟩
  · rw [if_neg h1] at h ⊢
    obtain ⟨l, e1, e2, e3, e4, e5, e6⟩ := parseGo_ok h (by simp [keys]) (by simp)
    simp only [List.nil_append] at e4 e5 e6
    refine ⟨l, ?_, e5, e4, e6, okL_sort e5 e2 e3 e4⟩
    rw [← joinP_map, ← e1, joinP_cut _ _ (Nat.le_refl _)]
theorem itemBad_ne39 (out : List Lab) (it : List UInt8) : itemBad out it ≠ 39 := by
  unfold itemBad
  split
  · decide
  split
  · decide
  split
  · decide
  split
  · decide
  split <;> decide
/-- A fault stands at an item's beginning; more behind it changes nothing. -/
theorem parseGo_bad : ∀ {its : List (List UInt8)} {out : List Lab} {at_ : Int}, (parseGo out at_ its).2.2 ≠ 0 →
    (parseGo out at_ its).1 = [] ∧ (parseGo out at_ its).2.2 ≠ 39 ∧ (∃ pre it post, its = pre ++ it :: post ∧ (parseGo out at_ its).2.1 = at_ + ((pre.map fun x => x.length + 1).sum : Nat)) ∧ ∀ more, parseGo out at_ (its ++ more) = parseGo out at_ its
  | [], out, at_, h => absurd rfl h
  | it :: r, out, at_, h => by
    rw [parseGo] at h ⊢
    by_cases h0 : itemBad out it = 0
    · rw [if_pos h0] at h ⊢
      obtain ⟨a, a', ⟨pre, it', post, e, e'⟩, b⟩ := parseGo_bad h
      refine ⟨a, a', ⟨it :: pre, it', post, by rw [e]; rfl, ?_⟩, fun more => ?_⟩
      · rw [e']; simp; omega
      · rw [List.cons_append, parseGo, if_pos h0, b]
    · rw [if_neg h0]
      exact ⟨rfl, itemBad_ne39 _ _, ⟨[], it, r, rfl, by simp⟩, fun more => by rw [List.cons_append, parseGo, if_neg h0]⟩
theorem joinP_app : ∀ {pre : List (List UInt8)} {it : List UInt8} {post : List (List UInt8)}, pre ≠ [] → ∃ u, joinP (pre ++ it :: post) = u ++ 44 :: joinP (it :: post) ∧ u.length + 1 = (pre.map fun x => x.length + 1).sum
  | [], _, _, h => absurd rfl h
  | [x], it, post, _ => ⟨x, by simp [joinP], by simp⟩
  | x :: y :: r, it, post, _ => by
    obtain ⟨u, e, e'⟩ := joinP_app (pre := y :: r) (it := it) (post := post) (by simp)
    refine ⟨x ++ 44 :: u, ?_, ?_⟩
    · simp only [List.cons_append] at e ⊢
      rw [joinP, e]; simp
    · rw [List.map_cons, List.sum_cons, ← e']; simp; omega
theorem cutS_more (t more : List UInt8) : cutS 44 (t ++ 44 :: more) = cutS 44 t ++ cutS 44 more := by
  obtain ⟨n, hn⟩ : ∃ n, t.length ≤ n := ⟨_, Nat.le_refl _⟩
  induction n generalizing t with
  | zero =>
    obtain rfl := List.length_eq_zero_iff.1 (Nat.le_zero.1 hn)
    exact cutS_app (a := []) (by simp)
  | succ n ih =>
    rcases cut_cases 44 t with h1 | ⟨a, b, rfl, h1⟩
    · rw [cutS_app h1, cutS_not h1]; rfl
    · rw [List.append_assoc, List.cons_append, cutS_app h1, cutS_app h1, ih b (by simp at hn; omega)]; rfl
theorem parse_bad {t : List UInt8} (h : (parseS t).2.2 ≠ 0) : (parseS t).1 = [] ∧ (((parseS t).2.2 = 39 ∧ (parseS t).2.1 = 0 ∧ 8192 < t.length) ∨ ((parseS t).2.2 ≠ 39 ∧ t.length ≤ 8192 ∧ ∃ n : Nat, (parseS t).2.1 = n ∧ n ≤ t.length ∧ (0 < n → t[n - 1]? = some 44) ∧
    ∀ more : List UInt8, t.length + 1 + more.length ≤ 8192 → (parseS (t ++ 44 :: more)).2 = (parseS t).2)) := by
  unfold parseS at h ⊢
  by_cases h0 : 8192 < t.length
  · rw [if_pos h0]; exact ⟨rfl, .inl ⟨rfl, rfl, h0⟩⟩
  rw [if_neg h0] at h ⊢
  by_cases h1 : t = []
  · rw [if_pos h1] at h; exact absurd rfl h
  · rw [if_neg h1] at h ⊢
    obtain ⟨a, a', ⟨pre, it, post, e, e'⟩, b⟩ := parseGo_bad h
    refine ⟨a, .inr ⟨a', by omega, (pre.map fun x => x.length + 1).sum, by rw [e', Int.zero_add], ?_⟩⟩
    have hj := joinP_cut _ t (Nat.le_refl _)
    rw [e] at hj
    have hpos : (pre.map fun x => x.length + 1).sum ≤ t.length ∧ (0 < (pre.map fun x => x.length + 1).sum → t[(pre.map fun x => x.length + 1).sum - 1]? = some 44) := by
      by_cases hp : pre = []
      · subst hp; simp
      · obtain ⟨u, e1, e2⟩ := joinP_app (it := it) (post := post) hp
        rw [← e2, ← hj, e1]
        refine ⟨by simp, fun _ => by simp⟩
    refine ⟨hpos.1, hpos.2, fun more hm => ?_⟩
    have hl : (t ++ 44 :: more).length = t.length + 1 + more.length := by simp; omega
    rw [if_neg (by omega), if_neg (by simp), cutS_more, b]
end Go.B
