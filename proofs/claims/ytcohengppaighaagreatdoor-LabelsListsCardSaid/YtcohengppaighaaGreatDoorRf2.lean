/- Labels, the document's answer: Find, Check, Rise, Make, Get, without, Same, Copy. -/
import Derived.Test.YtcohengppaighaaGreatDoorRf1
set_option linter.unusedVariables false
set_option linter.unusedSimpArgs false
namespace Go.Proofs.YtcohengppaighaaGreatDoor
open Go Go.V Go.B

/-- The place of the first label with this key. -/
def findS : List Lab → ByteArray → Nat → Int
  | [], _, _ => -1
  | x :: r, k, i => if x.1 = k then (i : Int) else findS r k (i + 1)
theorem find_cases : ∀ (l : List Lab) (k : ByteArray) (i : Nat), (findS l k i = -1 ∧ k ∉ keys l) ∨ (∃ a x, findS l k i = ((i + a : Nat) : Int) ∧ l[a]? = some x ∧ x.1 = k ∧ getS l k = (x.2, true) ∧ k ∉ keys (l.take a))
  | [], k, i => .inl ⟨rfl, by simp [keys]⟩
  | x :: r, k, i => by
    unfold findS
    by_cases h : x.1 = k
    · rw [if_pos h]
      exact .inr ⟨0, x, rfl, rfl, h, by rw [getS, if_pos h], by simp [keys]⟩
    · rw [if_neg h]
      rcases find_cases r k (i + 1) with ⟨h1, h2⟩ | ⟨a, y, h1, h2, h3, h4, h5⟩
      · refine .inl ⟨h1, ?_⟩
        unfold keys at h2 ⊢
        rw [List.map_cons, List.mem_cons]
        rintro (h0 | h0)
        · exact h h0.symm
        · exact h2 h0
      · refine .inr ⟨a + 1, y, by rw [h1, show i + 1 + a = i + (a + 1) by omega], by simpa using h2, h3, by rw [getS, if_neg h]; exact h4, ?_⟩
        unfold keys at h5 ⊢
        rw [List.take_succ_cons, List.map_cons, List.mem_cons]
        rintro (h0 | h0)
        · exact h h0.symm
        · exact h5 h0
theorem mem_take {l : List Lab} {a j : Nat} {x : Lab} (h : l[j]? = some x) (hj : j < a) : x.1 ∈ keys (l.take a) := by
  refine mem_keys.2 ⟨x, List.mem_of_getElem? (i := j) ?_, rfl⟩
  rw [List.getElem?_take, if_pos hj]; exact h
section
variable {w : World} {A : Option Addr} {n c : Nat} {l : List Lab} {R : Ending → World → Prop}
theorem rFind_c (hc : Cells w A (LbL.flat l)) (hl : l.length = n) (big : n * 32 ≤ 140737488351232) (key : ByteArray)
    (k : R (.returned (.int .i64 (findS l key 0))) w) : Calls Tryz.prog 56 #[.slice A n c, .string key] w R := by
  apply berthref03_Find_nf
  refine ⟨fun t w' => ∃ a : Nat, t = a ∧ a ≤ n ∧ w' = w ∧ findS l key 0 = findS (l.drop a) key a, fun t _ => n - t.toNat, ⟨0, rfl, by omega, rfl, rfl⟩, ?_⟩
  rintro _ _ _ ⟨a, rfl, ha, rfl, hg⟩
  refine sel_dec (fun hlt => ?_) (fun hge => ?_)
  · obtain ⟨x, hx⟩ : ∃ x, l[a]? = some x := ⟨_, List.getElem?_eq_getElem (by omega)⟩
    obtain ⟨ad, rfl, rd⟩ := lab_cells hc hx
    rw [drop_at hx, findS] at hg
    refine when_dec ⟨by omega, by omega⟩ ⟨_, (rd _ (Ext.refl _ _)).1, sel_intro (fun h => ?_) (fun h => ?_)⟩
    · rw [beqBytes, decide_eq_true_eq] at h
      rw [if_pos h] at hg
      rw [hg] at k; exact k
    · rw [beqBytes, decide_eq_false_iff_not] at h
      rw [if_neg h] at hg
      rw [up64 a (by omega)]
      exact ⟨⟨a + 1, rfl, by omega, rfl, hg⟩, by simp only [Int.toNat_natCast]; omega⟩
  · rw [List.drop_eq_nil_of_le (by omega), findS] at hg
    rw [hg] at k; exact k
theorem rGet_c (hc : Cells w A (LbL.flat l)) (hl : l.length = n) (big : n * 32 ≤ 140737488351232) (key : ByteArray)
    (k : R (.returned (.tuple #[.string (getS l key).1, .bool (getS l key).2])) w) : Calls Tryz.prog 62 #[.slice A n c, .string key] w R := by
  apply berthref03_Get_nf
  refine rFind_c hc hl big key ⟨_, rfl, ?_⟩
  rcases find_cases l key 0 with ⟨h1, h2⟩ | ⟨a, x, h1, h2, h3, h4, h5⟩
  · rw [h1]
    rw [getS_not h2] at k
    exact sel_true rfl k
  · rw [h1, Nat.zero_add]
    obtain ⟨ad, rfl, rd⟩ := lab_cells hc h2
    have hal := (List.getElem?_eq_some_iff.1 h2).1
    rw [h4] at k
    exact sel_dec (fun h => absurd h (by omega)) (fun _ => when_dec ⟨by omega, by omega⟩ ⟨_, (rd _ (Ext.refl _ _)).2.1, k⟩)
theorem rCheck_c (h : LIn w A n l)
    (k : ∀ w', Ext [] w w' → R (.returned (.tuple #[.int .i64 (checkS l).1, .int .i64 (checkS l).2])) w') : Calls Tryz.prog 59 #[.slice A n c] w R := by
  apply berthref03_Check_nf
  have hl := h.len
  have hbig := h.big
  refine sel_dec (fun hgt => ?_) (fun hle => ?_)
  · have := k w (Ext.refl _ _)
    unfold checkS at this
    rw [if_pos (by omega)] at this
    exact this
  have hcs : checkS l = checkGo 0 none l := by unfold checkS; rw [if_neg (by omega)]
  refine ⟨fun t w' => ∃ a : Nat, t = a ∧ a ≤ n ∧ Ext [] w w' ∧ checkS l = checkGo a (prevK l a) (l.drop a), fun t _ => n - t.toNat, ⟨0, rfl, by omega, Ext.refl _ _, hcs⟩, ?_⟩
  rintro _ _ w6 ⟨a, rfl, ha, e6, hg⟩
  refine sel_dec (fun hlt => ?_) (fun hge => ?_)
  · obtain ⟨x, hx⟩ : ∃ x, l[a]? = some x := ⟨_, List.getElem?_eq_getElem (by omega)⟩
    obtain ⟨ad, rfl, rd⟩ := lab_cells h.c hx
    rw [drop_at hx, checkGo] at hg
    have bad : ∀ {e : Int} {w' : World}, badAt (prevK l a) x = e → e ≠ 0 → Ext [] w w' → R (.returned (.tuple #[.int .i64 (a : Int), .int .i64 e])) w' := fun {e w'} he hne ew => by
      rw [if_neg (by rw [he]; exact hne), he] at hg
      have := k w' ew
      rw [hg] at this
      exact this
    have good : ∀ {w' : World}, badAt (prevK l a) x = 0 → Ext [] w w' → (fun t w' => ∃ a : Nat, t = (a : Int) ∧ a ≤ n ∧ Ext [] w w' ∧ checkS l = checkGo a (prevK l a) (l.drop a)) (IntKind.wrap .i64 ((a : Int) + 1)) w' ∧ n - (IntKind.wrap .i64 ((a : Int) + 1)).toNat < n - ((a : Int)).toNat := fun {w'} he ew => by
      rw [if_pos he] at hg
      rw [up64 a (by omega)]
      refine ⟨⟨a + 1, rfl, by omega, ew, ?_⟩, by simp only [Int.toNat_natCast]; omega⟩
      rw [hg]
      have : prevK l (a + 1) = some x.1 := by unfold prevK; rw [if_neg (by omega), Nat.add_sub_cancel, hx]; rfl
      rw [this]; rfl
    refine when_dec ⟨by omega, by omega⟩ ⟨_, (rd w6 e6).1, rIsKey_c x.1 fun w11 e11 => ⟨_, rfl, ?_⟩⟩
    have e11' := e6.trans e11
    refine when_dec ⟨by omega, by omega⟩ ⟨_, (rd w11 e11').2.1, rIsValue_c x.2 ⟨_, rfl, sel_intro (fun hk => bad (by unfold badAt; rw [if_pos (nf_ hk)]) (by decide) e11') (fun hk => sel_intro (fun hv => bad (by unfold badAt; rw [if_neg (by simp [nt_ hk]), if_pos (nf_ hv)]) (by decide) e11') (fun hv => ?_))⟩⟩
    have hk := nt_ hk
    have hv := nt_ hv
    refine sel_dec (fun h0 => ?_) (fun h0 => sel_dec (fun h1 => absurd h1 h0) (fun _ => good ?_ e11'.drew.drew))
    · obtain ⟨y, hy⟩ : ∃ y, l[a - 1]? = some y := ⟨_, List.getElem?_eq_getElem (by omega)⟩
      obtain ⟨ad', hA, ry⟩ := lab_cells h.c hy
      cases hA
      have hp : prevK l a = some y.1 := by unfold prevK; rw [if_neg (by omega), hy]; rfl
      have e1 : IntKind.wrap .i64 ((a : Int) - 1) = ((a - 1 : Nat) : Int) := by rw [w64 (by omega) (by omega)]; omega
      rw [e1]
      refine when_dec ⟨by omega, by omega⟩ ⟨_, (rd w11 e11').1, when_dec ⟨by omega, by omega⟩ ⟨_, (ry w11 e11').1, sel_intro (fun h1 => bad ?_ (by decide) e11'.drew) (fun h1 => sel_dec (fun _ => ?_) (fun h2 => absurd h0 h2))⟩⟩
      · rw [beqBytes, decide_eq_true_eq] at h1
        unfold badAt
        rw [hp]
        simp only [hk, hv, if_pos h1, Bool.true_eq_false, if_false]
      rw [beqBytes, decide_eq_false_iff_not] at h1
      refine when_dec ⟨by omega, by omega⟩ ⟨_, (rd _ e11'.drew).1, when_dec ⟨by omega, by omega⟩ ⟨_, (ry _ e11'.drew).1, sel_intro (fun h3 => bad ?_ (by decide) e11'.drew.drew) (fun h3 => good ?_ e11'.drew.drew)⟩⟩
      · rw [less_iff, decide_eq_true_eq] at h3
        unfold badAt
        rw [hp]
        simp only [hk, hv, if_neg h1, if_pos h3, Bool.true_eq_false, if_false]
      · rw [less_iff, decide_eq_false_iff_not] at h3
        unfold badAt
        rw [hp]
        simp only [hk, hv, if_neg h1, if_neg h3, Bool.true_eq_false, if_false]
    · have hp : prevK l a = none := by unfold prevK; rw [if_pos (by omega)]
      unfold badAt
      rw [hp]
      simp [hk, hv]
  · rw [List.drop_eq_nil_of_le (by omega)] at hg
    have := k w6 e6
    rw [hg] at this
    exact this
theorem rwithout_c (hc : Cells w A (LbL.flat l)) (hl : l.length = n) (big : n * 32 ≤ 140737488351232) (key : ByteArray)
    (k : ∀ w' A' n' c', Ext [] w w' → LOwn w' w.heap.size A' n' c' (delS l key) → n' ≤ n → R (.returned (.slice A' n' c')) w') : Calls Tryz.prog 60 #[.slice A n c, .string key] w R := by
  apply berthref03_without_nf
  refine ⟨fun A' n' c' t w' => ∃ a : Nat, t = a ∧ a ≤ n ∧ Ext [] w w' ∧ n' ≤ a ∧ LOwn w' w.heap.size A' n' c' (delS (l.take a) key), fun _ _ _ t _ => n - t.toNat, ⟨0, rfl, by omega, Ext.refl _ _, by omega, LstL.nil _ _ _⟩, ?_⟩
  rintro A' n' c' _ _ w8 ⟨a, rfl, ha, e8, hn', own⟩
  refine sel_dec (fun hlt => ?_) (fun hge => ?_)
  · obtain ⟨x, hx⟩ : ∃ x, l[a]? = some x := ⟨_, List.getElem?_eq_getElem (by omega)⟩
    obtain ⟨ad, rfl, rd⟩ := lab_cells hc hx
    refine when_dec ⟨by omega, by omega⟩ ⟨_, (rd w8 e8).1, ?_⟩
    rw [up64 a (by omega)]
    refine sel_intro (fun h => when_dec ⟨by omega, by omega⟩ ⟨_, _, (rd w8 e8).2.2, fun w14 h14 => ?_⟩) (fun h => ?_)
    · rw [beqBytes] at h
      have h : x.1 ≠ key := by simpa using h
      obtain ⟨A2, c2, w16, hr, ho, he, _⟩ := more_lab e8 own h14 (by omega)
      refine ⟨_, _, _, _, hr, ⟨a + 1, rfl, by omega, he, by omega, ?_⟩, by simp only [Int.toNat_natCast]; omega⟩
      have : delS (l.take (a + 1)) key = delS (l.take a) key ++ [(x.1, x.2)] := by
        rw [snoc_at hx]; unfold delS; rw [List.filter_append]; simp [h]
      rw [this]; exact ho
    · rw [beqBytes] at h
      have h : x.1 = key := by simpa using h
      refine ⟨⟨a + 1, rfl, by omega, e8, by omega, ?_⟩, by simp only [Int.toNat_natCast]; omega⟩
      have : delS (l.take (a + 1)) key = delS (l.take a) key := by
        rw [snoc_at hx]; unfold delS; rw [List.filter_append]; simp [h]
      rw [this]; exact own
  · rw [List.take_of_length_le (by omega)] at own
    exact k w8 A' n' c' e8 own (by omega)
/-- Does the label stand behind those that were taken? -/
def Over (l : List Lab) (m : Nat) (y : Lab) : Prop := ∀ z, 0 < m → (sortS l)[m - 1]? = some z → bs z.1 < bs y.1
set_option maxHeartbeats 1000000 in
theorem rRise_c (hc : Cells w A (LbL.flat l)) (hl : l.length = n) (big : n * 32 ≤ 140737488351232) (hn : (keys l).Nodup)
    (k : ∀ w' A' c', Ext [] w w' → LOwn w' w.heap.size A' n c' (sortS l) → R (.returned (.slice A' n c')) w') : Calls Tryz.prog 57 #[.slice A n c] w R := by
  apply berthref03_Rise_nf
  have hsl := sortS_len l
  refine ⟨fun A' n' c' w' => n' ≤ n ∧ Ext [] w w' ∧ LOwn w' w.heap.size A' n' c' ((sortS l).take n'), fun _ n' _ _ => n - n', ⟨by omega, Ext.refl _ _, LstL.nil _ _ _⟩, ?_⟩
  rintro A' m c' _ w6 ⟨hm, e6, own⟩
  refine sel_dec (fun hlt => ?_) (fun hge => ?_)
  · refine ⟨fun best t w' => ∃ a : Nat, t = a ∧ a ≤ n ∧ Ext [] w6 w' ∧ ((best = -1 ∧ ∀ j y, j < a → l[j]? = some y → ¬ Over l m y) ∨ ∃ (b : Nat) (x : Lab), best = b ∧ l[b]? = some x ∧ Over l m x ∧ ∀ j y, j < a → l[j]? = some y → Over l m y → ¬ bs y.1 < bs x.1), fun _ t _ => n - t.toNat,
      ⟨0, rfl, by omega, Ext.refl _ _, .inl ⟨rfl, fun j y h => by omega⟩⟩, ?_⟩
    rintro best _ _ w12 ⟨a, rfl, ha, e12, hb⟩
    refine sel_dec (fun hlt2 => ?_) (fun hge2 => ?_)
    · obtain ⟨y, hy⟩ : ∃ y, l[a]? = some y := ⟨_, List.getElem?_eq_getElem (by omega)⟩
      obtain ⟨ad, rfl, rd⟩ := lab_cells hc hy
      have xx := e6.trans e12
      have tail : Over l m y → (V.sel (decide (best < 0))
  ((fun best t w' => ∃ a : Nat, t = (a : Int) ∧ a ≤ n ∧ Ext [] w6 w' ∧ ((best = -1 ∧ ∀ j y, j < a → l[j]? = some y → ¬ Over l m y) ∨ ∃ (b : Nat) (x : Lab), best = (b : Int) ∧ l[b]? = some x ∧ Over l m x ∧ ∀ j y, j < a → l[j]? = some y → Over l m y → ¬ bs y.1 < bs x.1)) (a : Int) (IntKind.wrap .i64 ((a : Int) + 1)) (World.drew (World.drew w12)) ∧ (fun _ t _ => n - Int.toNat t) (a : Int) (IntKind.wrap .i64 ((a : Int) + 1)) (World.drew (World.drew w12)) < (fun _ t _ => n - Int.toNat t) best (a : Int) w12)
  (V.when (decide ((0 : Int) ≤ (a : Int) ∧ ((a : Int) : Int) < ((n : Nat) : Int))) (V.ptr (some ad) fun a17 =>
  ∃ s18, World.cell? (World.drew w12) (Addr.add (Addr.add a17 ((Int.toNat (a : Int)) * 2)) 0) = some (Value.string s18) ∧
  V.when (decide ((0 : Int) ≤ best ∧ (best : Int) < ((n : Nat) : Int))) (V.ptr (some ad) fun a19 =>
  ∃ s20, World.cell? (World.drew w12) (Addr.add (Addr.add a19 ((Int.toNat best) * 2)) 0) = some (Value.string s20) ∧
  V.sel (Op.bytesLess (ByteArray.toList s18) (ByteArray.toList s20))
  ((fun best t w' => ∃ a : Nat, t = (a : Int) ∧ a ≤ n ∧ Ext [] w6 w' ∧ ((best = -1 ∧ ∀ j y, j < a → l[j]? = some y → ¬ Over l m y) ∨ ∃ (b : Nat) (x : Lab), best = (b : Int) ∧ l[b]? = some x ∧ Over l m x ∧ ∀ j y, j < a → l[j]? = some y → Over l m y → ¬ bs y.1 < bs x.1)) (a : Int) (IntKind.wrap .i64 ((a : Int) + 1)) (World.drew (World.drew w12)) ∧ (fun _ t _ => n - Int.toNat t) (a : Int) (IntKind.wrap .i64 ((a : Int) + 1)) (World.drew (World.drew w12)) < (fun _ t _ => n - Int.toNat t) best (a : Int) w12)
  ((fun best t w' => ∃ a : Nat, t = (a : Int) ∧ a ≤ n ∧ Ext [] w6 w' ∧ ((best = -1 ∧ ∀ j y, j < a → l[j]? = some y → ¬ Over l m y) ∨ ∃ (b : Nat) (x : Lab), best = (b : Int) ∧ l[b]? = some x ∧ Over l m x ∧ ∀ j y, j < a → l[j]? = some y → Over l m y → ¬ bs y.1 < bs x.1)) best (IntKind.wrap .i64 ((a : Int) + 1)) (World.drew (World.drew w12)) ∧ (fun _ t _ => n - Int.toNat t) best (IntKind.wrap .i64 ((a : Int) + 1)) (World.drew (World.drew w12)) < (fun _ t _ => n - Int.toNat t) best (a : Int) w12))))) := by
        intro hov
        rw [up64 a (by omega)]
        rcases hb with ⟨rfl, hno⟩ | ⟨b, x, rfl, hx, hox, hle⟩
        · refine sel_true rfl ⟨⟨a + 1, rfl, by omega, e12.drew.drew, .inr ⟨a, y, rfl, hy, hov, fun j z hj hz hoz => ?_⟩⟩, by simp only [Int.toNat_natCast]; omega⟩
          by_cases h : j = a
          · subst h; rw [hy] at hz; cases hz; exact List.lt_irrefl _
          · exact absurd hoz (hno j z (by omega) hz)
        · have hbl := (List.getElem?_eq_some_iff.1 hx).1
          obtain ⟨ad', hA, rx⟩ := lab_cells hc hx
          cases hA
          refine sel_dec (fun h => absurd h (by omega)) (fun _ => when_dec ⟨by omega, by omega⟩ ⟨_, (rd _ xx.drew).1, when_dec ⟨by omega, by omega⟩ ⟨_, (rx _ xx.drew).1, sel_intro (fun h => ?_) (fun h => ?_)⟩⟩)
          · rw [less_iff, decide_eq_true_eq] at h
            refine ⟨⟨a + 1, rfl, by omega, e12.drew.drew, .inr ⟨a, y, rfl, hy, hov, fun j z hj hz hoz hlt => ?_⟩⟩, by simp only [Int.toNat_natCast]; omega⟩
            by_cases h2 : j = a
            · subst h2; rw [hy] at hz; cases hz; exact List.lt_irrefl _ hlt
            · exact hle j z (by omega) hz hoz (List.lt_trans hlt h)
          · rw [less_iff, decide_eq_false_iff_not] at h
            refine ⟨⟨a + 1, rfl, by omega, e12.drew.drew, .inr ⟨b, x, rfl, hx, hox, fun j z hj hz hoz => ?_⟩⟩, by simp only [Int.toNat_natCast]; omega⟩
            by_cases h2 : j = a
            · subst h2; rw [hy] at hz; cases hz; exact h
            · exact hle j z (by omega) hz hoz
      refine sel_dec (fun hm0 => ?_) (fun hm0 => tail fun z h0 => by omega)
      obtain ⟨z, hz⟩ : ∃ z, (sortS l)[m - 1]? = some z := ⟨_, List.getElem?_eq_getElem (by omega)⟩
      have hz2 : ((sortS l).take m)[m - 1]? = some z := by rw [List.getElem?_take, if_pos (by omega)]; exact hz
      obtain ⟨od, rfl, ro⟩ := lab_cells own.cells hz2
      have e1 : IntKind.wrap .i64 ((m : Int) - 1) = ((m - 1 : Nat) : Int) := by rw [w64 (by omega) (by omega)]; omega
      rw [e1]
      refine when_dec ⟨by omega, by omega⟩ ⟨_, (rd _ xx).1, when_dec ⟨by omega, by omega⟩ ⟨_, (ro _ e12).1, sel_intro (fun h => ?_) (fun h => tail fun z' h0 hz' => ?_)⟩⟩
      · rw [less_iff, beqBytes, Bool.or_eq_true, decide_eq_true_eq, decide_eq_true_eq] at h
        have hnov : ¬ Over l m y := fun ho => by
          have := ho z (by omega) hz
          rcases h with h | h
          · exact List.lt_irrefl _ (List.lt_trans h this)
          · rw [h] at this; exact List.lt_irrefl _ this
        rw [up64 a (by omega)]
        refine ⟨⟨a + 1, rfl, by omega, e12.drew, ?_⟩, by simp only [Int.toNat_natCast]; omega⟩
        have ext : ∀ j z', j < a + 1 → l[j]? = some z' → Over l m z' → j < a := fun j z' hj hz' ho => by
          by_cases h2 : j = a
          · subst h2; rw [hy] at hz'; cases hz'; exact absurd ho hnov
          · omega
        rcases hb with ⟨rfl, hno⟩ | ⟨b, x, rfl, hx, hox, hle⟩
        · exact .inl ⟨rfl, fun j z' hj hz' ho => hno j z' (ext j z' hj hz' ho) hz' ho⟩
        · exact .inr ⟨b, x, rfl, hx, hox, fun j z' hj hz' ho => hle j z' (ext j z' hj hz' ho) hz' ho⟩
      · rw [hz] at hz'; cases hz'
        rw [less_iff, beqBytes, Bool.or_eq_false_iff, decide_eq_false_iff_not, decide_eq_false_iff_not] at h
        exact lt_of_le_ne (List.not_lt.1 h.1) fun e => h.2 (bs_inj e).symm
    · rcases hb with ⟨rfl, hno⟩ | ⟨b, x, rfl, hx, hox, hle⟩
      · obtain ⟨y, hy, ho⟩ := rise_some hn (m := m) (by omega)
        obtain ⟨j, hj⟩ := List.mem_iff_getElem?.1 hy
        have hjl := (List.getElem?_eq_some_iff.1 hj).1
        exact absurd ho (hno j y (by omega) hj)
      · have hnext : (sortS l)[m]? = some x := rise_next hn (by omega) (List.mem_of_getElem? hx) hox fun y hy ho => by
          obtain ⟨j, hj⟩ := List.mem_iff_getElem?.1 hy
          have hjl := (List.getElem?_eq_some_iff.1 hj).1
          exact hle j y (by omega) hj ho
        have hbl := (List.getElem?_eq_some_iff.1 hx).1
        obtain ⟨ad, rfl, rd⟩ := lab_cells hc hx
        refine sel_dec (fun h => absurd h (by omega)) (fun _ => when_dec ⟨by omega, by omega⟩ ⟨_, _, (rd _ (e6.trans e12)).2.2, fun w28 h28 => ?_⟩)
        obtain ⟨A2, c2, w30, hr, ho, he, _⟩ := more_lab (e6.trans e12) (own.ext0 e12) h28 (by omega)
        refine ⟨_, _, _, _, hr, ⟨by omega, he, by rw [snoc_at hnext]; exact ho⟩, by show n - (m + 1) < n - m; omega⟩
  · have : m = n := by omega
    subst this
    rw [List.take_of_length_le (by omega)] at own
    exact k w6 A' c' e6 own
set_option maxHeartbeats 1000000 in
theorem rMake_c (h : LIn w A n l)
    (k : ∀ w' A' n' c', Ext [] w w' → LOwn w' w.heap.size A' n' c' (makeS l).1 → R (.returned (.tuple #[.slice A' n' c', .string (makeS l).2.1, .int .i64 (makeS l).2.2])) w') : Calls Tryz.prog 36 #[.slice A n c] w R := by
  apply berthref03_Make_nf
  have hl := h.len
  have hbig := h.big
  have bad : ∀ {w' : World} {q : ByteArray} {e : Int}, Ext [] w w' → makeS l = ([], q, e) → R (.returned (.tuple #[.slice none 0 0, .string q, .int .i64 e])) w' := fun {w' q e} ew he => by
    have := k w' none 0 0 ew (by rw [he]; exact LstL.nil _ _ _)
    rw [he] at this; exact this
  refine sel_dec (fun hgt => bad (Ext.refl _ _) (by unfold makeS; rw [if_pos (by omega)])) (fun hle => ?_)
  have hms : makeS l = match makeGo [] l with | none => (sortS l, ByteArray.empty, 0) | some (k, e) => ([], k, e) := by
    unfold makeS
    rw [if_neg (by omega)]
    cases makeGo [] l with
    | none => rfl
    | some p => rfl
  refine ⟨fun t w' => ∃ (a : Nat) (seen : List ByteArray), t = a ∧ a ≤ n ∧ Ext [] w w' ∧ makeGo [] l = makeGo seen (l.drop a) ∧ ∀ q, q ∈ seen ↔ q ∈ keys (l.take a), fun t _ => n - t.toNat,
    ⟨0, [], rfl, by omega, Ext.refl _ _, rfl, fun q => by simp [keys]⟩, ?_⟩
  rintro _ _ w6 ⟨a, seen, rfl, ha, e6, hg, hs⟩
  refine sel_dec (fun hlt => ?_) (fun hge => ?_)
  · obtain ⟨x, hx⟩ : ∃ x, l[a]? = some x := ⟨_, List.getElem?_eq_getElem (by omega)⟩
    obtain ⟨ad, rfl, rd⟩ := lab_cells h.c hx
    rw [drop_at hx, makeGo] at hg
    have no : ∀ {w' : World} {e : Int}, Ext [] w w' → makeGo [] l = some (x.1, e) → R (.returned (.tuple #[.slice none 0 0, .string x.1, .int .i64 e])) w' := fun {w' e} ew he => bad ew (by rw [hms, he])
    refine when_dec ⟨by omega, by omega⟩ ⟨_, (rd w6 e6).1, rIsKey_c x.1 fun w11 e11 => ⟨_, rfl, ?_⟩⟩
    have e11' := e6.trans e11
    refine when_dec ⟨by omega, by omega⟩ ⟨_, (rd w11 e11').2.1, rIsValue_c x.2 ⟨_, rfl, when_dec ⟨by omega, by omega⟩ ⟨_, (rd w11 e11').1, rFind_c (h.ext0 e11').c hl hbig x.1 ⟨_, rfl, ?_⟩⟩⟩⟩
    have rd' := (rd w11 e11').1
    refine sel_intro (fun hk => when_dec ⟨by omega, by omega⟩ ⟨_, rd', no e11'.drew (by rw [hg, if_pos (nf_ hk)])⟩) (fun hk => ?_)
    rw [if_neg (by simp [nt_ hk])] at hg
    refine sel_intro (fun hv => when_dec ⟨by omega, by omega⟩ ⟨_, rd', no e11'.drew (by rw [hg, if_pos (nf_ hv)])⟩) (fun hv => ?_)
    rw [if_neg (by simp [nt_ hv])] at hg
    rcases find_cases l x.1 0 with ⟨h1, h2⟩ | ⟨b, y, h1, h2, h3, h4, h5⟩
    · exact absurd (mem_keys.2 ⟨x, List.mem_of_getElem? hx, rfl⟩) h2
    rw [h1, Nat.zero_add]
    refine sel_dec (fun hba => ?_) (fun hba => ?_)
    · have hm : x.1 ∈ seen := (hs _).2 (by rw [← h3]; exact mem_take h2 (by omega))
      exact when_dec ⟨by omega, by omega⟩ ⟨_, rd', no e11'.drew (by rw [hg, if_pos (List.any_eq_true.2 ⟨_, hm, by simp⟩)])⟩
    · have hm : x.1 ∉ keys (l.take a) := fun hm => h5 (by
        obtain ⟨z, hz, e⟩ := mem_keys.1 hm
        refine mem_keys.2 ⟨z, ?_, e⟩
        rw [show l.take a = (l.take b).take a by rw [List.take_take, Nat.min_eq_left (by omega)]] at hz
        exact List.mem_of_mem_take hz)
      have hns : ¬ (seen.any fun q => decide (q = x.1)) = true := fun hq => by
        obtain ⟨q, hq1, hq2⟩ := List.any_eq_true.1 hq
        rw [decide_eq_true_eq] at hq2
        exact hm ((hs _).1 (by rw [← hq2]; exact hq1))
      rw [if_neg hns] at hg
      rw [up64 a (by omega)]
      refine ⟨⟨a + 1, x.1 :: seen, rfl, by omega, e11', hg, fun q => ?_⟩, by simp only [Int.toNat_natCast]; omega⟩
      rw [snoc_at hx]
      unfold keys at hs ⊢
      rw [List.map_append, List.mem_append, ← hs, List.mem_cons]
      simp [or_comm]
  · rw [List.drop_eq_nil_of_le (by omega)] at hg
    have hg : makeGo [] l = none := hg
    obtain ⟨_, _, hnd, _⟩ := makeGo_none hg
    refine rRise_c (h.ext0 e6).c hl hbig hnd fun w30 A28 c28 e30 o30 => ⟨_, _, _, rfl, ?_⟩
    rw [hg] at hms
    have := k w30 A28 n c28 (e6.trans e30) (by rw [hms]; exact o30.weaken e6.size)
    rw [hms] at this; exact this
theorem rCopy_c (hc : Cells w A (LbL.flat l)) (hl : l.length = n) (big : n * 32 ≤ 140737488351232)
    (k : ∀ w' A' c', Ext [] w w' → LOwn w' w.heap.size A' n c' l → R (.returned (.slice A' n c')) w') : Calls Tryz.prog 69 #[.slice A n c] w R := by
  apply berthref03_Copy_nf
  intro w2 h2
  obtain ⟨A', c', w4, hr, ho, he⟩ := copyL (L := LbL) (P := Tryz.prog) (t := 22) (ty := 22) (e := 40) (xs := l) (m := n) (by exact Tryz.underlying22) infoL rfl (by decide) hc hl h2 (by omega) c
  exact ⟨A', n, c', w4, hr, k w4 A' c' he ho.lst⟩
theorem rSame_c {B : Option Addr} {m c' : Nat} {a b : List Lab} (hA : Cells w A (LbL.flat a)) (hn : a.length = n) (hB : Cells w B (LbL.flat b)) (hm : b.length = m) (big : n * 32 ≤ 140737488351232)
    (k : ∀ w', Ext [] w w' → R (.returned (.bool (decide (a = b)))) w') : Calls Tryz.prog 70 #[.slice A n c, .slice B m c'] w R := by
  apply berthref03_Same_nf
  have no : ∀ w', Ext [] w w' → a ≠ b → R (.returned (.bool false)) w' := fun w' e h => by
    have := k w' e
    rw [decide_eq_false h] at this; exact this
  refine sel_intro (fun h => no w (Ext.refl _ _) fun e => ?_) (fun h => ?_)
  · rw [e] at hn
    have h : (n : Int) ≠ m := by simpa using h
    omega
  have h : (n : Int) = m := by simpa using h
  refine ⟨fun t w' => ∃ i : Nat, t = i ∧ i ≤ n ∧ Ext [] w w' ∧ a.take i = b.take i, fun t _ => n - t.toNat, ⟨0, rfl, by omega, Ext.refl _ _, rfl⟩, ?_⟩
  rintro _ _ w7 ⟨i, rfl, hi, e7, hab⟩
  refine sel_dec (fun hlt => ?_) (fun hge => ?_)
  · obtain ⟨x, hx⟩ : ∃ x, a[i]? = some x := ⟨_, List.getElem?_eq_getElem (by omega)⟩
    obtain ⟨y, hy⟩ : ∃ y, b[i]? = some y := ⟨_, List.getElem?_eq_getElem (by omega)⟩
    obtain ⟨ad, rfl, rd⟩ := lab_cells hA hx
    obtain ⟨bd, rfl, rb⟩ := lab_cells hB hy
    refine when_dec ⟨by omega, by omega⟩ ⟨_, _, (rd w7 e7).2.2, when_dec ⟨by omega, by omega⟩ ⟨_, _, (rb w7 e7).2.2, ?_⟩⟩
    rw [lab_eq x y]
    refine sel_intro (fun hne => no _ e7.drew fun e => ?_) (fun heq => ?_)
    · rw [e, hy] at hx
      cases hx
      simp at hne
    · have heq : x = y := by simpa using heq
      rw [up64 i (by omega)]
      refine ⟨⟨i + 1, rfl, by omega, e7.drew, ?_⟩, by simp only [Int.toNat_natCast]; omega⟩
      rw [snoc_at hx, snoc_at hy, hab, heq]
  · rw [List.take_of_length_le (by omega), List.take_of_length_le (by omega)] at hab
    have := k w7 e7
    rw [decide_eq_true hab] at this; exact this
end
end Go.Proofs.YtcohengppaighaaGreatDoor
