/- Labels, the document's answer: Diff alone. -/
import Derived.Test.YtcohengppaighaaDoorRf1
set_option linter.unusedVariables false
set_option linter.unusedSimpArgs false
namespace Go.Proofs.YtcohengppaighaaDoor
open Go Go.V Go.B

/-- The place of the first label with this key. -/
def findS : List Lab → ByteArray → Nat → Int
  | [], _, _ => -1
  | x :: r, k, i => if x.1 = k then (i : Int) else findS r k (i + 1)
theorem find_cases : ∀ (l : List Lab) (k : ByteArray) (i : Nat), (findS l k i = -1 ∧ k ∉ keys l) ∨ (∃ a x, findS l k i = ((i + a : Nat) : Int) ∧ l[a]? = some x ∧ x.1 = k ∧ getS l k = (x.2, true) ∧ k ∉ keys (l.take a))
  | [], k, i => .inl ⟨rfl, by simp [keys]⟩
  | x :: r, k, i => by
    unfold findS
    by_cases h : x.1 = k
    · rw [if_pos h]
      exact .inr ⟨0, x, rfl, rfl, h, by rw [getS, if_pos h], by simp [keys]⟩
    · rw [if_neg h]
      rcases find_cases r k (i + 1) with ⟨h1, h2⟩ | ⟨a, y, h1, h2, h3, h4, h5⟩
      · refine .inl ⟨h1, ?_⟩
        unfold keys at h2 ⊢
        rw [List.map_cons, List.mem_cons]
        rintro (h0 | h0)
        · exact h h0.symm
        · exact h2 h0
      · refine .inr ⟨a + 1, y, by rw [h1, show i + 1 + a = i + (a + 1) by omega], by simpa using h2, h3, by rw [getS, if_neg h]; exact h4, ?_⟩
        unfold keys at h5 ⊢
        rw [List.take_succ_cons, List.map_cons, List.mem_cons]
        rintro (h0 | h0)
        · exact h h0.symm
        · exact h5 h0
theorem mem_take {l : List Lab} {a j : Nat} {x : Lab} (h : l[j]? = some x) (hj : j < a) : x.1 ∈ keys (l.take a) := by
  refine mem_keys.2 ⟨x, List.mem_of_getElem? (i := j) ?_, rfl⟩
  rw [List.getElem?_take, if_pos hj]; exact h
section
variable {w : World} {A : Option Addr} {n c : Nat} {l : List Lab} {R : Ending → World → Prop}
theorem rFind_c (hc : Cells w A (LbL.flat l)) (hl : l.length = n) (big : n * 32 ≤ 140737488351232) (key : ByteArray)
    (k : R (.returned (.int .i64 (findS l key 0))) w) : Calls Tryd.prog 30 #[.slice A n c, .string key] w R := by
  apply berthref03_Find_nf
  refine ⟨fun t w' => ∃ a : Nat, t = a ∧ a ≤ n ∧ w' = w ∧ findS l key 0 = findS (l.drop a) key a, fun t _ => n - t.toNat, ⟨0, rfl, by omega, rfl, rfl⟩, ?_⟩
  rintro _ _ _ ⟨a, rfl, ha, rfl, hg⟩
  refine sel_dec (fun hlt => ?_) (fun hge => ?_)
  · obtain ⟨x, hx⟩ : ∃ x, l[a]? = some x := ⟨_, List.getElem?_eq_getElem (by omega)⟩
    obtain ⟨ad, rfl, rd⟩ := lab_cells hc hx
    rw [drop_at hx, findS] at hg
    refine when_dec ⟨by omega, by omega⟩ ⟨_, (rd _ (Ext.refl _ _)).1, sel_intro (fun h => ?_) (fun h => ?_)⟩
    · rw [beqBytes, decide_eq_true_eq] at h
      rw [if_pos h] at hg
      rw [hg] at k; exact k
    · rw [beqBytes, decide_eq_false_iff_not] at h
      rw [if_neg h] at hg
      rw [up64 a (by omega)]
      exact ⟨⟨a + 1, rfl, by omega, rfl, hg⟩, by simp only [Int.toNat_natCast]; omega⟩
  · rw [List.drop_eq_nil_of_le (by omega), findS] at hg
    rw [hg] at k; exact k
theorem rGet_c (hc : Cells w A (LbL.flat l)) (hl : l.length = n) (big : n * 32 ≤ 140737488351232) (key : ByteArray)
    (k : R (.returned (.tuple #[.string (getS l key).1, .bool (getS l key).2])) w) : Calls Tryd.prog 50 #[.slice A n c, .string key] w R := by
  apply berthref03_Get_nf
  refine rFind_c hc hl big key ⟨_, rfl, ?_⟩
  rcases find_cases l key 0 with ⟨h1, h2⟩ | ⟨a, x, h1, h2, h3, h4, h5⟩
  · rw [h1]
    rw [getS_not h2] at k
    exact sel_true rfl k
  · rw [h1, Nat.zero_add]
    obtain ⟨ad, rfl, rd⟩ := lab_cells hc h2
    have hal := (List.getElem?_eq_some_iff.1 h2).1
    rw [h4] at k
    exact sel_dec (fun h => absurd h (by omega)) (fun _ => when_dec ⟨by omega, by omega⟩ ⟨_, (rd _ (Ext.refl _ _)).2.1, k⟩)
theorem rCheck_c (h : LIn w A n l)
    (k : ∀ w', Ext [] w w' → R (.returned (.tuple #[.int .i64 (checkS l).1, .int .i64 (checkS l).2])) w') : Calls Tryd.prog 29 #[.slice A n c] w R := by
  apply berthref03_Check_nf
  have hl := h.len
  have hbig := h.big
  refine sel_dec (fun hgt => ?_) (fun hle => ?_)
  · have := k w (Ext.refl _ _)
    unfold checkS at this
    rw [if_pos (by omega)] at this
    exact this
  have hcs : checkS l = checkGo 0 none l := by unfold checkS; rw [if_neg (by omega)]
  refine ⟨fun t w' => ∃ a : Nat, t = a ∧ a ≤ n ∧ Ext [] w w' ∧ checkS l = checkGo a (prevK l a) (l.drop a), fun t _ => n - t.toNat, ⟨0, rfl, by omega, Ext.refl _ _, hcs⟩, ?_⟩
  rintro _ _ w6 ⟨a, rfl, ha, e6, hg⟩
  refine sel_dec (fun hlt => ?_) (fun hge => ?_)
  · obtain ⟨x, hx⟩ : ∃ x, l[a]? = some x := ⟨_, List.getElem?_eq_getElem (by omega)⟩
    obtain ⟨ad, rfl, rd⟩ := lab_cells h.c hx
    rw [drop_at hx, checkGo] at hg
    have bad : ∀ {e : Int} {w' : World}, badAt (prevK l a) x = e → e ≠ 0 → Ext [] w w' → R (.returned (.tuple #[.int .i64 (a : Int), .int .i64 e])) w' := fun {e w'} he hne ew => by
      rw [if_neg (by rw [he]; exact hne), he] at hg
      have := k w' ew
      rw [hg] at this
      exact this
    have good : ∀ {w' : World}, badAt (prevK l a) x = 0 → Ext [] w w' → (fun t w' => ∃ a : Nat, t = (a : Int) ∧ a ≤ n ∧ Ext [] w w' ∧ checkS l = checkGo a (prevK l a) (l.drop a)) (IntKind.wrap .i64 ((a : Int) + 1)) w' ∧ n - (IntKind.wrap .i64 ((a : Int) + 1)).toNat < n - ((a : Int)).toNat := fun {w'} he ew => by
      rw [if_pos he] at hg
      rw [up64 a (by omega)]
      refine ⟨⟨a + 1, rfl, by omega, ew, ?_⟩, by simp only [Int.toNat_natCast]; omega⟩
      rw [hg]
      have : prevK l (a + 1) = some x.1 := by unfold prevK; rw [if_neg (by omega), Nat.add_sub_cancel, hx]; rfl
      rw [this]; rfl
    refine when_dec ⟨by omega, by omega⟩ ⟨_, (rd w6 e6).1, rIsKey_c x.1 fun w11 e11 => ⟨_, rfl, ?_⟩⟩
    have e11' := e6.trans e11
    refine when_dec ⟨by omega, by omega⟩ ⟨_, (rd w11 e11').2.1, rIsValue_c x.2 ⟨_, rfl, sel_intro (fun hk => bad (by unfold badAt; rw [if_pos (nf_ hk)]) (by decide) e11') (fun hk => sel_intro (fun hv => bad (by unfold badAt; rw [if_neg (by simp [nt_ hk]), if_pos (nf_ hv)]) (by decide) e11') (fun hv => ?_))⟩⟩
    have hk := nt_ hk
    have hv := nt_ hv
    refine sel_dec (fun h0 => ?_) (fun h0 => sel_dec (fun h1 => absurd h1 h0) (fun _ => good ?_ e11'.drew.drew))
    · obtain ⟨y, hy⟩ : ∃ y, l[a - 1]? = some y := ⟨_, List.getElem?_eq_getElem (by omega)⟩
      obtain ⟨ad', hA, ry⟩ := lab_cells h.c hy
      cases hA
      have hp : prevK l a = some y.1 := by unfold prevK; rw [if_neg (by omega), hy]; rfl
      have e1 : IntKind.wrap .i64 ((a : Int) - 1) = ((a - 1 : Nat) : Int) := by rw [w64 (by omega) (by omega)]; omega
      rw [e1]
      refine when_dec ⟨by omega, by omega⟩ ⟨_, (rd w11 e11').1, when_dec ⟨by omega, by omega⟩ ⟨_, (ry w11 e11').1, sel_intro (fun h1 => bad ?_ (by decide) e11'.drew) (fun h1 => sel_dec (fun _ => ?_) (fun h2 => absurd h0 h2))⟩⟩
      · rw [beqBytes, decide_eq_true_eq] at h1
        unfold badAt
        rw [hp]
        simp only [hk, hv, if_pos h1, Bool.true_eq_false, if_false]
      rw [beqBytes, decide_eq_false_iff_not] at h1
      refine when_dec ⟨by omega, by omega⟩ ⟨_, (rd _ e11'.drew).1, when_dec ⟨by omega, by omega⟩ ⟨_, (ry _ e11'.drew).1, sel_intro (fun h3 => bad ?_ (by decide) e11'.drew.drew) (fun h3 => good ?_ e11'.drew.drew)⟩⟩
      · rw [less_iff, decide_eq_true_eq] at h3
        unfold badAt
        rw [hp]
        simp only [hk, hv, if_neg h1, if_pos h3, Bool.true_eq_false, if_false]
      · rw [less_iff, decide_eq_false_iff_not] at h3
        unfold badAt
        rw [hp]
        simp only [hk, hv, if_neg h1, if_neg h3, Bool.true_eq_false, if_false]
    · have hp : prevK l a = none := by unfold prevK; rw [if_pos (by omega)]
      unfold badAt
      rw [hp]
      simp [hk, hv]
  · rw [List.drop_eq_nil_of_le (by omega)] at hg
    have := k w6 e6
    rw [hg] at this
    exact this
/-- Does the label stand behind those that were taken? -/
def Over (l : List Lab) (m : Nat) (y : Lab) : Prop := ∀ z, 0 < m → (sortS l)[m - 1]? = some z → bs z.1 < bs y.1
set_option maxHeartbeats 1000000 in
theorem rRise_c (hc : Cells w A (LbL.flat l)) (hl : l.length = n) (big : n * 32 ≤ 140737488351232) (hn : (keys l).Nodup)
    (k : ∀ w' A' c', Ext [] w w' → LOwn w' w.heap.size A' n c' (sortS l) → R (.returned (.slice A' n c')) w') : Calls Tryd.prog 31 #[.slice A n c] w R := by
  apply berthref03_Rise_nf
  have hsl := sortS_len l
  refine ⟨fun A' n' c' w' => n' ≤ n ∧ Ext [] w w' ∧ LOwn w' w.heap.size A' n' c' ((sortS l).take n'), fun _ n' _ _ => n - n', ⟨by omega, Ext.refl _ _, LstL.nil _ _ _⟩, ?_⟩
  rintro A' m c' _ w6 ⟨hm, e6, own⟩
  refine sel_dec (fun hlt => ?_) (fun hge => ?_)
  · refine ⟨fun best t w' => ∃ a : Nat, t = a ∧ a ≤ n ∧ Ext [] w6 w' ∧ ((best = -1 ∧ ∀ j y, j < a → l[j]? = some y → ¬ Over l m y) ∨ ∃ (b : Nat) (x : Lab), best = b ∧ l[b]? = some x ∧ Over l m x ∧ ∀ j y, j < a → l[j]? = some y → Over l m y → ¬ bs y.1 < bs x.1), fun _ t _ => n - t.toNat,
      ⟨0, rfl, by omega, Ext.refl _ _, .inl ⟨rfl, fun j y h => by omega⟩⟩, ?_⟩
    rintro best _ _ w12 ⟨a, rfl, ha, e12, hb⟩
    refine sel_dec (fun hlt2 => ?_) (fun hge2 => ?_)
    · obtain ⟨y, hy⟩ : ∃ y, l[a]? = some y := ⟨_, List.getElem?_eq_getElem (by omega)⟩
      obtain ⟨ad, rfl, rd⟩ := lab_cells hc hy
      have xx := e6.trans e12
      have tail : Over l m y → (V.sel (decide (best < 0))
  ((fun best t w' => ∃ a : Nat, t = (a : Int) ∧ a ≤ n ∧ Ext [] w6 w' ∧ ((best = -1 ∧ ∀ j y, j < a → l[j]? = some y → ¬ Over l m y) ∨ ∃ (b : Nat) (x : Lab), best = (b : Int) ∧ l[b]? = some x ∧ Over l m x ∧ ∀ j y, j < a → l[j]? = some y → Over l m y → ¬ bs y.1 < bs x.1)) (a : Int) (IntKind.wrap .i64 ((a : Int) + 1)) (World.drew (World.drew w12)) ∧ (fun _ t _ => n - Int.toNat t) (a : Int) (IntKind.wrap .i64 ((a : Int) + 1)) (World.drew (World.drew w12)) < (fun _ t _ => n - Int.toNat t) best (a : Int) w12)
  (V.when (decide ((0 : Int) ≤ (a : Int) ∧ ((a : Int) : Int) < ((n : Nat) : Int))) (V.ptr (some ad) fun a17 =>
  ∃ s18, World.cell? (World.drew w12) (Addr.add (Addr.add a17 ((Int.toNat (a : Int)) * 2)) 0) = some (Value.string s18) ∧
  V.when (decide ((0 : Int) ≤ best ∧ (best : Int) < ((n : Nat) : Int))) (V.ptr (some ad) fun a19 =>
  ∃ s20, World.cell? (World.drew w12) (Addr.add (Addr.add a19 ((Int.toNat best) * 2)) 0) = some (Value.string s20) ∧
  V.sel (Op.bytesLess (ByteArray.toList s18) (ByteArray.toList s20))
  ((fun best t w' => ∃ a : Nat, t = (a : Int) ∧ a ≤ n ∧ Ext [] w6 w' ∧ ((best = -1 ∧ ∀ j y, j < a → l[j]? = some y → ¬ Over l m y) ∨ ∃ (b : Nat) (x : Lab), best = (b : Int) ∧ l[b]? = some x ∧ Over l m x ∧ ∀ j y, j < a → l[j]? = some y → Over l m y → ¬ bs y.1 < bs x.1)) (a : Int) (IntKind.wrap .i64 ((a : Int) + 1)) (World.drew (World.drew w12)) ∧ (fun _ t _ => n - Int.toNat t) (a : Int) (IntKind.wrap .i64 ((a : Int) + 1)) (World.drew (World.drew w12)) < (fun _ t _ => n - Int.toNat t) best (a : Int) w12)
  ((fun best t w' => ∃ a : Nat, t = (a : Int) ∧ a ≤ n ∧ Ext [] w6 w' ∧ ((best = -1 ∧ ∀ j y, j < a → l[j]? = some y → ¬ Over l m y) ∨ ∃ (b : Nat) (x : Lab), best = (b : Int) ∧ l[b]? = some x ∧ Over l m x ∧ ∀ j y, j < a → l[j]? = some y → Over l m y → ¬ bs y.1 < bs x.1)) best (IntKind.wrap .i64 ((a : Int) + 1)) (World.drew (World.drew w12)) ∧ (fun _ t _ => n - Int.toNat t) best (IntKind.wrap .i64 ((a : Int) + 1)) (World.drew (World.drew w12)) < (fun _ t _ => n - Int.toNat t) best (a : Int) w12))))) := by
        intro hov
        rw [up64 a (by omega)]
        rcases hb with ⟨rfl, hno⟩ | ⟨b, x, rfl, hx, hox, hle⟩
        · refine sel_true rfl ⟨⟨a + 1, rfl, by omega, e12.drew.drew, .inr ⟨a, y, rfl, hy, hov, fun j z hj hz hoz => ?_⟩⟩, by simp only [Int.toNat_natCast]; omega⟩
          by_cases h : j = a
          · subst h; rw [hy] at hz; cases hz; exact List.lt_irrefl _
          · exact absurd hoz (hno j z (by omega) hz)
        · have hbl := (List.getElem?_eq_some_iff.1 hx).1
          obtain ⟨ad', hA, rx⟩ := lab_cells hc hx
          cases hA
          refine sel_dec (fun h => absurd h (by omega)) (fun _ => when_dec ⟨by omega, by omega⟩ ⟨_, (rd _ xx.drew).1, when_dec ⟨by omega, by omega⟩ ⟨_, (rx _ xx.drew).1, sel_intro (fun h => ?_) (fun h => ?_)⟩⟩)
          · rw [less_iff, decide_eq_true_eq] at h
            refine ⟨⟨a + 1, rfl, by omega, e12.drew.drew, .inr ⟨a, y, rfl, hy, hov, fun j z hj hz hoz hlt => ?_⟩⟩, by simp only [Int.toNat_natCast]; omega⟩
            by_cases h2 : j = a
            · subst h2; rw [hy] at hz; cases hz; exact List.lt_irrefl _ hlt
            · exact hle j z (by omega) hz hoz (List.lt_trans hlt h)
          · rw [less_iff, decide_eq_false_iff_not] at h
            refine ⟨⟨a + 1, rfl, by omega, e12.drew.drew, .inr ⟨b, x, rfl, hx, hox, fun j z hj hz hoz => ?_⟩⟩, by simp only [Int.toNat_natCast]; omega⟩
            by_cases h2 : j = a
            · subst h2; rw [hy] at hz; cases hz; exact h
            · exact hle j z (by omega) hz hoz
      refine sel_dec (fun hm0 => ?_) (fun hm0 => tail fun z h0 => by omega)
      obtain ⟨z, hz⟩ : ∃ z, (sortS l)[m - 1]? = some z := ⟨_, List.getElem?_eq_getElem (by omega)⟩
      have hz2 : ((sortS l).take m)[m - 1]? = some z := by rw [List.getElem?_take, if_pos (by omega)]; exact hz
      obtain ⟨od, rfl, ro⟩ := lab_cells own.cells hz2
      have e1 : IntKind.wrap .i64 ((m : Int) - 1) = ((m - 1 : Nat) : Int) := by rw [w64 (by omega) (by omega)]; omega
      rw [e1]
      refine when_dec ⟨by omega, by omega⟩ ⟨_, (rd _ xx).1, when_dec ⟨by omega, by omega⟩ ⟨_, (ro _ e12).1, sel_intro (fun h => ?_) (fun h => tail fun z' h0 hz' => ?_)⟩⟩
      · rw [less_iff, beqBytes, Bool.or_eq_true, decide_eq_true_eq, decide_eq_true_eq] at h
        have hnov : ¬ Over l m y := fun ho => by
          have := ho z (by omega) hz
          rcases h with h | h
          · exact List.lt_irrefl _ (List.lt_trans h this)
          · rw [h] at this; exact List.lt_irrefl _ this
        rw [up64 a (by omega)]
        refine ⟨⟨a + 1, rfl, by omega, e12.drew, ?_⟩, by simp only [Int.toNat_natCast]; omega⟩
        have ext : ∀ j z', j < a + 1 → l[j]? = some z' → Over l m z' → j < a := fun j z' hj hz' ho => by
          by_cases h2 : j = a
          · subst h2; rw [hy] at hz'; cases hz'; exact absurd ho hnov
          · omega
        rcases hb with ⟨rfl, hno⟩ | ⟨b, x, rfl, hx, hox, hle⟩
        · exact .inl ⟨rfl, fun j z' hj hz' ho => hno j z' (ext j z' hj hz' ho) hz' ho⟩
        · exact .inr ⟨b, x, rfl, hx, hox, fun j z' hj hz' ho => hle j z' (ext j z' hj hz' ho) hz' ho⟩
      · rw [hz] at hz'; cases hz'
        rw [less_iff, beqBytes, Bool.or_eq_false_iff, decide_eq_false_iff_not, decide_eq_false_iff_not] at h
        exact lt_of_le_ne (List.not_lt.1 h.1) fun e => h.2 (bs_inj e).symm
    · rcases hb with ⟨rfl, hno⟩ | ⟨b, x, rfl, hx, hox, hle⟩
      · obtain ⟨y, hy, ho⟩ := rise_some hn (m := m) (by omega)
        obtain ⟨j, hj⟩ := List.mem_iff_getElem?.1 hy
        have hjl := (List.getElem?_eq_some_iff.1 hj).1
        exact absurd ho (hno j y (by omega) hj)
      · have hnext : (sortS l)[m]? = some x := rise_next hn (by omega) (List.mem_of_getElem? hx) hox fun y hy ho => by
          obtain ⟨j, hj⟩ := List.mem_iff_getElem?.1 hy
          have hjl := (List.getElem?_eq_some_iff.1 hj).1
          exact hle j y (by omega) hj ho
        have hbl := (List.getElem?_eq_some_iff.1 hx).1
        obtain ⟨ad, rfl, rd⟩ := lab_cells hc hx
        refine sel_dec (fun h => absurd h (by omega)) (fun _ => when_dec ⟨by omega, by omega⟩ ⟨_, _, (rd _ (e6.trans e12)).2.2, fun w28 h28 => ?_⟩)
        obtain ⟨A2, c2, w30, hr, ho, he, _⟩ := more_lab (e6.trans e12) (own.ext0 e12) h28 (by omega)
        refine ⟨_, _, _, _, hr, ⟨by omega, he, by rw [snoc_at hnext]; exact ho⟩, by show n - (m + 1) < n - m; omega⟩
  · have : m = n := by omega
    subst this
    rw [List.take_of_length_le (by omega)] at own
    exact k w6 A' c' e6 own
end
theorem find_get (l : List Lab) (k : ByteArray) : ((getS l k).2 = true ∧ 0 ≤ findS l k 0) ∨ ((getS l k).2 = false ∧ findS l k 0 < 0) := by
  rcases find_cases l k 0 with ⟨h1, h2⟩ | ⟨a, x, h1, h2, h3, h4, h5⟩
  · exact .inr ⟨by rw [getS_not h2], by rw [h1]; omega⟩
  · exact .inl ⟨by rw [h4], by rw [h1]; omega⟩
section
variable {w : World} {R : Ending → World → Prop} {A B : Option Addr} {n m c c' : Nat} {was now l : List Lab}
theorem rone_c (h1 : Cells w A (LbL.flat was)) (hl1 : was.length = n) (g1 : n * 32 ≤ 140737488351232) (h2 : Cells w B (LbL.flat now)) (hl2 : now.length = m) (g2 : m * 32 ≤ 140737488351232) (key : ByteArray)
    (k : ∀ w', Ext [] w w' → R (.returned (.agg ⟨dcells (dOf was now key)⟩)) w') : Calls Tryd.prog 32 #[.slice A n c, .slice B m c', .string key] w R := by
  apply berthref03_one_nf
  intro w4 h4
  obtain ⟨b4, x4, z4⟩ := box_new h4
  refine rGet_c (h1.ext0 x4) hl1 g1 key ⟨_, _, rfl, rGet_c (h2.ext0 x4) hl2 g2 key ⟨_, _, rfl, ?_⟩⟩
  obtain ⟨w13, hr, b13, x13⟩ := storeW (P := Tryd.prog) (t := 35) (n := 5) (by kernel_rfl) b4 (vs := dcells (dOf was now key)) rfl rfl (DLL.one _)
  exact ⟨w13, hr, _, _, _, _, _, cadd0 b13, k w13 (x4.trans' x13 fun b hb => .inr (by simp at hb; omega))⟩
theorem keep_iff (d : DL) : dKeep d = (!(d.had == d.has) || !decide (d.old = d.new)) := by
  unfold dKeep
  rw [Bool.eq_iff_iff]
  simp
set_option maxHeartbeats 2000000 in
theorem rDiff_c (h1 : LIn w A n was) (h2 : LIn w B m now)
    (k : ∀ w' D q d, Ext [] w w' → DOwn w' w.heap.size D q d (diffS was now) → q ≤ 64 → R (.returned (.slice D q d)) w') : Calls Tryd.prog 10 #[.slice A n c, .slice B m c'] w R := by
  apply berthref03_Diff_nf
  refine rCheck_c h1 fun w6 e6 => ⟨_, _, rfl, rCheck_c (h2.ext0 e6) fun w10 e10 => ⟨_, _, rfl, ?_⟩⟩
  have e10' := e6.trans e10
  have empty : diffS was now = [] → R (.returned (.slice none 0 0)) w10 := fun h => k w10 none 0 0 e10' (by rw [h]; exact LstL.nil _ _ _) (by omega)
  refine sel_intro (fun hc1 => empty ?_) (fun hc1 => sel_intro (fun hc2 => empty ?_) (fun hc2 => ?_))
  · have hc1 : (checkS was).2 ≠ 0 := by simpa using hc1
    unfold diffS; rw [if_neg (fun h => hc1 h.1)]
  · have hc2 : (checkS now).2 ≠ 0 := by simpa using hc2
    unfold diffS; rw [if_neg (fun h => hc2 h.2)]
  have hc1 : (checkS was).2 = 0 := by simpa using hc1
  have hc2 : (checkS now).2 = 0 := by simpa using hc2
  have o1 := checkS_zero.1 hc1
  have o2 := checkS_zero.1 hc2
  have g1 := o1.len
  have g2 := o2.len
  have l1 := h1.len
  have l2 := h2.len
  refine ⟨fun A' n' c' t w' => ∃ a : Nat, t = a ∧ a ≤ n ∧ Ext [] w w' ∧ n' = a ∧ LOwn w' w.heap.size A' n' c' (was.take a), fun _ _ _ t _ => n - t.toNat, ⟨0, rfl, by omega, e10', rfl, LstL.nil _ _ _⟩, ?_⟩
  rintro A1 n1 c1 _ _ w16 ⟨a, rfl, ha, e16, hna, own⟩
  subst hna
  refine sel_dec (fun hlt => ?_) (fun hge => ?_)
  · obtain ⟨x, hx⟩ : ∃ x, was[n1]? = some x := ⟨_, List.getElem?_eq_getElem (by omega)⟩
    obtain ⟨ad, rfl, rd⟩ := lab_cells h1.c hx
    refine when_dec ⟨by omega, by omega⟩ ⟨_, _, (rd w16 e16).2.2, fun w20 h20 => ?_⟩
    obtain ⟨A2, c2, w22, hr, ho, he, _⟩ := more_lab e16 own h20 (by omega)
    refine ⟨_, _, _, _, hr, ?_⟩
    rw [up64 n1 (by omega)]
    exact ⟨⟨n1 + 1, rfl, by omega, he, rfl, by rw [snoc_at hx]; exact ho⟩, by simp only [Int.toNat_natCast]; omega⟩
  have hn1 : n1 = n := by omega
  subst hn1
  rw [List.take_of_length_le (by omega)] at own
  refine ⟨fun A' n' c' t w' => ∃ a : Nat, t = a ∧ a ≤ m ∧ Ext [] w w' ∧ n' ≤ n1 + a ∧ LOwn w' w.heap.size A' n' c' (was ++ (now.take a).filter fun x => !(getS was x.1).2), fun _ _ _ t _ => m - t.toNat, ⟨0, rfl, by omega, e16, by omega, by simpa using own⟩, ?_⟩
  rintro A2 n2 c2 _ _ w28 ⟨a, rfl, ha, e28, hn2, own2⟩
  refine sel_dec (fun hlt => ?_) (fun hge2 => ?_)
  · obtain ⟨x, hx⟩ : ∃ x, now[a]? = some x := ⟨_, List.getElem?_eq_getElem (by omega)⟩
    obtain ⟨ad, rfl, rd⟩ := lab_cells h2.c hx
    refine when_dec ⟨by omega, by omega⟩ ⟨_, (rd w28 e28).1, rFind_c (h1.ext0 e28).c l1 h1.big x.1 ⟨_, rfl, ?_⟩⟩
    rw [up64 a (by omega)]
    have hstep : was ++ (now.take (a + 1)).filter (fun x => !(getS was x.1).2) = (was ++ (now.take a).filter fun x => !(getS was x.1).2) ++ (if (getS was x.1).2 = false then [x] else []) := by
      rw [snoc_at hx, List.filter_append, List.append_assoc]
      congr 2
      cases hq : (getS was x.1).2 <;> simp [hq]
    refine sel_dec (fun hf => when_dec ⟨by omega, by omega⟩ ⟨_, _, (rd w28 e28).2.2, fun w37 h37 => ?_⟩) (fun hf => ?_)
    · have hg : (getS was x.1).2 = false := by
        rcases find_get was x.1 with h | h
        · exact absurd h.2 (by omega)
        · exact h.1
      obtain ⟨A3, c3, w39, hr, ho, he, _⟩ := more_lab e28 own2 h37 (by omega)
      refine ⟨_, _, _, _, hr, ⟨a + 1, rfl, by omega, he, by omega, ?_⟩, by simp only [Int.toNat_natCast]; omega⟩
      rw [hstep, if_pos hg]; exact ho
    · have hg : (getS was x.1).2 = true := by
        rcases find_get was x.1 with h | h
        · exact h.1
        · exact absurd h.2 hf
      refine ⟨⟨a + 1, rfl, by omega, e28, by omega, ?_⟩, by simp only [Int.toNat_natCast]; omega⟩
      rw [hstep, if_neg (by simp [hg]), List.append_nil]; exact own2
  rw [List.take_of_length_le (by omega)] at own2
  have hu : (was ++ now.filter fun x => !(getS was x.1).2) = unionS was now := rfl
  rw [hu] at own2
  refine rRise_c own2.cells own2.len (by omega) (union_nodup o1.ris o2.ris) fun w42 A40 c40 e42 o42 => ⟨_, _, _, rfl, ?_⟩
  rw [mergeU_sort o1.ris o2.ris] at o42
  have hml := o42.len
  have e42' := e28.trans e42
  have hd : diffS was now = ((mergeU was now).map fun x => dOf was now x.1).filter dKeep := by
    unfold diffS; rw [if_pos ⟨hc1, hc2⟩, mergeD_eq o1.ris o2.ris]
  refine ⟨fun A' n' c' t w' => ∃ a : Nat, t = a ∧ a ≤ n2 ∧ Ext [] w42 w' ∧ n' ≤ a ∧ DOwn w' w42.heap.size A' n' c' ((((mergeU was now).take a).map fun x => dOf was now x.1).filter dKeep), fun _ _ _ t _ => n2 - t.toNat, ⟨0, rfl, by omega, Ext.refl _ _, by omega, LstL.nil _ _ _⟩, ?_⟩
  rintro A4 n4 c4 _ _ w48 ⟨a, rfl, ha, e48, hn4, own4⟩
  have e48' := e42'.trans e48
  refine sel_dec (fun hlt => ?_) (fun hge4 => ?_)
  · obtain ⟨x, hx⟩ : ∃ x, (mergeU was now)[a]? = some x := ⟨_, List.getElem?_eq_getElem (by omega)⟩
    obtain ⟨ad, rfl, rd⟩ := lab_cells o42.cells hx
    refine when_dec ⟨by omega, by omega⟩ ⟨_, (rd w48 e48).1, rone_c (h1.ext0 e48').c l1 h1.big (h2.ext0 e48').c l2 h2.big x.1 fun w57 e57 => ⟨_, _, _, _, _, rfl, fun w58 h58 => ?_⟩⟩
    obtain ⟨b58, x58, z58⟩ := box_new h58
    generalize hdd : dOf was now x.1 = d
    obtain ⟨w59, hr, b59, x59⟩ := storeW (P := Tryd.prog) (t := 35) (n := 5) (by kernel_rfl) b58 (vs := dcells d) rfl rfl (DLL.one d)
    have e59 : Ext [] w48 w59 := (e57.trans x58).trans' x59 fun b hb => .inr (by have := e57.size; simp at hb; omega)
    have hstep : (((mergeU was now).take (a + 1)).map fun x => dOf was now x.1).filter dKeep = ((((mergeU was now).take a).map fun x => dOf was now x.1).filter dKeep) ++ (if dKeep d = true then [d] else []) := by
      have hone : List.filter dKeep [d] = if dKeep d = true then [d] else [] := by cases hq : dKeep d <;> simp [hq]
      rw [snoc_at hx, List.map_append, List.filter_append, List.map_cons, List.map_nil, hdd, hone]
    rw [up64 a (by omega)]
    have yes : dKeep d = true → ∀ w67, w67 = (World.alloc w59 (.cells #[(Value.string d.key), (Value.string d.old), (Value.string d.new), (Value.bool d.had), (Value.bool d.has)] 35)) →
        ∃ A68, ∃ A68l, ∃ A68c, ∃ w69, Sem.run Tryd.prog (Builtin.append_ #[24, 24] 24 #[(Value.slice A4 n4 c4), (Value.slice (some ⟨Array.size (World.heap w59), 0, none⟩) 1 1)]) w67 = .ok (Value.slice A68 A68l A68c) w69 ∧
        (∃ b : Nat, ((a + 1 : Nat) : Int) = (b : Int) ∧ b ≤ n2 ∧ Ext [] w42 w69 ∧ A68l ≤ b ∧ DOwn w69 w42.heap.size A68 A68l A68c ((((mergeU was now).take b).map fun x => dOf was now x.1).filter dKeep)) ∧ n2 - Int.toNat ((a + 1 : Nat) : Int) < n2 - Int.toNat (a : Int) := fun hk w67 h67 => by
      obtain ⟨A', c', w2, hr2, ho, he, hat⟩ := add_dl (d := d) (e48.trans e59) (own4.ext0 e59) h67 (by omega)
      exact ⟨_, _, _, _, hr2, ⟨a + 1, rfl, by omega, he, by omega, by rw [hstep, if_pos hk]; exact ho⟩, by simp only [Int.toNat_natCast]; omega⟩
    have no : dKeep d = false → (∃ b : Nat, ((a + 1 : Nat) : Int) = (b : Int) ∧ b ≤ n2 ∧ Ext [] w42 w59 ∧ n4 ≤ b ∧ DOwn w59 w42.heap.size A4 n4 c4 ((((mergeU was now).take b).map fun x => dOf was now x.1).filter dKeep)) ∧ n2 - Int.toNat ((a + 1 : Nat) : Int) < n2 - Int.toNat (a : Int) := fun hk =>
      ⟨⟨a + 1, rfl, by omega, e48.trans e59, by omega, by rw [hstep, if_neg (by simp [hk]), List.append_nil]; exact own4.ext0 e59⟩, by simp only [Int.toNat_natCast]; omega⟩
    have hki := keep_iff d
    refine ⟨w59, hr, _, cadd b59 rfl, _, cadd b59 rfl, sel_intro (fun hs => ⟨_, _, _, _, _, cadd0 b59, yes (by rw [hki, hs]; rfl)⟩) (fun hs => ⟨_, cadd b59 rfl, _, cadd b59 rfl, ?_⟩)⟩
    rw [beqBytes]
    refine sel_intro (fun hs2 => ⟨_, _, _, _, _, cadd0 b59, yes (by rw [hki, hs, hs2]; rfl)⟩) (fun hs2 => no (by rw [hki, hs, hs2]; rfl))
  · rw [List.take_of_length_le (by omega), ← hd] at own4
    exact k w48 A4 n4 c4 e48' (own4.weaken e42'.size) (by omega)
end
end Go.Proofs.YtcohengppaighaaDoor
