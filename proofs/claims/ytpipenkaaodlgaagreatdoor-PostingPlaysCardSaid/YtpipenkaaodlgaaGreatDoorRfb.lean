/- Labels, the document's answer: Find, Check, Rise, Make, Get, without, Same, Copy. -/
import Derived.Test.YtpipenkaaodlgaaGreatDoorRfa
import Derived.Test.YtpipenkaaodlgaaGreatDoorLp4
set_option linter.unusedVariables false
set_option linter.unusedSimpArgs false
namespace Go.Proofs.YtpipenkaaodlgaaGreatDoor
open Go Go.V Go.B

theorem lab_cells {w : World} {A : Option Addr} {l : List Lab} (hc : Cells w A (LbL.flat l)) {a : Nat} {x : Lab} (hx : l[a]? = some x) : ∃ ad, A = some ad ∧ ∀ w', Ext [] w w' →
    w'.cell? (Addr.add (Addr.add ad ((Int.toNat (a : Int)) * 2)) 0) = some (.string x.1) ∧ w'.cell? (Addr.add (Addr.add ad ((Int.toNat (a : Int)) * 2)) 1) = some (.string x.2) ∧ V.cellsC (fun a_ x_ => World.cell? w' a_ = some x_) (Addr.add ad ((Int.toNat (a : Int)) * 2)) [.string x.1, .string x.2] := by
  obtain ⟨ad, rfl, rd⟩ := LbL.read hc hx
  refine ⟨ad, rfl, fun w' e => ?_⟩
  obtain ⟨ad', e', rd'⟩ := LbL.read (hc.ext0 e) hx
  cases e'
  rw [Int.toNat_natCast]
  exact ⟨rd' 0 _ rfl, rd' 1 _ rfl, rd'⟩
theorem less_iff (a b : ByteArray) : Op.bytesLess (ByteArray.toList a) (ByteArray.toList b) = decide (bs a < bs b) := by
  rw [ByteArray.toList_eq, ByteArray.toList_eq, bytesLess_eq]; rfl
theorem drop_at {α : Type} {l : List α} {a : Nat} {x : α} (h : l[a]? = some x) : l.drop a = x :: l.drop (a + 1) := by
  obtain ⟨h1, h2⟩ := List.getElem?_eq_some_iff.1 h
  rw [List.drop_eq_getElem_cons h1, h2]
theorem getS_not {l : List Lab} {k : ByteArray} (h : k ∉ keys l) : getS l k = (ByteArray.empty, false) := getS_none fun x hx e => h (mem_keys.2 ⟨x, hx, e⟩)
/-- The place of the first label with this key. -/
def findS : List Lab → ByteArray → Nat → Int
  | [], _, _ => -1
  | x :: r, k, i => if x.1 = k then (i : Int) else findS r k (i + 1)
theorem find_cases : ∀ (l : List Lab) (k : ByteArray) (i : Nat), (findS l k i = -1 ∧ k ∉ keys l) ∨ (∃ a x, findS l k i = ((i + a : Nat) : Int) ∧ l[a]? = some x ∧ x.1 = k ∧ getS l k = (x.2, true) ∧ k ∉ keys (l.take a))
  | [], k, i => .inl ⟨rfl, by simp [keys]⟩
  | x :: r, k, i => by
    unfold findS
    by_cases h : x.1 = k
    · rw [if_pos h]
      exact .inr ⟨0, x, rfl, rfl, h, by rw [getS, if_pos h], by simp [keys]⟩
    · rw [if_neg h]
      rcases find_cases r k (i + 1) with ⟨h1, h2⟩ | ⟨a, y, h1, h2, h3, h4, h5⟩
      · refine .inl ⟨h1, ?_⟩
        unfold keys at h2 ⊢
        rw [List.map_cons, List.mem_cons]
        rintro (h0 | h0)
        · exact h h0.symm
        · exact h2 h0
      · refine .inr ⟨a + 1, y, by rw [h1, show i + 1 + a = i + (a + 1) by omega], by simpa using h2, h3, by rw [getS, if_neg h]; exact h4, ?_⟩
        unfold keys at h5 ⊢
        rw [List.take_succ_cons, List.map_cons, List.mem_cons]
        rintro (h0 | h0)
        · exact h h0.symm
        · exact h5 h0
theorem mem_take {l : List Lab} {a j : Nat} {x : Lab} (h : l[j]? = some x) (hj : j < a) : x.1 ∈ keys (l.take a) := by
  refine mem_keys.2 ⟨x, List.mem_of_getElem? (i := j) ?_, rfl⟩
  rw [List.getElem?_take, if_pos hj]; exact h
section
variable {w : World} {A : Option Addr} {n c : Nat} {l : List Lab} {R : Ending → World → Prop}
theorem rFind_c (hc : Cells w A (LbL.flat l)) (hl : l.length = n) (big : n * 32 ≤ 140737488351232) (key : ByteArray)
    (k : R (.returned (.int .i64 (findS l key 0))) w) : Calls Tryz.prog 111 #[.slice A n c, .string key] w R := by
  apply berthref03_Find_nf
  refine ⟨fun t w' => ∃ a : Nat, t = a ∧ a ≤ n ∧ w' = w ∧ findS l key 0 = findS (l.drop a) key a, fun t _ => n - t.toNat, ⟨0, rfl, by omega, rfl, rfl⟩, ?_⟩
  rintro _ _ _ ⟨a, rfl, ha, rfl, hg⟩
  refine sel_dec (fun hlt => ?_) (fun hge => ?_)
  · obtain ⟨x, hx⟩ : ∃ x, l[a]? = some x := ⟨_, List.getElem?_eq_getElem (by omega)⟩
    obtain ⟨ad, rfl, rd⟩ := lab_cells hc hx
    rw [drop_at hx, findS] at hg
    refine when_dec ⟨by omega, by omega⟩ ⟨_, (rd _ (Ext.refl _ _)).1, sel_intro (fun h => ?_) (fun h => ?_)⟩
    · rw [beqBytes, decide_eq_true_eq] at h
      rw [if_pos h] at hg
      rw [hg] at k; exact k
    · rw [beqBytes, decide_eq_false_iff_not] at h
      rw [if_neg h] at hg
      rw [up64 a (by omega)]
      exact ⟨⟨a + 1, rfl, by omega, rfl, hg⟩, by simp only [Int.toNat_natCast]; omega⟩
  · rw [List.drop_eq_nil_of_le (by omega), findS] at hg
    rw [hg] at k; exact k
theorem rGet_c (hc : Cells w A (LbL.flat l)) (hl : l.length = n) (big : n * 32 ≤ 140737488351232) (key : ByteArray)
    (k : R (.returned (.tuple #[.string (getS l key).1, .bool (getS l key).2])) w) : Calls Tryz.prog 96 #[.slice A n c, .string key] w R := by
  apply berthref03_Get_nf
  refine rFind_c hc hl big key ⟨_, rfl, ?_⟩
  rcases find_cases l key 0 with ⟨h1, h2⟩ | ⟨a, x, h1, h2, h3, h4, h5⟩
  · rw [h1]
    rw [getS_not h2] at k
    exact sel_true rfl k
  · rw [h1, Nat.zero_add]
    obtain ⟨ad, rfl, rd⟩ := lab_cells hc h2
    have hal := (List.getElem?_eq_some_iff.1 h2).1
    rw [h4] at k
    exact sel_dec (fun h => absurd h (by omega)) (fun _ => when_dec ⟨by omega, by omega⟩ ⟨_, (rd _ (Ext.refl _ _)).2.1, k⟩)
theorem rCheck_c (h : LIn w A n l)
    (k : ∀ w', Ext [] w w' → R (.returned (.tuple #[.int .i64 (checkS l).1, .int .i64 (checkS l).2])) w') : Calls Tryz.prog 33 #[.slice A n c] w R := by
  apply berthref03_Check_nf
  have hl := h.len
  have hbig := h.big
  refine sel_dec (fun hgt => ?_) (fun hle => ?_)
  · have := k w (Ext.refl _ _)
    unfold checkS at this
    rw [if_pos (by omega)] at this
    exact this
  have hcs : checkS l = checkGo 0 none l := by unfold checkS; rw [if_neg (by omega)]
  refine ⟨fun t w' => ∃ a : Nat, t = a ∧ a ≤ n ∧ Ext [] w w' ∧ checkS l = checkGo a (prevK l a) (l.drop a), fun t _ => n - t.toNat, ⟨0, rfl, by omega, Ext.refl _ _, hcs⟩, ?_⟩
  rintro _ _ w6 ⟨a, rfl, ha, e6, hg⟩
  refine sel_dec (fun hlt => ?_) (fun hge => ?_)
  · obtain ⟨x, hx⟩ : ∃ x, l[a]? = some x := ⟨_, List.getElem?_eq_getElem (by omega)⟩
    obtain ⟨ad, rfl, rd⟩ := lab_cells h.c hx
    rw [drop_at hx, checkGo] at hg
    have bad : ∀ {e : Int} {w' : World}, badAt (prevK l a) x = e → e ≠ 0 → Ext [] w w' → R (.returned (.tuple #[.int .i64 (a : Int), .int .i64 e])) w' := fun {e w'} he hne ew => by
      rw [if_neg (by rw [he]; exact hne), he] at hg
      have := k w' ew
      rw [hg] at this
      exact this
    have good : ∀ {w' : World}, badAt (prevK l a) x = 0 → Ext [] w w' → (fun t w' => ∃ a : Nat, t = (a : Int) ∧ a ≤ n ∧ Ext [] w w' ∧ checkS l = checkGo a (prevK l a) (l.drop a)) (IntKind.wrap .i64 ((a : Int) + 1)) w' ∧ n - (IntKind.wrap .i64 ((a : Int) + 1)).toNat < n - ((a : Int)).toNat := fun {w'} he ew => by
      rw [if_pos he] at hg
      rw [up64 a (by omega)]
      refine ⟨⟨a + 1, rfl, by omega, ew, ?_⟩, by simp only [Int.toNat_natCast]; omega⟩
      rw [hg]
      have : prevK l (a + 1) = some x.1 := by unfold prevK; rw [if_neg (by omega), Nat.add_sub_cancel, hx]; rfl
      rw [this]; rfl
    refine when_dec ⟨by omega, by omega⟩ ⟨_, (rd w6 e6).1, rIsKey_c x.1 fun w11 e11 => ⟨_, rfl, ?_⟩⟩
    have e11' := e6.trans e11
    refine when_dec ⟨by omega, by omega⟩ ⟨_, (rd w11 e11').2.1, rIsValue_c x.2 ⟨_, rfl, sel_intro (fun hk => bad (by unfold badAt; rw [if_pos (nf_ hk)]) (by decide) e11') (fun hk => sel_intro (fun hv => bad (by unfold badAt; rw [if_neg (by simp [nt_ hk]), if_pos (nf_ hv)]) (by decide) e11') (fun hv => ?_))⟩⟩
    have hk := nt_ hk
    have hv := nt_ hv
    refine sel_dec (fun h0 => ?_) (fun h0 => sel_dec (fun h1 => absurd h1 h0) (fun _ => good ?_ e11'.drew.drew))
    · obtain ⟨y, hy⟩ : ∃ y, l[a - 1]? = some y := ⟨_, List.getElem?_eq_getElem (by omega)⟩
      obtain ⟨ad', hA, ry⟩ := lab_cells h.c hy
      cases hA
      have hp : prevK l a = some y.1 := by unfold prevK; rw [if_neg (by omega), hy]; rfl
      have e1 : IntKind.wrap .i64 ((a : Int) - 1) = ((a - 1 : Nat) : Int) := by rw [w64 (by omega) (by omega)]; omega
      rw [e1]
      refine when_dec ⟨by omega, by omega⟩ ⟨_, (rd w11 e11').1, when_dec ⟨by omega, by omega⟩ ⟨_, (ry w11 e11').1, sel_intro (fun h1 => bad ?_ (by decide) e11'.drew) (fun h1 => sel_dec (fun _ => ?_) (fun h2 => absurd h0 h2))⟩⟩
      · rw [beqBytes, decide_eq_true_eq] at h1
        unfold badAt
        rw [hp]
        simp only [hk, hv, if_pos h1, Bool.true_eq_false, if_false]
      rw [beqBytes, decide_eq_false_iff_not] at h1
      refine when_dec ⟨by omega, by omega⟩ ⟨_, (rd _ e11'.drew).1, when_dec ⟨by omega, by omega⟩ ⟨_, (ry _ e11'.drew).1, sel_intro (fun h3 => bad ?_ (by decide) e11'.drew.drew) (fun h3 => good ?_ e11'.drew.drew)⟩⟩
      · rw [less_iff, decide_eq_true_eq] at h3
        unfold badAt
        rw [hp]
        simp only [hk, hv, if_neg h1, if_pos h3, Bool.true_eq_false, if_false]
      · rw [less_iff, decide_eq_false_iff_not] at h3
        unfold badAt
        rw [hp]
        simp only [hk, hv, if_neg h1, if_neg h3, Bool.true_eq_false, if_false]
    · have hp : prevK l a = none := by unfold prevK; rw [if_pos (by omega)]
      unfold badAt
      rw [hp]
      simp [hk, hv]
  · rw [List.drop_eq_nil_of_le (by omega)] at hg
    have := k w6 e6
    rw [hg] at this
    exact this
end
end Go.Proofs.YtpipenkaaodlgaaGreatDoor
