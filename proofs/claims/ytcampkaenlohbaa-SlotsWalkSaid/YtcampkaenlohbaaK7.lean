/- Texts compared; the document's table: looking. -/
import Derived.Test.YtcampkaenlohbaaK6
set_option linter.unusedVariables false
set_option linter.unusedSimpArgs false
namespace Go.Proofs.Ytcampkaenlohbaa
open Go Go.V Go.B

def SL : Lay ByteArray := ⟨fun s => [.string s], 1, fun _ => rfl, fun x v hv => by simp at hv; subst hv; rfl, by omega⟩
theorem textsAre_c {w : World} {A A' : Option Addr} {n n' c c' : Nat} {xs ys : List ByteArray} (hx : Cells w A (SL.flat xs)) (hn : xs.length = n) (hy : Cells w A' (SL.flat ys)) (hn' : ys.length = n') (hb : n < 4611686018427387904) {R : Ending → World → Prop}
    (k1 : xs = ys → ∀ w', Ext [] w w' → R (.returned (.bool true)) w') (k2 : xs ≠ ys → ∀ w', Ext [] w w' → R (.returned (.bool false)) w') : Calls Try.prog 16 #[.slice A n c, .slice A' n' c'] w R := by
  apply berthlaw05_textsAre_nf
  refine sel_intro (fun h => k2 (fun e => by subst e; simp at h; omega) w (Ext.refl _ _)) (fun h => ?_)
  have hnn : n = n' := by simp at h; omega
  subst hnn
  refine ⟨fun t w' => ∃ a : Nat, t = a ∧ a ≤ n ∧ Ext [] w w' ∧ xs.take a = ys.take a, fun t _ => n - t.toNat, ⟨0, rfl, by omega, Ext.refl _ _, rfl⟩, ?_⟩
  rintro _ _ w1 ⟨a, rfl, ha, e1, he⟩
  refine sel_dec (fun hlt => ?_) (fun hge => ?_)
  · obtain ⟨x, ad, hxx, rfl, rx⟩ := (hx.ext0 e1).row hn (a := a) (by omega)
    obtain ⟨y, ad', hyy, rfl, ry⟩ := (hy.ext0 e1).row hn' (a := a) (by omega)
    have rx0 := rx 0 _ rfl
    have ry0 := ry 0 _ rfl
    rw [Addr.add_zero'] at rx0 ry0
    refine when_dec ⟨by omega, by omega⟩ (ptr_in ⟨_, rx0, when_dec ⟨by omega, by omega⟩ (ptr_in ⟨_, ry0, ?_⟩)⟩)
    rw [beqBytes]
    refine sel_intro (fun h => k2 (fun e => ?_) _ e1.drew) (fun h => ?_)
    · subst e; rw [hxx] at hyy; cases hyy; simp at h
    · have hxy : x = y := by simpa using h
      subst hxy
      rw [up64 a (by omega)]
      exact ⟨⟨a + 1, rfl, by omega, e1.drew, by rw [snoc_at hxx, snoc_at hyy, he]⟩, by simp only [Int.toNat_natCast]; omega⟩
  · have : a = n := by omega
    subst this
    exact k1 (by rw [List.take_of_length_le (by omega), List.take_of_length_le (by omega)] at he; exact he) w1 e1
structure DR where
  slot : Int
  name : ByteArray
  v : Int
def DR.cells (x : DR) : List Value := [.int .i64 x.slot, .string x.name, .int .i64 x.v]
def DL : Lay DR := ⟨DR.cells, 3, fun _ => rfl, fun x v hv => by
  simp only [DR.cells, List.mem_cons, List.not_mem_nil, or_false] at hv
  rcases hv with rfl | rfl | rfl <;> rfl, by omega⟩
def dt (most : Int) (A : Option Addr) (n c : Nat) : List Value := [.int .i64 most, .slice A n c]
def idxI (xs : List DR) (P : DR → Bool) : Int := match xs.findIdx? P with
  | some i => (i : Int)
  | none => -1
theorem idxI_at {xs : List DR} {P : DR → Bool} {a : Nat} {x : DR} (h : xs[a]? = some x) (hp : P x = true) (hlo : ∀ (k : Nat) (y : DR), xs[k]? = some y → k < a → P y = false) : idxI xs P = (a : Int) := by
  obtain ⟨hl, e⟩ := List.getElem?_eq_some_iff.1 h
  have : xs.findIdx? P = some a := by
    rw [List.findIdx?_eq_some_iff_getElem]
    refine ⟨hl, by rw [e]; exact hp, fun k hk => ?_⟩
    have := hlo k _ (List.getElem?_eq_getElem (by omega)) hk
    simp [this]
  unfold idxI
  rw [this]
theorem idxI_none {xs : List DR} {P : DR → Bool} (h : ∀ (k : Nat) (y : DR), xs[k]? = some y → P y = false) : idxI xs P = -1 := by
  have : xs.findIdx? P = none := by
    rw [List.findIdx?_eq_none_iff]
    intro x hx
    obtain ⟨k, hk⟩ := List.mem_iff_getElem?.1 hx
    exact h k x hk
  unfold idxI
  rw [this]
theorem refAt_c {w : World} {A : Option Addr} {n c : Nat} {xs : List DR} (hx : Cells w A (DL.flat xs)) (hn : xs.length = n) (hb : n < 4611686018427387904) (most slot : Int) {R : Ending → World → Prop} (k : ∀ w', Ext [] w w' → R (.returned (.int .i64 (idxI xs fun x => x.slot == slot))) w') :
    Calls Try.prog 35 #[.agg ⟨dt most A n c⟩, .int .i64 slot] w R := by
  unfold dt
  apply berthref05_Table_At_nf
  intro w1 h1
  obtain ⟨b1, x1, z1⟩ := box_new (cs := dt most A n c) h1
  refine ⟨fun t w' => ∃ a : Nat, t = a ∧ a ≤ n ∧ w' = w1 ∧ ∀ (k : Nat) (y : DR), xs[k]? = some y → k < a → (y.slot == slot) = false, fun t _ => n - t.toNat, ⟨0, rfl, by omega, rfl, fun _ _ _ h => by omega⟩, ?_⟩
  rintro _ _ w2 ⟨a, rfl, ha, rfl, hlo⟩
  refine ⟨_, _, _, cadd b1 rfl, sel_dec (fun hlt => ⟨_, _, _, cadd b1 rfl, ?_⟩) (fun hge => ?_)⟩
  · obtain ⟨x, ad, hxx, rfl, rx⟩ := (hx.ext0 x1).row hn (a := a) (by omega)
    refine when_dec ⟨by omega, by omega⟩ (ptr_in ⟨_, rx 0 _ rfl, sel_intro (fun h => ?_) (fun h => ?_)⟩)
    · have := k w2 x1
      rw [idxI_at hxx h hlo] at this
      exact this
    · rw [up64 a (by omega)]
      refine ⟨⟨a + 1, rfl, by omega, rfl, fun kk z hz hk => ?_⟩, by simp only [Int.toNat_natCast]; omega⟩
      by_cases e : kk = a
      · subst e; rw [hxx] at hz; cases hz; exact h
      · exact hlo kk z hz (by omega)
  · have := k w2 x1
    rw [idxI_none fun kk z hz => hlo kk z hz (by have := (List.getElem?_eq_some_iff.1 hz).1; omega)] at this
    exact this
theorem refFind_c {w : World} {A : Option Addr} {n c : Nat} {xs : List DR} (hx : Cells w A (DL.flat xs)) (hn : xs.length = n) (hb : n < 4611686018427387904) (most : Int) (name : ByteArray) {R : Ending → World → Prop} (k : ∀ w', Ext [] w w' → R (.returned (.int .i64 (idxI xs fun x => decide (x.name = name)))) w') :
    Calls Try.prog 34 #[.agg ⟨dt most A n c⟩, .string name] w R := by
  unfold dt
  apply berthref05_Table_Find_nf
  intro w1 h1
  obtain ⟨b1, x1, z1⟩ := box_new (cs := dt most A n c) h1
  refine ⟨fun t w' => ∃ a : Nat, t = a ∧ a ≤ n ∧ w' = w1 ∧ ∀ (k : Nat) (y : DR), xs[k]? = some y → k < a → decide (y.name = name) = false, fun t _ => n - t.toNat, ⟨0, rfl, by omega, rfl, fun _ _ _ h => by omega⟩, ?_⟩
  rintro _ _ w2 ⟨a, rfl, ha, rfl, hlo⟩
  refine ⟨_, _, _, cadd b1 rfl, sel_dec (fun hlt => ⟨_, _, _, cadd b1 rfl, ?_⟩) (fun hge => ?_)⟩
  · obtain ⟨x, ad, hxx, rfl, rx⟩ := (hx.ext0 x1).row hn (a := a) (by omega)
    refine when_dec ⟨by omega, by omega⟩ (ptr_in ⟨_, rx 1 _ rfl, ?_⟩)
    rw [beqBytes]
    refine sel_intro (fun h => ?_) (fun h => ?_)
    · have := k w2 x1
      rw [idxI_at hxx h hlo] at this
      exact this
    · rw [up64 a (by omega)]
      refine ⟨⟨a + 1, rfl, by omega, rfl, fun kk z hz hk => ?_⟩, by simp only [Int.toNat_natCast]; omega⟩
      by_cases e : kk = a
      · subst e; rw [hxx] at hz; cases hz; exact h
      · exact hlo kk z hz (by omega)
  · have := k w2 x1
    rw [idxI_none fun kk z hz => hlo kk z hz (by have := (List.getElem?_eq_some_iff.1 hz).1; omega)] at this
    exact this
end Go.Proofs.Ytcampkaenlohbaa
