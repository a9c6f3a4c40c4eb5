/- Labels: the steps of a script. -/
import Derived.Test.YtcohengppaighaaGreatDoorLt1
set_option linter.unusedVariables false
set_option linter.unusedSimpArgs false
namespace Go.Proofs.YtcohengppaighaaGreatDoor
open Go Go.V Go.B

section
variable {w : World} {R : Ending → World → Prop}
theorem plays_lists {o : LOp} (h : o.In w) (h1 : 6 ≤ o.kind) (h2 : o.kind ≤ 9) (k : ∀ w', Ext [] w w' → R (.returned (.bool true)) w') : Calls Tryz.prog 24 #[.agg ⟨o.cells⟩] w R := by
  obtain ⟨kind, A, n, c, l, B, m, c2, l2, D, q, c3, ds, text, key, value, num⟩ := o
  have h1 : 6 ≤ kind := h1
  have h2 : kind ≤ 9 := h2
  show Calls _ _ #[.agg #[.int .i64 kind, .slice A n c, .slice B m c2, .slice D q c3, .string text, .string key, .string value, .int .i64 num]] w R
  apply berthlaw03_plays_nf
  intro w9 h9
  obtain ⟨b9, x9, z9⟩ := box_new (cs := LOp.cells ⟨kind, A, n, c, l, B, m, c2, l2, D, q, c3, ds, text, key, value, num⟩) h9
  refine ⟨_, cadd b9 rfl, sel_dec (fun _ => ⟨_, cadd b9 rfl, sel_dec (fun hh => absurd hh (by omega)) (fun _ => ⟨_, cadd b9 rfl, sel_dec (fun _ => ⟨_, cadd b9 rfl, sel_dec (fun _ => ?_) (fun hh => absurd h2 hh)⟩) (fun hh => absurd h1 hh)⟩)⟩) (fun hh => absurd hh (by omega))⟩
  exact ⟨_, _, _, _, _, _, _, _, _, _, _, _, _, _, cadd0 b9, lists_c (h.ext0 x9) fun w' e => ⟨_, rfl, k _ (x9.trans e)⟩⟩
theorem plays_turns {o : LOp} (h : o.In w) (h1 : 10 ≤ o.kind) (h2 : o.kind ≤ 14) (k : ∀ w', Ext [] w w' → R (.returned (.bool true)) w') : Calls Tryz.prog 24 #[.agg ⟨o.cells⟩] w R := by
  obtain ⟨kind, A, n, c, l, B, m, c2, l2, D, q, c3, ds, text, key, value, num⟩ := o
  have h1 : 10 ≤ kind := h1
  have h2 : kind ≤ 14 := h2
  show Calls _ _ #[.agg #[.int .i64 kind, .slice A n c, .slice B m c2, .slice D q c3, .string text, .string key, .string value, .int .i64 num]] w R
  apply berthlaw03_plays_nf
  intro w9 h9
  obtain ⟨b9, x9, z9⟩ := box_new (cs := LOp.cells ⟨kind, A, n, c, l, B, m, c2, l2, D, q, c3, ds, text, key, value, num⟩) h9
  refine ⟨_, cadd b9 rfl, sel_dec (fun _ => ⟨_, cadd b9 rfl, sel_dec (fun hh => absurd hh (by omega)) (fun _ => ⟨_, cadd b9 rfl, sel_dec (fun _ => ⟨_, cadd b9 rfl, sel_dec (fun hh => absurd hh (by omega)) (fun _ => ⟨_, cadd b9 rfl, sel_dec (fun _ => ⟨_, cadd b9 rfl, sel_dec (fun _ => ?_) (fun hh => absurd h2 hh)⟩) (fun hh => absurd h1 hh)⟩)⟩) (fun hh => absurd hh (by omega))⟩)⟩) (fun hh => absurd hh (by omega))⟩
  exact ⟨_, _, _, _, _, _, _, _, _, _, _, _, _, _, cadd0 b9, turns_c (h.ext0 x9) fun w' e => ⟨_, rfl, k _ (x9.trans e)⟩⟩
theorem upTo_c {A : Option Addr} {n c : Nat} {ops : List LOp} (h : OpsAt w A n ops) (lo hi : Int)
    (pl : ∀ (o : LOp) (w1 : World) (R' : Ending → World → Prop), lo ≤ o.kind → o.kind ≤ hi → o.In w1 → Ext [] w w1 → (∀ w2, Ext [] w1 w2 → R' (.returned (.bool true)) w2) → Calls Tryz.prog 24 #[.agg ⟨o.cells⟩] w1 R')
    (k : ∀ w', Ext [] w w' → R (.returned (.bool true)) w') : Calls Tryz.prog 11 #[.slice A n c, .int .i64 lo, .int .i64 hi] w R := by
  apply berthlaw03_upTo_nf
  have hsz := h.sz
  refine ⟨fun t w' => ∃ a : Nat, t = a ∧ a ≤ n ∧ Ext [] w w', fun t _ => n - t.toNat, ⟨0, rfl, by omega, Ext.refl _ _⟩, ?_⟩
  rintro _ _ w8 ⟨a, rfl, ha, e8⟩
  refine sel_dec (fun hlt => ?_) (fun _ => k _ e8)
  obtain ⟨o, ad, ho, rfl, rd⟩ := (h.ext0 e8).read (a := a) (by omega)
  have hin := (h.ext0 e8).in_ o (List.mem_of_getElem? ho)
  have hkind : w8.cell? (Addr.add (Addr.add ad (Int.toNat (a : Int) * 8)) 0) = some (.int .i64 o.kind) := rd 0 _ rfl
  rw [up64 a (by omega)]
  have next : ∀ w', Ext [] w w' → (∃ b : Nat, ((a + 1 : Nat) : Int) = (b : Int) ∧ b ≤ n ∧ Ext [] w w') ∧ n - Int.toNat ((a + 1 : Nat) : Int) < n - Int.toNat (a : Int) := fun w' e => ⟨⟨a + 1, rfl, by omega, e⟩, by simp only [Int.toNat_natCast]; omega⟩
  refine when_dec ⟨by omega, by omega⟩ ⟨_, hkind, sel_dec (fun h1 => when_dec ⟨by omega, by omega⟩ ⟨_, hkind, sel_dec (fun h2 => when_dec ⟨by omega, by omega⟩ ?_) (fun _ => next _ e8)⟩) (fun _ => next _ e8)⟩
  exact ⟨_, _, _, _, _, _, _, _, _, _, _, _, _, _, rd, pl o w8 _ h1 h2 hin e8 fun w2 e2 => ⟨_, rfl, sel_false rfl (next _ (e8.trans e2))⟩⟩
end
end Go.Proofs.YtcohengppaighaaGreatDoor
