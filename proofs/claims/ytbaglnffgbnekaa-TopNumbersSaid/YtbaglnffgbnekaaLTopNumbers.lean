/- The closed sentence berthtop.TopNumbers returns true, whatever the memory is; no condition. -/
import Derived.Test.YtbaglnffgbnekaaB
import Derived.Test.YtbaglnffgbnekaaN0
import Derived.Test.YtbaglnffgbnekaaRows
import Derived.ProofKit
import Derived.OpenShut
import Derived.ShutString
import Derived.ChangeOld
import Derived.Below
import Derived.SizedLaws
set_option linter.unusedVariables false
set_option linter.unusedSimpArgs false
namespace Go.Proofs.Ytbaglnffgbnekaa
open Go Go.V Go.B
open Go.ChangeShapes Go.WideShapes Go.ChangeAt Go.RowKit
open Go.ChangeMaps (open_string shut_string)

def unInt : Value → Int
  | .int _ x => x
  | _ => 0
theorem same_lits (cs : Array Value) (hc : cs = ⟨ints .i64 (cs.toList.map unInt)⟩) (K : Nat) (hK : cs.size = K) (hKs : K < 4611686018427387904) (T T' : TypeId) {w : World} {R : Ending → World → Prop} (k : ∀ w', Ext [] w w' → R (.returned (.bool true)) w') :
    ∃ I1 : Int → World → Prop, ∃ μ2 : Int → World → Nat, I1 0 (World.alloc (World.alloc w (.cells cs T)) (.cells cs T')) ∧
  ∀ i_3 (j4 : Nat → Value) (w5 : World), I1 i_3 w5 →
  (V.sel (decide (i_3 < (K : Int)))
  (V.when (decide ((0 : Int) ≤ i_3 ∧ (i_3 : Int) < (K : Int))) (∃ n6, World.cell? w5 (Addr.add ⟨Array.size (World.heap w), 0, none⟩ ((Int.toNat i_3) * 1)) = some (Value.int .i64 n6) ∧
  V.when (decide ((0 : Int) ≤ i_3 ∧ (i_3 : Int) < (K : Int))) (∃ n7, World.cell? w5 (Addr.add ⟨Array.size (World.heap (World.alloc w (.cells cs T))), 0, none⟩ ((Int.toNat i_3) * 1)) = some (Value.int .i64 n7) ∧
  V.sel (n6 != n7)
  (R (Ending.returned (Value.bool false)) (World.drew w5))
  (I1 (IntKind.wrap .i64 (i_3 + 1)) (World.drew w5) ∧ μ2 (IntKind.wrap .i64 (i_3 + 1)) (World.drew w5) < μ2 i_3 w5))))
  (R (Ending.returned (Value.bool true)) w5)) := by
  obtain ⟨xs, rfl⟩ : ∃ xs, cs = ⟨ints .i64 xs⟩ := ⟨_, hc⟩
  clear hc
  have hK' : xs.length = K := by rw [← hK]; simp
  refine ⟨fun t w' => ∃ n : Nat, t = n ∧ n ≤ K ∧ Ext [] w w' ∧ Blk w' w.heap.size (ints .i64 xs) ∧ Blk w' (w.alloc (.cells ⟨ints .i64 xs⟩ T)).heap.size (ints .i64 xs), fun t _ => K - t.toNat,
    ⟨0, rfl, by omega, ((Ext.refl _ _).alloc _).alloc _, (Blk.new w _ _).alloc _, Blk.new _ _ _⟩, ?_⟩
  rintro _ _ w2 ⟨n, rfl, hn, e2, b1, b2⟩
  refine sel_dec (fun hlt => ?_) (fun hge => k w2 e2)
  have hnl : n < xs.length := by omega
  refine when_dec ⟨by omega, by omega⟩ ⟨xs.getD n 0, ?_, when_dec ⟨by omega, by omega⟩ ⟨xs.getD n 0, ?_, sel_false ?_ ?_⟩⟩
  · rw [Addr.add0, Int.toNat_natCast, Nat.mul_one]; exact b1.cell (ints_get hnl)
  · rw [Addr.add0, Int.toNat_natCast, Nat.mul_one]; exact b2.cell (ints_get hnl)
  · simp
  · rw [up64 n (by omega)]
    exact ⟨⟨n + 1, rfl, by omega, e2.drew, b1, b2⟩, down (by omega)⟩
theorem errors1_c {w : World} {R : Ending → World → Prop} (k : ∀ w', Ext [] w w' → R (.returned (.bool true)) w') : Calls Try.prog 51 #[] w R := by
  apply berthtop_errors1_nf
  exact same_lits _ rfl 48 rfl (by omega) _ _ k
theorem errors2_c {w : World} {R : Ending → World → Prop} (k : ∀ w', Ext [] w w' → R (.returned (.bool true)) w') : Calls Try.prog 52 #[] w R := by
  apply berthtop_errors2_nf
  exact same_lits _ rfl 48 rfl (by omega) _ _ k
theorem errors3_c {w : World} {R : Ending → World → Prop} (k : ∀ w', Ext [] w w' → R (.returned (.bool true)) w') : Calls Try.prog 53 #[] w R := by
  apply berthtop_errors3_nf
  exact same_lits _ rfl 47 rfl (by omega) _ _ k
theorem limits_c {w : World} {R : Ending → World → Prop} (k : ∀ w', Ext [] w w' → R (.returned (.bool true)) w') : Calls Try.prog 54 #[] w R := by
  apply berthtop_limits_nf
  exact same_lits _ rfl 37 rfl (by omega) _ _ k
theorem topNumbers_walk (w : World) : Calls Try.prog 10 #[] w fun e w' => e = .returned (.bool true) ∧ Below w.heap.size w w' := by
  apply berthtop_TopNumbers_nf
  refine errors1_c fun w1 e1 => ⟨_, rfl, sel_true rfl (errors2_c fun w2 e2 => ⟨_, rfl, sel_true rfl (errors3_c fun w3 e3 => ⟨_, rfl, sel_true rfl (limits_c fun w4 e4 => ⟨_, rfl, rfl, ?_⟩)⟩)⟩)⟩
  exact (((e1.then e2).then e3).then e4).below
theorem own : ownKnob Try.prog.godebug = none := by kernel_rfl
set_option maxRecDepth 100000 in
theorem topNumbers_lifted (os : Os) (started : os.Started) (H : Type) (enc : TypeId × Value → H) :
    ReturnsInHanded {} Try.checked os 10 .any (Rows.topNumbersSpec.pre6 enc Try.prog Try.f10 Rows.topNumbersRow.domain false) (Rows.topNumbersSpec.post enc Try.prog Try.f10 false true false false) := by
  refine returnsInHanded_of_change_sized (C := Try.checked) own started (by kernel_rfl) Try.func10
    (ChangeSpec.witness6 (enc := enc) (C := Try.checked) false ⟨#[], #[], []⟩ 8 (by kernel_rfl) (by kernel_rfl) (by kernel_rfl) (by kernel_rfl)) ?_
  intro W base args ds gs before hval0 hW hcnd hsz0 _
  have hW' := hW
  obtain ⟨p, q, hA0, hV, rfl, hfz, hnd⟩ := hW
  have hA : DataW.TrodAll enc Try.prog W 0 (fun _ => true) true Try.f10.params.toList args.toList ds p := hA0
  rw [Try.params10] at hA
  obtain ⟨rfl, rfl, rfl⟩ := trodAll_none hA
  obtain ⟨rfl, rfl⟩ := trodVars_none hV
  clear hA0 hval0 hsz0
  refine (topNumbers_walk W).mono fun e W' ⟨he, bel⟩ => ?_
  subst he
  exact ⟨_, rfl, _, _, _, [], _, [], hW', trodAll_mk1 (shut_bool Try.underlying4 _), trodAll_mk0, rfl, bel.frame _, fun h => by cases h⟩
theorem topNumbers_holds : Rows.TopNumbersSaid :=
  OpenClaim.holds_of_wide 10 Try.f10 rfl rfl rfl rfl rfl rfl rfl ⟨rfl, rfl, rfl, rfl, rfl⟩ rfl rfl rfl rfl rfl (by kernel_rfl) Try.func10 (by kernel_rfl)
    (of_decide_eq_true (by kernel_rfl)) (by unfold Func.isWrapper; first | (rw [if_pos (by decide +kernel)]; kernel_rfl) | (rw [if_neg (by decide +kernel)]; exact ⟨rfl, rfl⟩))
    (fun os started H enc _ => topNumbers_lifted os started H enc)
end Go.Proofs.Ytbaglnffgbnekaa
