/- Normal forms of the program's functions, printed by a program of mine; the kernel checks each. -/
import Derived.Test.YtbaglnffgbnekaaProg
import Derived.Test.YtbaglnffgbnekaaV2
set_option linter.unusedVariables false
set_option maxRecDepth 100000
namespace Go.Proofs.Ytbaglnffgbnekaa
open Go

theorem berthref01_From_nf (n_1 : Int) (places_2 : Option Addr) (places_2l : Nat) (places_2c : Nat) (w : World) (R : Ending → World → Prop) (h :
  Calls Try.prog 72 #[(Value.int .i64 n_1)] (World.alloc w (.cells #[(Value.int .i64 0), (Value.slice none 0 0)] 38)) fun e6 w7 =>
  ∃ n3, ∃ A4, ∃ A4l, ∃ A4c, ∃ n5, e6 = Ending.returned (Value.tuple #[(Value.agg #[(Value.int .i64 n3), (Value.slice A4 A4l A4c)]), (Value.int .i64 n5)]) ∧
  (∃ u8, World.cell? (World.alloc w7 (.cells #[(Value.int .i64 0), (Value.slice none 0 0)] 38)) (Addr.add ⟨Array.size (World.heap w7), 0, none⟩ 0) = some u8) ∧ World.frozen? (World.alloc w7 (.cells #[(Value.int .i64 0), (Value.slice none 0 0)] 38)) (Addr.add ⟨Array.size (World.heap w7), 0, none⟩ 0) = false ∧
  (∃ u9, World.cell? (World.setCell (World.alloc w7 (.cells #[(Value.int .i64 0), (Value.slice none 0 0)] 38)) (Addr.add ⟨Array.size (World.heap w7), 0, none⟩ 0) (Value.int .i64 n3)) (Addr.add ⟨Array.size (World.heap w7), 0, none⟩ 1) = some u9) ∧ World.frozen? (World.setCell (World.alloc w7 (.cells #[(Value.int .i64 0), (Value.slice none 0 0)] 38)) (Addr.add ⟨Array.size (World.heap w7), 0, none⟩ 0) (Value.int .i64 n3)) (Addr.add ⟨Array.size (World.heap w7), 0, none⟩ 1) = false ∧
  V.sel (n5 != 0)
  (∃ n10, World.cell? (World.setCell (World.setCell (World.alloc w7 (.cells #[(Value.int .i64 0), (Value.slice none 0 0)] 38)) (Addr.add ⟨Array.size (World.heap w7), 0, none⟩ 0) (Value.int .i64 n3)) (Addr.add ⟨Array.size (World.heap w7), 0, none⟩ 1) (Value.slice A4 A4l A4c)) (Addr.add ⟨Array.size (World.heap w7), 0, none⟩ 0) = some (Value.int .i64 n10) ∧
  ∃ A11, ∃ A11l, ∃ A11c, World.cell? (World.setCell (World.setCell (World.alloc w7 (.cells #[(Value.int .i64 0), (Value.slice none 0 0)] 38)) (Addr.add ⟨Array.size (World.heap w7), 0, none⟩ 0) (Value.int .i64 n3)) (Addr.add ⟨Array.size (World.heap w7), 0, none⟩ 1) (Value.slice A4 A4l A4c)) (Addr.add ⟨Array.size (World.heap w7), 0, none⟩ 1) = some (Value.slice A11 A11l A11c) ∧
  (∃ u12, World.cell? (World.setCell (World.setCell (World.alloc w7 (.cells #[(Value.int .i64 0), (Value.slice none 0 0)] 38)) (Addr.add ⟨Array.size (World.heap w7), 0, none⟩ 0) (Value.int .i64 n3)) (Addr.add ⟨Array.size (World.heap w7), 0, none⟩ 1) (Value.slice A4 A4l A4c)) (Addr.add ⟨Array.size (World.heap w), 0, none⟩ 0) = some u12) ∧ World.frozen? (World.setCell (World.setCell (World.alloc w7 (.cells #[(Value.int .i64 0), (Value.slice none 0 0)] 38)) (Addr.add ⟨Array.size (World.heap w7), 0, none⟩ 0) (Value.int .i64 n3)) (Addr.add ⟨Array.size (World.heap w7), 0, none⟩ 1) (Value.slice A4 A4l A4c)) (Addr.add ⟨Array.size (World.heap w), 0, none⟩ 0) = false ∧
  (∃ u13, World.cell? (World.setCell (World.setCell (World.setCell (World.alloc w7 (.cells #[(Value.int .i64 0), (Value.slice none 0 0)] 38)) (Addr.add ⟨Array.size (World.heap w7), 0, none⟩ 0) (Value.int .i64 n3)) (Addr.add ⟨Array.size (World.heap w7), 0, none⟩ 1) (Value.slice A4 A4l A4c)) (Addr.add ⟨Array.size (World.heap w), 0, none⟩ 0) (Value.int .i64 n10)) (Addr.add ⟨Array.size (World.heap w), 0, none⟩ 1) = some u13) ∧ World.frozen? (World.setCell (World.setCell (World.setCell (World.alloc w7 (.cells #[(Value.int .i64 0), (Value.slice none 0 0)] 38)) (Addr.add ⟨Array.size (World.heap w7), 0, none⟩ 0) (Value.int .i64 n3)) (Addr.add ⟨Array.size (World.heap w7), 0, none⟩ 1) (Value.slice A4 A4l A4c)) (Addr.add ⟨Array.size (World.heap w), 0, none⟩ 0) (Value.int .i64 n10)) (Addr.add ⟨Array.size (World.heap w), 0, none⟩ 1) = false ∧
  ∃ n14, World.cell? (World.setCell (World.setCell (World.setCell (World.setCell (World.alloc w7 (.cells #[(Value.int .i64 0), (Value.slice none 0 0)] 38)) (Addr.add ⟨Array.size (World.heap w7), 0, none⟩ 0) (Value.int .i64 n3)) (Addr.add ⟨Array.size (World.heap w7), 0, none⟩ 1) (Value.slice A4 A4l A4c)) (Addr.add ⟨Array.size (World.heap w), 0, none⟩ 0) (Value.int .i64 n10)) (Addr.add ⟨Array.size (World.heap w), 0, none⟩ 1) (Value.slice A11 A11l A11c)) (Addr.add ⟨Array.size (World.heap w), 0, none⟩ 0) = some (Value.int .i64 n14) ∧
  ∃ A15, ∃ A15l, ∃ A15c, World.cell? (World.setCell (World.setCell (World.setCell (World.setCell (World.alloc w7 (.cells #[(Value.int .i64 0), (Value.slice none 0 0)] 38)) (Addr.add ⟨Array.size (World.heap w7), 0, none⟩ 0) (Value.int .i64 n3)) (Addr.add ⟨Array.size (World.heap w7), 0, none⟩ 1) (Value.slice A4 A4l A4c)) (Addr.add ⟨Array.size (World.heap w), 0, none⟩ 0) (Value.int .i64 n10)) (Addr.add ⟨Array.size (World.heap w), 0, none⟩ 1) (Value.slice A11 A11l A11c)) (Addr.add ⟨Array.size (World.heap w), 0, none⟩ 1) = some (Value.slice A15 A15l A15c) ∧
  R (Ending.returned (Value.tuple #[(Value.agg #[(Value.int .i64 n14), (Value.slice A15 A15l A15c)]), (Value.int .i64 n5)])) (World.setCell (World.setCell (World.setCell (World.setCell (World.alloc w7 (.cells #[(Value.int .i64 0), (Value.slice none 0 0)] 38)) (Addr.add ⟨Array.size (World.heap w7), 0, none⟩ 0) (Value.int .i64 n3)) (Addr.add ⟨Array.size (World.heap w7), 0, none⟩ 1) (Value.slice A4 A4l A4c)) (Addr.add ⟨Array.size (World.heap w), 0, none⟩ 0) (Value.int .i64 n10)) (Addr.add ⟨Array.size (World.heap w), 0, none⟩ 1) (Value.slice A11 A11l A11c)))
  (∃ I16 : Int → World → Prop, ∃ μ17 : Int → World → Nat, I16 0 (World.setCell (World.setCell (World.alloc w7 (.cells #[(Value.int .i64 0), (Value.slice none 0 0)] 38)) (Addr.add ⟨Array.size (World.heap w7), 0, none⟩ 0) (Value.int .i64 n3)) (Addr.add ⟨Array.size (World.heap w7), 0, none⟩ 1) (Value.slice A4 A4l A4c)) ∧
  ∀ i_18 (j19 : Nat → Value) (w20 : World), I16 i_18 w20 →
  (V.sel (decide (i_18 < ((places_2l : Nat) : Int)))
  (V.when (decide ((0 : Int) ≤ i_18 ∧ (i_18 : Int) < ((places_2l : Nat) : Int))) (V.ptr places_2 fun a21 =>
  ∃ n22, World.cell? w20 (Addr.add a21 ((Int.toNat i_18) * 1)) = some (Value.int .i64 n22) ∧
  V.sel (decide (n22 < 0))
  ((∃ u23, World.cell? w20 (Addr.add ⟨Array.size (World.heap w), 0, none⟩ 0) = some u23) ∧ World.frozen? w20 (Addr.add ⟨Array.size (World.heap w), 0, none⟩ 0) = false ∧
  (∃ u24, World.cell? (World.setCell w20 (Addr.add ⟨Array.size (World.heap w), 0, none⟩ 0) (Value.int .i64 0)) (Addr.add ⟨Array.size (World.heap w), 0, none⟩ 1) = some u24) ∧ World.frozen? (World.setCell w20 (Addr.add ⟨Array.size (World.heap w), 0, none⟩ 0) (Value.int .i64 0)) (Addr.add ⟨Array.size (World.heap w), 0, none⟩ 1) = false ∧
  ∃ n25, World.cell? (World.setCell (World.setCell w20 (Addr.add ⟨Array.size (World.heap w), 0, none⟩ 0) (Value.int .i64 0)) (Addr.add ⟨Array.size (World.heap w), 0, none⟩ 1) (Value.slice none 0 0)) (Addr.add ⟨Array.size (World.heap w), 0, none⟩ 0) = some (Value.int .i64 n25) ∧
  ∃ A26, ∃ A26l, ∃ A26c, World.cell? (World.setCell (World.setCell w20 (Addr.add ⟨Array.size (World.heap w), 0, none⟩ 0) (Value.int .i64 0)) (Addr.add ⟨Array.size (World.heap w), 0, none⟩ 1) (Value.slice none 0 0)) (Addr.add ⟨Array.size (World.heap w), 0, none⟩ 1) = some (Value.slice A26 A26l A26c) ∧
  R (Ending.returned (Value.tuple #[(Value.agg #[(Value.int .i64 n25), (Value.slice A26 A26l A26c)]), (Value.int .i64 12)])) (World.setCell (World.setCell w20 (Addr.add ⟨Array.size (World.heap w), 0, none⟩ 0) (Value.int .i64 0)) (Addr.add ⟨Array.size (World.heap w), 0, none⟩ 1) (Value.slice none 0 0)))
  (V.when (decide ((0 : Int) ≤ i_18 ∧ (i_18 : Int) < ((places_2l : Nat) : Int))) (V.ptr places_2 fun a27 =>
  ∃ n28, World.cell? w20 (Addr.add a27 ((Int.toNat i_18) * 1)) = some (Value.int .i64 n28) ∧
  V.sel (decide (n28 ≥ n_1))
  ((∃ u29, World.cell? w20 (Addr.add ⟨Array.size (World.heap w), 0, none⟩ 0) = some u29) ∧ World.frozen? w20 (Addr.add ⟨Array.size (World.heap w), 0, none⟩ 0) = false ∧
  (∃ u30, World.cell? (World.setCell w20 (Addr.add ⟨Array.size (World.heap w), 0, none⟩ 0) (Value.int .i64 0)) (Addr.add ⟨Array.size (World.heap w), 0, none⟩ 1) = some u30) ∧ World.frozen? (World.setCell w20 (Addr.add ⟨Array.size (World.heap w), 0, none⟩ 0) (Value.int .i64 0)) (Addr.add ⟨Array.size (World.heap w), 0, none⟩ 1) = false ∧
  ∃ n31, World.cell? (World.setCell (World.setCell w20 (Addr.add ⟨Array.size (World.heap w), 0, none⟩ 0) (Value.int .i64 0)) (Addr.add ⟨Array.size (World.heap w), 0, none⟩ 1) (Value.slice none 0 0)) (Addr.add ⟨Array.size (World.heap w), 0, none⟩ 0) = some (Value.int .i64 n31) ∧
  ∃ A32, ∃ A32l, ∃ A32c, World.cell? (World.setCell (World.setCell w20 (Addr.add ⟨Array.size (World.heap w), 0, none⟩ 0) (Value.int .i64 0)) (Addr.add ⟨Array.size (World.heap w), 0, none⟩ 1) (Value.slice none 0 0)) (Addr.add ⟨Array.size (World.heap w), 0, none⟩ 1) = some (Value.slice A32 A32l A32c) ∧
  R (Ending.returned (Value.tuple #[(Value.agg #[(Value.int .i64 n31), (Value.slice A32 A32l A32c)]), (Value.int .i64 12)])) (World.setCell (World.setCell w20 (Addr.add ⟨Array.size (World.heap w), 0, none⟩ 0) (Value.int .i64 0)) (Addr.add ⟨Array.size (World.heap w), 0, none⟩ 1) (Value.slice none 0 0)))
  (I16 (IntKind.wrap .i64 (i_18 + 1)) w20 ∧ μ17 (IntKind.wrap .i64 (i_18 + 1)) w20 < μ17 i_18 w20)))))
  (V.when (decide ((0 : Int) ≤ n_1 ∧ (n_1 : Int) ≤ n_1 ∧ (n_1 : Int) ≤ 281474976710656 ∧ (1 : Int) * n_1 ≤ 281474976710656)) (∃ I33 : Int → World → Prop, ∃ μ34 : Int → World → Nat, I33 0 (World.alloc w20 (.cells ⟨V.rep (Int.toNat n_1) [(Value.bool false)]⟩ 4)) ∧
  ∀ i_35 (j36 : Nat → Value) (w37 : World), I33 i_35 w37 →
  (V.sel (decide (i_35 < ((places_2l : Nat) : Int)))
  (V.when (decide ((0 : Int) ≤ i_35 ∧ (i_35 : Int) < ((places_2l : Nat) : Int))) (V.ptr places_2 fun a38 =>
  ∃ n39, World.cell? w37 (Addr.add a38 ((Int.toNat i_35) * 1)) = some (Value.int .i64 n39) ∧
  V.when (decide ((0 : Int) ≤ n39 ∧ (n39 : Int) < (((Int.toNat n_1) : Nat) : Int))) ((∃ u40, World.cell? w37 (Addr.add (Addr.add ⟨Array.size (World.heap w20), 0, none⟩ ((Int.toNat n39) * 1)) 0) = some u40) ∧ World.frozen? w37 (Addr.add (Addr.add ⟨Array.size (World.heap w20), 0, none⟩ ((Int.toNat n39) * 1)) 0) = false ∧
  I33 (IntKind.wrap .i64 (i_35 + 1)) (World.setCell w37 (Addr.add (Addr.add ⟨Array.size (World.heap w20), 0, none⟩ ((Int.toNat n39) * 1)) 0) (Value.bool true)) ∧ μ34 (IntKind.wrap .i64 (i_35 + 1)) (World.setCell w37 (Addr.add (Addr.add ⟨Array.size (World.heap w20), 0, none⟩ ((Int.toNat n39) * 1)) 0) (Value.bool true)) < μ34 i_35 w37)))
  (∃ I41 : Int → World → Prop, ∃ μ42 : Int → World → Nat, I41 0 w37 ∧
  ∀ i_43 (j44 : Nat → Value) (w45 : World), I41 i_43 w45 →
  (V.sel (decide (i_43 < n_1))
  (V.when (decide ((0 : Int) ≤ i_43 ∧ (i_43 : Int) < (((Int.toNat n_1) : Nat) : Int))) (∃ b46, World.cell? w45 (Addr.add ⟨Array.size (World.heap w20), 0, none⟩ ((Int.toNat i_43) * 1)) = some (Value.bool b46) ∧
  V.sel b46
  (∃ A47, ∃ A47l, ∃ A47c, World.cell? w45 (Addr.add ⟨Array.size (World.heap w7), 0, none⟩ 1) = some (Value.slice A47 A47l A47c) ∧
  ∃ A48, ∃ A48l, ∃ A48c, ∃ w49, Sem.run Try.prog (Builtin.append_ #[25, 25] 25 #[(Value.slice A47 A47l A47c), (Value.slice (some ⟨Array.size (World.heap w45), 0, none⟩) 1 1)]) (World.alloc w45 (.cells #[(Value.int .i64 i_43)] 3)) = .ok (Value.slice A48 A48l A48c) w49 ∧
  (∃ u50, World.cell? w49 (Addr.add (Addr.add ⟨Array.size (World.heap w7), 0, none⟩ 1) 0) = some u50) ∧ World.frozen? w49 (Addr.add (Addr.add ⟨Array.size (World.heap w7), 0, none⟩ 1) 0) = false ∧
  I41 (IntKind.wrap .i64 (i_43 + 1)) (World.setCell w49 (Addr.add (Addr.add ⟨Array.size (World.heap w7), 0, none⟩ 1) 0) (Value.slice A48 A48l A48c)) ∧ μ42 (IntKind.wrap .i64 (i_43 + 1)) (World.setCell w49 (Addr.add (Addr.add ⟨Array.size (World.heap w7), 0, none⟩ 1) 0) (Value.slice A48 A48l A48c)) < μ42 i_43 w45)
  (I41 (IntKind.wrap .i64 (i_43 + 1)) w45 ∧ μ42 (IntKind.wrap .i64 (i_43 + 1)) w45 < μ42 i_43 w45)))
  (∃ n51, World.cell? w45 (Addr.add ⟨Array.size (World.heap w7), 0, none⟩ 0) = some (Value.int .i64 n51) ∧
  ∃ A52, ∃ A52l, ∃ A52c, World.cell? w45 (Addr.add ⟨Array.size (World.heap w7), 0, none⟩ 1) = some (Value.slice A52 A52l A52c) ∧
  (∃ u53, World.cell? w45 (Addr.add ⟨Array.size (World.heap w), 0, none⟩ 0) = some u53) ∧ World.frozen? w45 (Addr.add ⟨Array.size (World.heap w), 0, none⟩ 0) = false ∧
  (∃ u54, World.cell? (World.setCell w45 (Addr.add ⟨Array.size (World.heap w), 0, none⟩ 0) (Value.int .i64 n51)) (Addr.add ⟨Array.size (World.heap w), 0, none⟩ 1) = some u54) ∧ World.frozen? (World.setCell w45 (Addr.add ⟨Array.size (World.heap w), 0, none⟩ 0) (Value.int .i64 n51)) (Addr.add ⟨Array.size (World.heap w), 0, none⟩ 1) = false ∧
  ∃ n55, World.cell? (World.setCell (World.setCell w45 (Addr.add ⟨Array.size (World.heap w), 0, none⟩ 0) (Value.int .i64 n51)) (Addr.add ⟨Array.size (World.heap w), 0, none⟩ 1) (Value.slice A52 A52l A52c)) (Addr.add ⟨Array.size (World.heap w), 0, none⟩ 0) = some (Value.int .i64 n55) ∧
  ∃ A56, ∃ A56l, ∃ A56c, World.cell? (World.setCell (World.setCell w45 (Addr.add ⟨Array.size (World.heap w), 0, none⟩ 0) (Value.int .i64 n51)) (Addr.add ⟨Array.size (World.heap w), 0, none⟩ 1) (Value.slice A52 A52l A52c)) (Addr.add ⟨Array.size (World.heap w), 0, none⟩ 1) = some (Value.slice A56 A56l A56c) ∧
  R (Ending.returned (Value.tuple #[(Value.agg #[(Value.int .i64 n55), (Value.slice A56 A56l A56c)]), (Value.int .i64 0)])) (World.setCell (World.setCell w45 (Addr.add ⟨Array.size (World.heap w), 0, none⟩ 0) (Value.int .i64 n51)) (Addr.add ⟨Array.size (World.heap w), 0, none⟩ 1) (Value.slice A52 A52l A52c))))))))))) :
  Calls Try.prog 55 #[(Value.int .i64 n_1), (Value.slice places_2 places_2l places_2c)] w R :=
  V.calls_of_R ⟨V.assoc [(0, [8]), (1, [10]), (2, [11])], V.assocP [], V.assocC [], V.assocS [], ⟨[], false⟩⟩ Try.func55 rfl (Eq.mp (by kernel_rfl) h)

theorem berthref01_SameWords_nf (a_1 : Option Addr) (a_1l : Nat) (a_1c : Nat) (b_2 : Option Addr) (b_2l : Nat) (b_2c : Nat) (w : World) (R : Ending → World → Prop) (h :
  V.sel (((a_1l : Nat) : Int) != ((b_2l : Nat) : Int))
  (R (Ending.returned (Value.bool false)) w)
  (∃ I3 : Int → World → Prop, ∃ μ4 : Int → World → Nat, I3 0 w ∧
  ∀ i_5 (j6 : Nat → Value) (w7 : World), I3 i_5 w7 →
  (V.sel (decide (i_5 < ((a_1l : Nat) : Int)))
  (V.when (decide ((0 : Int) ≤ i_5 ∧ (i_5 : Int) < ((a_1l : Nat) : Int))) (V.ptr a_1 fun a8 =>
  ∃ n9, World.cell? w7 (Addr.add a8 ((Int.toNat i_5) * 1)) = some (Value.int .u64 n9) ∧
  V.when (decide ((0 : Int) ≤ i_5 ∧ (i_5 : Int) < ((b_2l : Nat) : Int))) (V.ptr b_2 fun a10 =>
  ∃ n11, World.cell? w7 (Addr.add a10 ((Int.toNat i_5) * 1)) = some (Value.int .u64 n11) ∧
  V.sel (n9 != n11)
  (R (Ending.returned (Value.bool false)) (World.drew w7))
  (I3 (IntKind.wrap .i64 (i_5 + 1)) (World.drew w7) ∧ μ4 (IntKind.wrap .i64 (i_5 + 1)) (World.drew w7) < μ4 i_5 w7))))
  (R (Ending.returned (Value.bool true)) w7)))) :
  Calls Try.prog 56 #[(Value.slice a_1 a_1l a_1c), (Value.slice b_2 b_2l b_2c)] w R :=
  V.calls_of_R ⟨V.assoc [(0, [5])], V.assocP [(6, V.line [0, 1, 2, 3, 4, 5, 6, 7, 8])], V.assocC [], V.assocS [], ⟨[], false⟩⟩ Try.func56 rfl (Eq.mp (by kernel_rfl) h)

theorem berthlaw01_apartWords_nf (ls_1 : Option Addr) (ls_1l : Nat) (ls_1c : Nat) (w : World) (R : Ending → World → Prop) (h :
  V.when (decide ((0 : Int) ≤ ((ls_1l : Nat) : Int) ∧ (((ls_1l : Nat) : Int) : Int) ≤ ((ls_1l : Nat) : Int) ∧ (((ls_1l : Nat) : Int) : Int) ≤ 281474976710656 ∧ (24 : Int) * ((ls_1l : Nat) : Int) ≤ 281474976710656)) (∃ I2 : Int → World → Prop, ∃ μ3 : Int → World → Nat, I2 0 (World.alloc w (.cells ⟨V.rep (ls_1l : Nat) [(Value.slice none 0 0)]⟩ 46)) ∧
  ∀ i_4 (j5 : Nat → Value) (w6 : World), I2 i_4 w6 →
  (V.sel (decide (i_4 < ((ls_1l : Nat) : Int)))
  (∃ I7 : Int → World → Prop, ∃ μ8 : Int → World → Nat, I7 0 w6 ∧
  ∀ k_9 (j10 : Nat → Value) (w11 : World), I7 k_9 w11 →
  (V.when (decide ((0 : Int) ≤ i_4 ∧ (i_4 : Int) < ((ls_1l : Nat) : Int))) (V.ptr ls_1 fun a12 =>
  ∃ A13, ∃ A13l, ∃ A13c, World.cell? w11 (Addr.add a12 ((Int.toNat i_4) * 1)) = some (Value.slice A13 A13l A13c) ∧
  V.sel (decide (k_9 < ((A13l : Nat) : Int)))
  (V.when (decide ((0 : Int) ≤ i_4 ∧ (i_4 : Int) < ((ls_1l : Nat) : Int))) (V.ptr ls_1 fun a14 =>
  ∃ A15, ∃ A15l, ∃ A15c, World.cell? w11 (Addr.add a14 ((Int.toNat i_4) * 1)) = some (Value.slice A15 A15l A15c) ∧
  V.when (decide ((0 : Int) ≤ k_9 ∧ (k_9 : Int) < ((A15l : Nat) : Int))) (V.ptr A15 fun a16 =>
  (∃ u17, World.cell? w11 (Addr.add (Addr.add a16 ((Int.toNat k_9) * 1)) 0) = some u17) ∧ World.frozen? w11 (Addr.add (Addr.add a16 ((Int.toNat k_9) * 1)) 0) = false ∧
  I7 (IntKind.wrap .i64 (k_9 + 1)) (World.setCell w11 (Addr.add (Addr.add a16 ((Int.toNat k_9) * 1)) 0) (Value.int .u64 (IntKind.wrap .u64 ((IntKind.wrap .i64 ((IntKind.wrap .i64 (1000 * (IntKind.wrap .i64 (i_4 + 1)))) + (Int.tmod k_9 7))))))) ∧ μ8 (IntKind.wrap .i64 (k_9 + 1)) (World.setCell w11 (Addr.add (Addr.add a16 ((Int.toNat k_9) * 1)) 0) (Value.int .u64 (IntKind.wrap .u64 ((IntKind.wrap .i64 ((IntKind.wrap .i64 (1000 * (IntKind.wrap .i64 (i_4 + 1)))) + (Int.tmod k_9 7))))))) < μ8 k_9 w11)))
  (I2 (IntKind.wrap .i64 (i_4 + 1)) w11 ∧ μ3 (IntKind.wrap .i64 (i_4 + 1)) w11 < μ3 i_4 w6))))
  (∃ I18 : Int → World → Prop, ∃ μ19 : Int → World → Nat, I18 0 w6 ∧
  ∀ i_20 (j21 : Nat → Value) (w22 : World), I18 i_20 w22 →
  (V.sel (decide (i_20 < ((ls_1l : Nat) : Int)))
  (V.when (decide ((0 : Int) ≤ i_20 ∧ (i_20 : Int) < ((ls_1l : Nat) : Int))) (V.ptr ls_1 fun a23 =>
  ∃ A24, ∃ A24l, ∃ A24c, World.cell? w22 (Addr.add a23 ((Int.toNat i_20) * 1)) = some (Value.slice A24 A24l A24c) ∧
  ∃ I25 : Option Addr → Nat → Nat → Int → World → Prop, ∃ μ26 : Option Addr → Nat → Nat → Int → World → Nat, I25 A24 A24l A24c 0 w22 ∧
  ∀ g_27 g_27l g_27c k_28 (j29 : Nat → Value) (w30 : World), I25 g_27 g_27l g_27c k_28 w30 →
  (V.sel (decide (k_28 < 40))
  (∃ A31, ∃ A31l, ∃ A31c, ∃ w32, Sem.run Try.prog (Builtin.append_ #[46, 46] 46 #[(Value.slice g_27 g_27l g_27c), (Value.slice (some ⟨Array.size (World.heap w30), 0, none⟩) 1 1)]) (World.alloc w30 (.cells #[(Value.int .u64 (IntKind.wrap .u64 ((IntKind.wrap .i64 ((IntKind.wrap .i64 (1000000 * (IntKind.wrap .i64 (i_20 + 1)))) + k_28)))))] 51)) = .ok (Value.slice A31 A31l A31c) w32 ∧
  I25 A31 A31l A31c (IntKind.wrap .i64 (k_28 + 1)) w32 ∧ μ26 A31 A31l A31c (IntKind.wrap .i64 (k_28 + 1)) w32 < μ26 g_27 g_27l g_27c k_28 w30)
  (V.when (decide ((0 : Int) ≤ i_20 ∧ (i_20 : Int) < (((ls_1l : Nat) : Nat) : Int))) ((∃ u33, World.cell? w30 (Addr.add (Addr.add ⟨Array.size (World.heap w), 0, none⟩ ((Int.toNat i_20) * 1)) 0) = some u33) ∧ World.frozen? w30 (Addr.add (Addr.add ⟨Array.size (World.heap w), 0, none⟩ ((Int.toNat i_20) * 1)) 0) = false ∧
  I18 (IntKind.wrap .i64 (i_20 + 1)) (World.setCell w30 (Addr.add (Addr.add ⟨Array.size (World.heap w), 0, none⟩ ((Int.toNat i_20) * 1)) 0) (Value.slice g_27 g_27l g_27c)) ∧ μ19 (IntKind.wrap .i64 (i_20 + 1)) (World.setCell w30 (Addr.add (Addr.add ⟨Array.size (World.heap w), 0, none⟩ ((Int.toNat i_20) * 1)) 0) (Value.slice g_27 g_27l g_27c)) < μ19 i_20 w22)))))
  (∃ I34 : Int → World → Prop, ∃ μ35 : Int → World → Nat, I34 0 w22 ∧
  ∀ i_36 (j37 : Nat → Value) (w38 : World), I34 i_36 w38 →
  (V.sel (decide (i_36 < ((ls_1l : Nat) : Int)))
  (∃ I39 : Int → World → Prop, ∃ μ40 : Int → World → Nat, I39 0 w38 ∧
  ∀ k_41 (j42 : Nat → Value) (w43 : World), I39 k_41 w43 →
  (V.when (decide ((0 : Int) ≤ i_36 ∧ (i_36 : Int) < ((ls_1l : Nat) : Int))) (V.ptr ls_1 fun a44 =>
  ∃ A45, ∃ A45l, ∃ A45c, World.cell? w43 (Addr.add a44 ((Int.toNat i_36) * 1)) = some (Value.slice A45 A45l A45c) ∧
  V.sel (decide (k_41 < ((A45l : Nat) : Int)))
  (V.when (decide ((0 : Int) ≤ i_36 ∧ (i_36 : Int) < ((ls_1l : Nat) : Int))) (V.ptr ls_1 fun a46 =>
  ∃ A47, ∃ A47l, ∃ A47c, World.cell? w43 (Addr.add a46 ((Int.toNat i_36) * 1)) = some (Value.slice A47 A47l A47c) ∧
  V.when (decide ((0 : Int) ≤ k_41 ∧ (k_41 : Int) < ((A47l : Nat) : Int))) (V.ptr A47 fun a48 =>
  ∃ n49, World.cell? w43 (Addr.add a48 ((Int.toNat k_41) * 1)) = some (Value.int .u64 n49) ∧
  V.sel (n49 != (IntKind.wrap .u64 ((IntKind.wrap .i64 ((IntKind.wrap .i64 (1000 * (IntKind.wrap .i64 (i_36 + 1)))) + (Int.tmod k_41 7))))))
  (R (Ending.returned (Value.bool false)) w43)
  (I39 (IntKind.wrap .i64 (k_41 + 1)) w43 ∧ μ40 (IntKind.wrap .i64 (k_41 + 1)) w43 < μ40 k_41 w43))))
  (∃ I50 : Int → World → Prop, ∃ μ51 : Int → World → Nat, I50 0 w43 ∧
  ∀ k_52 (j53 : Nat → Value) (w54 : World), I50 k_52 w54 →
  (V.sel (decide (k_52 < 40))
  (V.when (decide ((0 : Int) ≤ i_36 ∧ (i_36 : Int) < (((ls_1l : Nat) : Nat) : Int))) (∃ A55, ∃ A55l, ∃ A55c, World.cell? w54 (Addr.add ⟨Array.size (World.heap w), 0, none⟩ ((Int.toNat i_36) * 1)) = some (Value.slice A55 A55l A55c) ∧
  V.when (decide ((0 : Int) ≤ i_36 ∧ (i_36 : Int) < ((ls_1l : Nat) : Int))) (V.ptr ls_1 fun a56 =>
  ∃ A57, ∃ A57l, ∃ A57c, World.cell? w54 (Addr.add a56 ((Int.toNat i_36) * 1)) = some (Value.slice A57 A57l A57c) ∧
  V.when (decide ((0 : Int) ≤ (IntKind.wrap .i64 (((A57l : Nat) : Int) + k_52)) ∧ ((IntKind.wrap .i64 (((A57l : Nat) : Int) + k_52)) : Int) < ((A55l : Nat) : Int))) (V.ptr A55 fun a58 =>
  ∃ n59, World.cell? w54 (Addr.add a58 ((Int.toNat (IntKind.wrap .i64 (((A57l : Nat) : Int) + k_52))) * 1)) = some (Value.int .u64 n59) ∧
  V.sel (n59 != (IntKind.wrap .u64 ((IntKind.wrap .i64 ((IntKind.wrap .i64 (1000000 * (IntKind.wrap .i64 (i_36 + 1)))) + k_52)))))
  (R (Ending.returned (Value.bool false)) (World.drew w54))
  (I50 (IntKind.wrap .i64 (k_52 + 1)) (World.drew w54) ∧ μ51 (IntKind.wrap .i64 (k_52 + 1)) (World.drew w54) < μ51 k_52 w54)))))
  (I34 (IntKind.wrap .i64 (i_36 + 1)) w54 ∧ μ35 (IntKind.wrap .i64 (i_36 + 1)) w54 < μ35 i_36 w38))))))
  (R (Ending.returned (Value.bool true)) w38)))))))) :
  Calls Try.prog 57 #[(Value.slice ls_1 ls_1l ls_1c)] w R :=
  V.calls_of_R ⟨V.assoc [(0, [4]), (1, [5]), (2, [6]), (3, [7, 8]), (4, [9]), (5, [10]), (6, [11])], V.assocP [(29, V.line [0, 1, 2, 3, 4, 5, 6, 7, 8, 9, 10, 11, 12, 13, 14, 15, 16, 17, 18, 19])], V.assocC [], V.assocS [], ⟨[], false⟩⟩ Try.func57 rfl (Eq.mp (by kernel_rfl) h)

theorem bitset_spanOf_nf (a_1 : Option Addr) (b_2 : Option Addr) (w : World) (R : Ending → World → Prop) (h :
  Calls Try.prog 28 #[(Value.pointer a_1)] w fun e4 w5 =>
  ∃ n3, e4 = Ending.returned (Value.int .i64 n3) ∧
  Calls Try.prog 28 #[(Value.pointer b_2)] w5 fun e7 w8 =>
  ∃ n6, e7 = Ending.returned (Value.int .i64 n6) ∧
  Calls Try.prog 69 #[(Value.int .i64 (if n6 > n3 then n6 else n3))] w8 fun e10 w11 =>
  ∃ n9, e10 = Ending.returned (Value.int .i64 n9) ∧
  R (Ending.returned (Value.int .i64 n9)) w11) :
  Calls Try.prog 58 #[(Value.pointer a_1), (Value.pointer b_2)] w R :=
  V.calls_of_R ⟨V.assoc [], V.assocP [], V.assocC [], V.assocS [], ⟨[], false⟩⟩ Try.func58 rfl (Eq.mp (by kernel_rfl) h)

theorem bitset_Set_word_nf (s_1 : Option Addr) (w_2 : Int) (w : World) (R : Ending → World → Prop) (h :
  V.sel (Option.isNone s_1)
  (R (Ending.returned (Value.int .u64 0)) w)
  (V.ptr s_1 fun a3 =>
  ∃ A4, ∃ A4l, ∃ A4c, World.cell? w (Addr.add a3 1) = some (Value.slice A4 A4l A4c) ∧
  V.sel (decide (w_2 ≥ ((A4l : Nat) : Int)))
  (R (Ending.returned (Value.int .u64 0)) w)
  (V.ptr s_1 fun a5 =>
  ∃ A6, ∃ A6l, ∃ A6c, World.cell? w (Addr.add a5 1) = some (Value.slice A6 A6l A6c) ∧
  V.when (decide ((0 : Int) ≤ w_2 ∧ (w_2 : Int) < ((A6l : Nat) : Int))) (V.ptr A6 fun a7 =>
  ∃ n8, World.cell? w (Addr.add a7 ((Int.toNat w_2) * 1)) = some (Value.int .u64 n8) ∧
  R (Ending.returned (Value.int .u64 n8)) w)))) :
  Calls Try.prog 59 #[(Value.pointer s_1), (Value.int .i64 w_2)] w R :=
  V.calls_of_R ⟨V.assoc [], V.assocP [], V.assocC [], V.assocS [], ⟨[], false⟩⟩ Try.func59 rfl (Eq.mp (by kernel_rfl) h)

theorem bitset_Set_Rank_nf (s_1 : Option Addr) (i_2 : Int) (w : World) (R : Ending → World → Prop) (h :
  Calls Try.prog 28 #[(Value.pointer s_1)] w fun e4 w5 =>
  ∃ n3, e4 = Ending.returned (Value.int .i64 n3) ∧
  V.sel (decide ((if n3 < i_2 then n3 else i_2) ≤ 0))
  (R (Ending.returned (Value.int .i64 0)) w5)
  (∃ I6 : Int → Int → World → Prop, ∃ μ7 : Int → Int → World → Nat, I6 0 0 w5 ∧
  ∀ n_8 t15_9 (j10 : Nat → Value) (w11 : World), I6 n_8 t15_9 w11 →
  (V.sel (decide (t15_9 < (IntKind.wrap .i64 (Int.tdiv (if n3 < i_2 then n3 else i_2) 64))))
  (V.ptr s_1 fun a12 =>
  ∃ A13, ∃ A13l, ∃ A13c, World.cell? w11 (Addr.add a12 1) = some (Value.slice A13 A13l A13c) ∧
  V.when (decide ((0 : Int) ≤ t15_9 ∧ (t15_9 : Int) < ((A13l : Nat) : Int))) (V.ptr A13 fun a14 =>
  ∃ n15, World.cell? w11 (Addr.add a14 ((Int.toNat t15_9) * 1)) = some (Value.int .u64 n15) ∧
  Calls Try.prog 73 #[(Value.int .u64 n15)] w11 fun e17 w18 =>
  ∃ n16, e17 = Ending.returned (Value.int .i64 n16) ∧
  I6 (IntKind.wrap .i64 (n_8 + n16)) (IntKind.wrap .i64 (t15_9 + 1)) w18 ∧ μ7 (IntKind.wrap .i64 (n_8 + n16)) (IntKind.wrap .i64 (t15_9 + 1)) w18 < μ7 n_8 t15_9 w11))
  (V.sel ((Int.tmod (if n3 < i_2 then n3 else i_2) 64) != 0)
  (V.ptr s_1 fun a19 =>
  ∃ A20, ∃ A20l, ∃ A20c, World.cell? w11 (Addr.add a19 1) = some (Value.slice A20 A20l A20c) ∧
  V.when (decide ((0 : Int) ≤ (IntKind.wrap .i64 (Int.tdiv (if n3 < i_2 then n3 else i_2) 64)) ∧ ((IntKind.wrap .i64 (Int.tdiv (if n3 < i_2 then n3 else i_2) 64)) : Int) < ((A20l : Nat) : Int))) (V.ptr A20 fun a21 =>
  ∃ n22, World.cell? w11 (Addr.add a21 ((Int.toNat (IntKind.wrap .i64 (Int.tdiv (if n3 < i_2 then n3 else i_2) 64))) * 1)) = some (Value.int .u64 n22) ∧
  V.when (decide (0 ≤ (IntKind.wrap .i64 (64 - (Int.tmod (if n3 < i_2 then n3 else i_2) 64))))) (Calls Try.prog 73 #[(Value.int .u64 (IntKind.wrap .u64 (n22 * 2 ^ (min (Int.toNat (IntKind.wrap .i64 (64 - (Int.tmod (if n3 < i_2 then n3 else i_2) 64)))) 64))))] w11 fun e24 w25 =>
  ∃ n23, e24 = Ending.returned (Value.int .i64 n23) ∧
  R (Ending.returned (Value.int .i64 (IntKind.wrap .i64 (n_8 + n23)))) w25)))
  (R (Ending.returned (Value.int .i64 n_8)) w11))))) :
  Calls Try.prog 60 #[(Value.pointer s_1), (Value.int .i64 i_2)] w R :=
  V.calls_of_R ⟨V.assoc [(0, [5, 15])], V.assocP [], V.assocC [], V.assocS [], ⟨[], false⟩⟩ Try.func60 rfl (Eq.mp (by kernel_rfl) h)

theorem bitset_blank_nf (n_1 : Int) (w : World) (R : Ending → World → Prop) (h :
  Calls Try.prog 69 #[(Value.int .i64 n_1)] w fun e3 w4 =>
  ∃ n2, e3 = Ending.returned (Value.int .i64 n2) ∧
  V.when (decide ((0 : Int) ≤ n2 ∧ (n2 : Int) ≤ n2 ∧ (n2 : Int) ≤ 281474976710656 ∧ (8 : Int) * n2 ≤ 281474976710656)) (R (Ending.returned (Value.pointer (some ⟨Array.size (World.heap (World.alloc w4 (.cells ⟨V.rep (Int.toNat n2) [(Value.int .u64 0)]⟩ 51))), 0, none⟩))) (World.alloc (World.alloc w4 (.cells ⟨V.rep (Int.toNat n2) [(Value.int .u64 0)]⟩ 51)) (.cells #[(Value.int .i64 n_1), (Value.slice (some ⟨Array.size (World.heap w4), 0, none⟩) (Int.toNat n2) (Int.toNat n2))] 66)))) :
  Calls Try.prog 61 #[(Value.int .i64 n_1)] w R :=
  V.calls_of_R ⟨V.assoc [], V.assocP [], V.assocC [], V.assocS [], ⟨[], false⟩⟩ Try.func61 rfl (Eq.mp (by kernel_rfl) h)

theorem bitset_joined_nf (a_1 : Option Addr) (b_2 : Option Addr) (one_f3 : Nat) (one_a4 : Array Value) (one_c5 : Array Value) (w : World) (R : Ending → World → Prop) (h :
  Calls Try.prog 28 #[(Value.pointer a_1)] w fun e7 w8 =>
  ∃ n6, e7 = Ending.returned (Value.int .i64 n6) ∧
  Calls Try.prog 28 #[(Value.pointer b_2)] w8 fun e10 w11 =>
  ∃ n9, e10 = Ending.returned (Value.int .i64 n9) ∧
  Calls Try.prog 61 #[(Value.int .i64 (if n9 > n6 then n9 else n6))] w11 fun e13 w14 =>
  ∃ p12, e13 = Ending.returned (Value.pointer p12) ∧
  V.ptr p12 fun a15 =>
  ∃ A16, ∃ A16l, ∃ A16c, World.cell? w14 (Addr.add a15 1) = some (Value.slice A16 A16l A16c) ∧
  ∃ I17 : Int → World → Prop, ∃ μ18 : Int → World → Nat, I17 0 w14 ∧
  ∀ t20_19 (j20 : Nat → Value) (w21 : World), I17 t20_19 w21 →
  (V.sel (decide (t20_19 < ((A16l : Nat) : Int)))
  (∃ S22 : World → Prop, S22 (World.drew w21) ∧
  V.ptr p12 fun a24 =>
  ∃ A25, ∃ A25l, ∃ A25c, (∀ w23, S22 w23 → World.cell? w23 (Addr.add a24 1) = some (Value.slice A25 A25l A25c)) ∧
  Calls Try.prog 59 #[(Value.pointer a_1), (Value.int .i64 t20_19)] (World.drew w21) fun e27 w28 =>
  ∃ n26, e27 = Ending.returned (Value.int .u64 n26) ∧
  S22 w28 ∧
  Calls Try.prog 59 #[(Value.pointer b_2), (Value.int .i64 t20_19)] w28 fun e30 w31 =>
  ∃ n29, e30 = Ending.returned (Value.int .u64 n29) ∧
  S22 w31 ∧
  V.when (V.hasB Try.prog one_f3) (Calls Try.prog one_f3 ⟨Array.toList one_a4 ++ [(Value.int .u64 n26), (Value.int .u64 n29)] ++ Array.toList one_c5⟩ w31 fun e33 w34 =>
  ∃ n32, e33 = Ending.returned (Value.int .u64 n32) ∧
  S22 w34 ∧
  V.when (decide ((0 : Int) ≤ t20_19 ∧ (t20_19 : Int) < ((A25l : Nat) : Int))) (V.ptr A25 fun a35 =>
  (∃ u36, World.cell? w34 (Addr.add (Addr.add a35 ((Int.toNat t20_19) * 1)) 0) = some u36) ∧ World.frozen? w34 (Addr.add (Addr.add a35 ((Int.toNat t20_19) * 1)) 0) = false ∧
  I17 (IntKind.wrap .i64 (t20_19 + 1)) (World.setCell w34 (Addr.add (Addr.add a35 ((Int.toNat t20_19) * 1)) 0) (Value.int .u64 n32)) ∧ μ18 (IntKind.wrap .i64 (t20_19 + 1)) (World.setCell w34 (Addr.add (Addr.add a35 ((Int.toNat t20_19) * 1)) 0) (Value.int .u64 n32)) < μ18 t20_19 w21)))
  (R (Ending.returned (Value.pointer p12)) w21))) :
  Calls Try.prog 62 #[(Value.pointer a_1), (Value.pointer b_2), (Value.func (.func one_f3) one_a4 one_c5)] w R :=
  V.calls_of_R ⟨V.assoc [(0, [20])], V.assocP [(5, V.line [0, 1, 2, 3, 4, 5, 6, 7, 9, 10, 8, 11, 12, 13, 14])], V.assocC [], V.assocS [], ⟨[], false⟩⟩ Try.func62 rfl (Eq.mp (by kernel_rfl) h)

theorem bitset_Or_l1_nf (x_1 : Int) (y_2 : Int) (w : World) (R : Ending → World → Prop) (h :
  V.lt (IntKind.wrap .u64 ((BitVec.toNat (BitVec.ofInt 64 x_1 ||| BitVec.ofInt 64 y_2) : Nat) : Int)) fun x3 =>
  R (Ending.returned (Value.int .u64 x3)) w) :
  Calls Try.prog 63 #[(Value.int .u64 x_1), (Value.int .u64 y_2)] w R :=
  V.calls_of_R ⟨V.assoc [], V.assocP [], V.assocC [], V.assocS [], ⟨[], false⟩⟩ Try.func63 rfl (Eq.mp (by kernel_rfl) h)

theorem bitset_And_l1_nf (x_1 : Int) (y_2 : Int) (w : World) (R : Ending → World → Prop) (h :
  V.lt (IntKind.wrap .u64 ((BitVec.toNat (BitVec.ofInt 64 x_1 &&& BitVec.ofInt 64 y_2) : Nat) : Int)) fun x3 =>
  R (Ending.returned (Value.int .u64 x3)) w) :
  Calls Try.prog 64 #[(Value.int .u64 x_1), (Value.int .u64 y_2)] w R :=
  V.calls_of_R ⟨V.assoc [], V.assocP [], V.assocC [], V.assocS [], ⟨[], false⟩⟩ Try.func64 rfl (Eq.mp (by kernel_rfl) h)

theorem bitset_Xor_l1_nf (x_1 : Int) (y_2 : Int) (w : World) (R : Ending → World → Prop) (h :
  V.lt (IntKind.wrap .u64 ((BitVec.toNat (BitVec.ofInt 64 x_1 ^^^ BitVec.ofInt 64 y_2) : Nat) : Int)) fun x3 =>
  R (Ending.returned (Value.int .u64 x3)) w) :
  Calls Try.prog 65 #[(Value.int .u64 x_1), (Value.int .u64 y_2)] w R :=
  V.calls_of_R ⟨V.assoc [], V.assocP [], V.assocC [], V.assocS [], ⟨[], false⟩⟩ Try.func65 rfl (Eq.mp (by kernel_rfl) h)

theorem bitset_AndNot_l1_nf (x_1 : Int) (y_2 : Int) (w : World) (R : Ending → World → Prop) (h :
  V.lt (IntKind.wrap .u64 ((BitVec.toNat (BitVec.ofInt 64 x_1 &&& ~~~(BitVec.ofInt 64 y_2)) : Nat) : Int)) fun x3 =>
  R (Ending.returned (Value.int .u64 x3)) w) :
  Calls Try.prog 66 #[(Value.int .u64 x_1), (Value.int .u64 y_2)] w R :=
  V.calls_of_R ⟨V.assoc [], V.assocP [], V.assocC [], V.assocS [], ⟨[], false⟩⟩ Try.func66 rfl (Eq.mp (by kernel_rfl) h)

theorem bitset_Set_inside_nf (s_1 : Option Addr) (i_2 : Int) (w : World) (R : Ending → World → Prop) (h :
  V.sel (decide (i_2 ≥ 0))
  (Calls Try.prog 28 #[(Value.pointer s_1)] w fun e4 w5 =>
  ∃ n3, e4 = Ending.returned (Value.int .i64 n3) ∧
  R (Ending.returned (Value.bool (decide (i_2 < n3)))) w5)
  (R (Ending.returned (Value.bool false)) w)) :
  Calls Try.prog 68 #[(Value.pointer s_1), (Value.int .i64 i_2)] w R :=
  V.calls_of_R ⟨V.assoc [], V.assocP [], V.assocC [], V.assocS [], ⟨[], false⟩⟩ Try.func68 rfl (Eq.mp (by kernel_rfl) h)

theorem bitset_wordCount_nf (n_1 : Int) (w : World) (R : Ending → World → Prop) (h :
  V.lt (IntKind.wrap .i64 (Int.tdiv (IntKind.wrap .i64 (n_1 + 63)) 64)) fun x2 =>
  R (Ending.returned (Value.int .i64 x2)) w) :
  Calls Try.prog 69 #[(Value.int .i64 n_1)] w R :=
  V.calls_of_R ⟨V.assoc [], V.assocP [], V.assocC [], V.assocS [], ⟨[], false⟩⟩ Try.func69 rfl (Eq.mp (by kernel_rfl) h)

theorem berthlaw01_two_nf (kind_1 : Int) (a_2 : Option Addr) (b_3 : Option Addr) (w : World) (R : Ending → World → Prop) (h :
  V.sel (kind_1 == 0)
  (Calls Try.prog 34 #[(Value.pointer a_2), (Value.pointer b_3)] w fun e5 w6 =>
  ∃ p4, e5 = Ending.returned (Value.pointer p4) ∧
  R (Ending.returned (Value.pointer p4)) w6)
  (V.sel (kind_1 == 1)
  (Calls Try.prog 33 #[(Value.pointer a_2), (Value.pointer b_3)] w fun e8 w9 =>
  ∃ p7, e8 = Ending.returned (Value.pointer p7) ∧
  R (Ending.returned (Value.pointer p7)) w9)
  (V.sel (kind_1 == 2)
  (Calls Try.prog 36 #[(Value.pointer a_2), (Value.pointer b_3)] w fun e11 w12 =>
  ∃ p10, e11 = Ending.returned (Value.pointer p10) ∧
  R (Ending.returned (Value.pointer p10)) w12)
  (V.sel (kind_1 == 3)
  (Calls Try.prog 35 #[(Value.pointer a_2), (Value.pointer b_3)] w fun e14 w15 =>
  ∃ p13, e14 = Ending.returned (Value.pointer p13) ∧
  R (Ending.returned (Value.pointer p13)) w15)
  (V.sel (kind_1 == 4)
  (Calls Try.prog 32 #[(Value.pointer a_2), (Value.pointer b_3)] w fun e17 w18 =>
  ∃ p16, e17 = Ending.returned (Value.pointer p16) ∧
  R (Ending.returned (Value.pointer p16)) w18)
  (Calls Try.prog 44 #[(Value.pointer a_2)] w fun e20 w21 =>
  ∃ p19, e20 = Ending.returned (Value.pointer p19) ∧
  R (Ending.returned (Value.pointer p19)) w21)))))) :
  Calls Try.prog 70 #[(Value.int .i64 kind_1), (Value.pointer a_2), (Value.pointer b_3)] w R :=
  V.calls_of_R ⟨V.assoc [], V.assocP [], V.assocC [], V.assocS [], ⟨[], false⟩⟩ Try.func70 rfl (Eq.mp (by kernel_rfl) h)

theorem berthlaw01_turn_nf (s_1 : Option Addr) (i_2 : Int) (w : World) (R : Ending → World → Prop) (h :
  Calls Try.prog 41 #[(Value.pointer s_1), (Value.int .i64 i_2)] w fun e4 w5 =>
  ∃ b3, e4 = Ending.returned (Value.bool b3) ∧
  V.sel (!b3)
  (Calls Try.prog 42 #[(Value.pointer s_1), (Value.int .i64 i_2)] w5 fun e7 w8 =>
  ∃ b6, e7 = Ending.returned (Value.bool b6) ∧
  R (Ending.returned undef) w8)
  (R (Ending.returned undef) w5)) :
  Calls Try.prog 71 #[(Value.pointer s_1), (Value.int .i64 i_2)] w R :=
  V.calls_of_R ⟨V.assoc [], V.assocP [], V.assocC [], V.assocS [], ⟨[], false⟩⟩ Try.func71 rfl (Eq.mp (by kernel_rfl) h)

theorem berthref01_New_nf (n_1 : Int) (w : World) (R : Ending → World → Prop) (h :
  V.sel (decide (n_1 < 0))
  ((∃ u2, World.cell? (World.alloc w (.cells #[(Value.int .i64 0), (Value.slice none 0 0)] 38)) (Addr.add ⟨Array.size (World.heap w), 0, none⟩ 0) = some u2) ∧ World.frozen? (World.alloc w (.cells #[(Value.int .i64 0), (Value.slice none 0 0)] 38)) (Addr.add ⟨Array.size (World.heap w), 0, none⟩ 0) = false ∧
  (∃ u3, World.cell? (World.setCell (World.alloc w (.cells #[(Value.int .i64 0), (Value.slice none 0 0)] 38)) (Addr.add ⟨Array.size (World.heap w), 0, none⟩ 0) (Value.int .i64 0)) (Addr.add ⟨Array.size (World.heap w), 0, none⟩ 1) = some u3) ∧ World.frozen? (World.setCell (World.alloc w (.cells #[(Value.int .i64 0), (Value.slice none 0 0)] 38)) (Addr.add ⟨Array.size (World.heap w), 0, none⟩ 0) (Value.int .i64 0)) (Addr.add ⟨Array.size (World.heap w), 0, none⟩ 1) = false ∧
  ∃ n4, World.cell? (World.setCell (World.setCell (World.alloc w (.cells #[(Value.int .i64 0), (Value.slice none 0 0)] 38)) (Addr.add ⟨Array.size (World.heap w), 0, none⟩ 0) (Value.int .i64 0)) (Addr.add ⟨Array.size (World.heap w), 0, none⟩ 1) (Value.slice none 0 0)) (Addr.add ⟨Array.size (World.heap w), 0, none⟩ 0) = some (Value.int .i64 n4) ∧
  ∃ A5, ∃ A5l, ∃ A5c, World.cell? (World.setCell (World.setCell (World.alloc w (.cells #[(Value.int .i64 0), (Value.slice none 0 0)] 38)) (Addr.add ⟨Array.size (World.heap w), 0, none⟩ 0) (Value.int .i64 0)) (Addr.add ⟨Array.size (World.heap w), 0, none⟩ 1) (Value.slice none 0 0)) (Addr.add ⟨Array.size (World.heap w), 0, none⟩ 1) = some (Value.slice A5 A5l A5c) ∧
  R (Ending.returned (Value.tuple #[(Value.agg #[(Value.int .i64 n4), (Value.slice A5 A5l A5c)]), (Value.int .i64 11)])) (World.setCell (World.setCell (World.alloc w (.cells #[(Value.int .i64 0), (Value.slice none 0 0)] 38)) (Addr.add ⟨Array.size (World.heap w), 0, none⟩ 0) (Value.int .i64 0)) (Addr.add ⟨Array.size (World.heap w), 0, none⟩ 1) (Value.slice none 0 0)))
  (V.sel (decide (n_1 > 65536))
  ((∃ u6, World.cell? (World.alloc w (.cells #[(Value.int .i64 0), (Value.slice none 0 0)] 38)) (Addr.add ⟨Array.size (World.heap w), 0, none⟩ 0) = some u6) ∧ World.frozen? (World.alloc w (.cells #[(Value.int .i64 0), (Value.slice none 0 0)] 38)) (Addr.add ⟨Array.size (World.heap w), 0, none⟩ 0) = false ∧
  (∃ u7, World.cell? (World.setCell (World.alloc w (.cells #[(Value.int .i64 0), (Value.slice none 0 0)] 38)) (Addr.add ⟨Array.size (World.heap w), 0, none⟩ 0) (Value.int .i64 0)) (Addr.add ⟨Array.size (World.heap w), 0, none⟩ 1) = some u7) ∧ World.frozen? (World.setCell (World.alloc w (.cells #[(Value.int .i64 0), (Value.slice none 0 0)] 38)) (Addr.add ⟨Array.size (World.heap w), 0, none⟩ 0) (Value.int .i64 0)) (Addr.add ⟨Array.size (World.heap w), 0, none⟩ 1) = false ∧
  ∃ n8, World.cell? (World.setCell (World.setCell (World.alloc w (.cells #[(Value.int .i64 0), (Value.slice none 0 0)] 38)) (Addr.add ⟨Array.size (World.heap w), 0, none⟩ 0) (Value.int .i64 0)) (Addr.add ⟨Array.size (World.heap w), 0, none⟩ 1) (Value.slice none 0 0)) (Addr.add ⟨Array.size (World.heap w), 0, none⟩ 0) = some (Value.int .i64 n8) ∧
  ∃ A9, ∃ A9l, ∃ A9c, World.cell? (World.setCell (World.setCell (World.alloc w (.cells #[(Value.int .i64 0), (Value.slice none 0 0)] 38)) (Addr.add ⟨Array.size (World.heap w), 0, none⟩ 0) (Value.int .i64 0)) (Addr.add ⟨Array.size (World.heap w), 0, none⟩ 1) (Value.slice none 0 0)) (Addr.add ⟨Array.size (World.heap w), 0, none⟩ 1) = some (Value.slice A9 A9l A9c) ∧
  R (Ending.returned (Value.tuple #[(Value.agg #[(Value.int .i64 n8), (Value.slice A9 A9l A9c)]), (Value.int .i64 11)])) (World.setCell (World.setCell (World.alloc w (.cells #[(Value.int .i64 0), (Value.slice none 0 0)] 38)) (Addr.add ⟨Array.size (World.heap w), 0, none⟩ 0) (Value.int .i64 0)) (Addr.add ⟨Array.size (World.heap w), 0, none⟩ 1) (Value.slice none 0 0)))
  ((∃ u10, World.cell? (World.alloc w (.cells #[(Value.int .i64 0), (Value.slice none 0 0)] 38)) (Addr.add ⟨Array.size (World.heap w), 0, none⟩ 0) = some u10) ∧ World.frozen? (World.alloc w (.cells #[(Value.int .i64 0), (Value.slice none 0 0)] 38)) (Addr.add ⟨Array.size (World.heap w), 0, none⟩ 0) = false ∧
  (∃ u11, World.cell? (World.setCell (World.alloc w (.cells #[(Value.int .i64 0), (Value.slice none 0 0)] 38)) (Addr.add ⟨Array.size (World.heap w), 0, none⟩ 0) (Value.int .i64 n_1)) (Addr.add ⟨Array.size (World.heap w), 0, none⟩ 1) = some u11) ∧ World.frozen? (World.setCell (World.alloc w (.cells #[(Value.int .i64 0), (Value.slice none 0 0)] 38)) (Addr.add ⟨Array.size (World.heap w), 0, none⟩ 0) (Value.int .i64 n_1)) (Addr.add ⟨Array.size (World.heap w), 0, none⟩ 1) = false ∧
  ∃ n12, World.cell? (World.setCell (World.setCell (World.alloc w (.cells #[(Value.int .i64 0), (Value.slice none 0 0)] 38)) (Addr.add ⟨Array.size (World.heap w), 0, none⟩ 0) (Value.int .i64 n_1)) (Addr.add ⟨Array.size (World.heap w), 0, none⟩ 1) (Value.slice none 0 0)) (Addr.add ⟨Array.size (World.heap w), 0, none⟩ 0) = some (Value.int .i64 n12) ∧
  ∃ A13, ∃ A13l, ∃ A13c, World.cell? (World.setCell (World.setCell (World.alloc w (.cells #[(Value.int .i64 0), (Value.slice none 0 0)] 38)) (Addr.add ⟨Array.size (World.heap w), 0, none⟩ 0) (Value.int .i64 n_1)) (Addr.add ⟨Array.size (World.heap w), 0, none⟩ 1) (Value.slice none 0 0)) (Addr.add ⟨Array.size (World.heap w), 0, none⟩ 1) = some (Value.slice A13 A13l A13c) ∧
  R (Ending.returned (Value.tuple #[(Value.agg #[(Value.int .i64 n12), (Value.slice A13 A13l A13c)]), (Value.int .i64 0)])) (World.setCell (World.setCell (World.alloc w (.cells #[(Value.int .i64 0), (Value.slice none 0 0)] 38)) (Addr.add ⟨Array.size (World.heap w), 0, none⟩ 0) (Value.int .i64 n_1)) (Addr.add ⟨Array.size (World.heap w), 0, none⟩ 1) (Value.slice none 0 0))))) :
  Calls Try.prog 72 #[(Value.int .i64 n_1)] w R :=
  V.calls_of_R ⟨V.assoc [], V.assocP [], V.assocC [], V.assocS [], ⟨[], false⟩⟩ Try.func72 rfl (Eq.mp (by kernel_rfl) h)

theorem math_bits_OnesCount64_nf (x_1 : Int) (w : World) (R : Ending → World → Prop) (h :
  V.lt (IntKind.wrap .u64 ((IntKind.wrap .u64 ((BitVec.toNat (BitVec.ofInt 64 (Int.fdiv x_1 (2 ^ 1)) &&& BitVec.ofInt 64 6148914691236517205) : Nat) : Int)) + (IntKind.wrap .u64 ((BitVec.toNat (BitVec.ofInt 64 x_1 &&& BitVec.ofInt 64 6148914691236517205) : Nat) : Int)))) fun x2 =>
  V.lt (IntKind.wrap .u64 ((IntKind.wrap .u64 ((BitVec.toNat (BitVec.ofInt 64 (Int.fdiv x2 (2 ^ 2)) &&& BitVec.ofInt 64 3689348814741910323) : Nat) : Int)) + (IntKind.wrap .u64 ((BitVec.toNat (BitVec.ofInt 64 x2 &&& BitVec.ofInt 64 3689348814741910323) : Nat) : Int)))) fun x3 =>
  V.lt (IntKind.wrap .u64 ((BitVec.toNat (BitVec.ofInt 64 (IntKind.wrap .u64 ((Int.fdiv x3 (2 ^ 4)) + x3)) &&& BitVec.ofInt 64 1085102592571150095) : Nat) : Int)) fun x4 =>
  V.lt (IntKind.wrap .u64 (x4 + (Int.fdiv x4 (2 ^ 8)))) fun x5 =>
  V.lt (IntKind.wrap .u64 (x5 + (Int.fdiv x5 (2 ^ 16)))) fun x6 =>
  V.lt (IntKind.wrap .u64 (x6 + (Int.fdiv x6 (2 ^ 32)))) fun x7 =>
  V.lt (IntKind.wrap .i64 ((BitVec.toNat (BitVec.ofInt 64 (IntKind.wrap .i64 (x7)) &&& BitVec.ofInt 64 127) : Nat) : Int)) fun x8 =>
  R (Ending.returned (Value.int .i64 x8)) w) :
  Calls Try.prog 73 #[(Value.int .u64 x_1)] w R :=
  V.calls_of_R ⟨V.assoc [], V.assocP [], V.assocC [], V.assocS [], ⟨[], false⟩⟩ Try.func73 rfl (Eq.mp (by kernel_rfl) h)

end Go.Proofs.Ytbaglnffgbnekaa
