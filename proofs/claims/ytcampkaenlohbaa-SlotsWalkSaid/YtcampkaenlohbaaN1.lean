/- Normal forms of the program's functions, printed by a program of mine; the kernel checks each. -/
import Derived.Test.YtcampkaenlohbaaProg
import Derived.Test.YtcampkaenlohbaaV2
set_option linter.unusedVariables false
set_option maxRecDepth 100000
namespace Go.Proofs.Ytcampkaenlohbaa
open Go

theorem berthlaw05_SlotsAnswers_nf (script_1 : Option Addr) (script_1l : Nat) (script_1c : Nat) (w : World) (R : Ending → World → Prop) (h :
  Calls Try.prog 9 #[] w fun e3 w4 =>
  ∃ b2, e3 = Ending.returned (Value.bool b2) ∧
  V.sel (!b2)
  (R (Ending.returned (Value.bool false)) w4)
  (Calls Try.prog 19 #[] w4 fun e7 w8 =>
  ∃ p5, ∃ b6, e7 = Ending.returned (Value.tuple #[(Value.pointer p5), (Value.bool b6)]) ∧
  V.sel (!b6)
  (R (Ending.returned (Value.bool false)) w8)
  (∃ I9 : Int → World → Prop, ∃ μ10 : Int → World → Nat, I9 0 w8 ∧
  ∀ t18_11 (j12 : Nat → Value) (w13 : World), I9 t18_11 w13 →
  (V.sel (decide (t18_11 < ((script_1l : Nat) : Int)))
  (V.when (decide ((0 : Int) ≤ t18_11 ∧ (t18_11 : Int) < ((script_1l : Nat) : Int))) (V.ptr script_1 fun a14 =>
  ∃ n15, ∃ n16, ∃ n17, ∃ s18, ∃ n19, V.cellsC (fun a_ x_ => World.cell? w13 a_ = some x_) (Addr.add a14 ((Int.toNat t18_11) * 5)) [(Value.int .i64 n15), (Value.int .i64 n16), (Value.int .i64 n17), (Value.string s18), (Value.int .i64 n19)] ∧
  ∀ w20, w20 = (World.alloc w13 (.cells #[(Value.int .i64 0), (Value.int .i64 0), (Value.int .i64 0), (Value.string ByteArray.empty), (Value.int .i64 0)] 31)) →
  ∃ w21, Sem.run Try.prog (Instr.storeAt 31 (Value.pointer (some ⟨Array.size (World.heap w13), 0, none⟩)) (Value.agg #[(Value.int .i64 n15), (Value.int .i64 n16), (Value.int .i64 n17), (Value.string s18), (Value.int .i64 n19)])) w20 = .ok () w21 ∧
  ∃ n22, ∃ n23, ∃ n24, ∃ s25, ∃ n26, V.cellsC (fun a_ x_ => World.cell? w21 a_ = some x_) ⟨Array.size (World.heap w13), 0, none⟩ [(Value.int .i64 n22), (Value.int .i64 n23), (Value.int .i64 n24), (Value.string s25), (Value.int .i64 n26)] ∧
  Calls Try.prog 20 #[(Value.pointer p5), (Value.agg #[(Value.int .i64 n22), (Value.int .i64 n23), (Value.int .i64 n24), (Value.string s25), (Value.int .i64 n26)])] w21 fun e28 w29 =>
  ∃ b27, e28 = Ending.returned (Value.bool b27) ∧
  V.sel (!b27)
  (R (Ending.returned (Value.bool false)) w29)
  (I9 (IntKind.wrap .i64 (t18_11 + 1)) w29 ∧ μ10 (IntKind.wrap .i64 (t18_11 + 1)) w29 < μ10 t18_11 w13)))
  (∃ I30 : Int → World → Prop, ∃ μ31 : Int → World → Nat, I30 0 w13 ∧
  ∀ t27_32 (j33 : Nat → Value) (w34 : World), I30 t27_32 w34 →
  (V.sel (decide (t27_32 < 4))
  (∃ S35 : World → Prop, S35 (World.drew w34) ∧
  V.ptr p5 fun a37 =>
  V.when (decide ((0 : Int) ≤ t27_32 ∧ (t27_32 : Int) < 4)) (∃ p38, (∀ w36, S35 w36 → World.cell? w36 (Addr.add (Addr.add a37 0) ((Int.toNat t27_32) * 1)) = some (Value.pointer p38)) ∧
  V.ptr p5 fun a39 =>
  V.when (decide ((0 : Int) ≤ t27_32 ∧ (t27_32 : Int) < 4)) (∃ n40, ∃ A41, ∃ A41l, ∃ A41c, V.cellsC (fun a_ x_ => ∀ w36, S35 w36 → World.cell? w36 a_ = some x_) (Addr.add (Addr.add a39 4) ((Int.toNat t27_32) * 2)) [(Value.int .i64 n40), (Value.slice A41 A41l A41c)] ∧
  Calls Try.prog 21 #[(Value.pointer p38), (Value.agg #[(Value.int .i64 n40), (Value.slice A41 A41l A41c)])] (World.drew w34) fun e43 w44 =>
  ∃ b42, e43 = Ending.returned (Value.bool b42) ∧
  S35 w44 ∧
  V.sel (!b42)
  (R (Ending.returned (Value.bool false)) w44)
  (I30 (IntKind.wrap .i64 (t27_32 + 1)) w44 ∧ μ31 (IntKind.wrap .i64 (t27_32 + 1)) w44 < μ31 t27_32 w34))))
  (R (Ending.returned (Value.bool true)) w34))))))) :
  Calls Try.prog 6 #[(Value.slice script_1 script_1l script_1c)] w R :=
  V.calls_of_R ⟨V.assoc [(0, [18]), (1, [27])], V.assocP [(15, V.line [0, 1, 2, 3, 4, 5, 6, 7, 8, 9, 10, 11, 12, 13])], V.assocC [], V.assocS [], ⟨[], true⟩⟩ Try.func6 rfl (Eq.mp (by kernel_rfl) h)

theorem berthlaw05_SlotsCopies_nf (script_1 : Option Addr) (script_1l : Nat) (script_1c : Nat) (one_2 : Option Addr) (one_2l : Nat) (one_2c : Nat) (other_3 : Option Addr) (other_3l : Nat) (other_3c : Nat) (w : World) (R : Ending → World → Prop) (h :
  Calls Try.prog 9 #[] w fun e5 w6 =>
  ∃ b4, e5 = Ending.returned (Value.bool b4) ∧
  V.sel (!b4)
  (R (Ending.returned (Value.bool false)) w6)
  (Calls Try.prog 10 #[(Value.int .i64 5)] w6 fun e9 w10 =>
  ∃ p7, ∃ n8, e9 = Ending.returned (Value.tuple #[(Value.pointer p7), (Value.int .i64 n8)]) ∧
  V.sel (Option.isNone p7)
  (R (Ending.returned (Value.bool false)) w10)
  (V.sel (n8 != 0)
  (R (Ending.returned (Value.bool false)) w10)
  (Calls Try.prog 25 #[(Value.int .i64 5)] w10 fun e14 w15 =>
  ∃ n11, ∃ A12, ∃ A12l, ∃ A12c, ∃ n13, e14 = Ending.returned (Value.tuple #[(Value.agg #[(Value.int .i64 n11), (Value.slice A12 A12l A12c)]), (Value.int .i64 n13)]) ∧
  ∀ w16, w16 = (World.alloc w15 (.cells #[(Value.int .i64 0), (Value.slice none 0 0)] 54)) →
  ∃ w17, Sem.run Try.prog (Instr.storeAt 54 (Value.pointer (some ⟨Array.size (World.heap w15), 0, none⟩)) (Value.agg #[(Value.int .i64 n11), (Value.slice A12 A12l A12c)])) w16 = .ok () w17 ∧
  ∃ n18, ∃ A19, ∃ A19l, ∃ A19c, V.cellsC (fun a_ x_ => World.cell? w17 a_ = some x_) ⟨Array.size (World.heap w15), 0, none⟩ [(Value.int .i64 n18), (Value.slice A19 A19l A19c)] ∧
  Calls Try.prog 26 #[(Value.pointer p7), (Value.agg #[(Value.int .i64 n18), (Value.slice A19 A19l A19c)]), (Value.slice script_1 script_1l script_1c)] w17 fun e23 w24 =>
  ∃ n20, ∃ A21, ∃ A21l, ∃ A21c, ∃ b22, e23 = Ending.returned (Value.tuple #[(Value.agg #[(Value.int .i64 n20), (Value.slice A21 A21l A21c)]), (Value.bool b22)]) ∧
  ∀ w25, w25 = (World.alloc w24 (.cells #[(Value.int .i64 0), (Value.slice none 0 0)] 54)) →
  ∃ w26, Sem.run Try.prog (Instr.storeAt 54 (Value.pointer (some ⟨Array.size (World.heap w24), 0, none⟩)) (Value.agg #[(Value.int .i64 n20), (Value.slice A21 A21l A21c)])) w25 = .ok () w26 ∧
  V.sel (!b22)
  (R (Ending.returned (Value.bool false)) w26)
  (∀ w27, w27 = (World.alloc w26 (.cells #[(Value.slice none 0 0)] 73)) →
  Calls Try.prog 27 #[(Value.pointer p7), (Value.func (.func 28) #[] #[(Value.pointer (some ⟨Array.size (World.heap w26), 0, none⟩))])] w27 fun e29 w30 =>
  ∃ p28, e29 = Ending.returned (Value.pointer p28) ∧
  ∃ n31, ∃ A32, ∃ A32l, ∃ A32c, V.cellsC (fun a_ x_ => World.cell? w30 a_ = some x_) ⟨Array.size (World.heap w24), 0, none⟩ [(Value.int .i64 n31), (Value.slice A32 A32l A32c)] ∧
  Calls Try.prog 23 #[(Value.agg #[(Value.int .i64 n31), (Value.slice A32 A32l A32c)])] w30 fun e34 w35 =>
  ∃ A33, ∃ A33l, ∃ A33c, e34 = Ending.returned (Value.slice A33 A33l A33c) ∧
  ∃ n36, World.cell? w35 (Addr.add ⟨Array.size (World.heap w24), 0, none⟩ 0) = some (Value.int .i64 n36) ∧
  ∀ w37, w37 = (World.alloc w35 (.cells #[(Value.int .i64 0), (Value.slice none 0 0)] 54)) →
  ∃ w38, Sem.run Try.prog (Instr.storeAt 54 (Value.pointer (some ⟨Array.size (World.heap w35), 0, none⟩)) (Value.agg #[(Value.int .i64 n36), (Value.slice none 0 0)])) w37 = .ok () w38 ∧
  V.sel (Option.isNone p28)
  (R (Ending.returned (Value.bool false)) w38)
  (∃ A39, ∃ A39l, ∃ A39c, World.cell? w38 ⟨Array.size (World.heap w26), 0, none⟩ = some (Value.slice A39 A39l A39c) ∧
  V.sel (((A39l : Nat) : Int) != ((A33l : Nat) : Int))
  (R (Ending.returned (Value.bool false)) w38)
  (∃ I40 : Int → World → Prop, ∃ μ41 : Int → World → Nat, I40 0 w38 ∧
  ∀ t63_42 (j43 : Nat → Value) (w44 : World), I40 t63_42 w44 →
  (V.sel (decide (t63_42 < ((A33l : Nat) : Int)))
  (V.when (decide ((0 : Int) ≤ t63_42 ∧ (t63_42 : Int) < ((A33l : Nat) : Int))) (V.ptr A33 fun a45 =>
  ∃ n46, ∃ s47, ∃ n48, V.cellsC (fun a_ x_ => World.cell? w44 a_ = some x_) (Addr.add a45 ((Int.toNat t63_42) * 3)) [(Value.int .i64 n46), (Value.string s47), (Value.int .i64 n48)] ∧
  ∀ w49, w49 = (World.alloc w44 (.cells #[(Value.int .i64 0), (Value.string ByteArray.empty), (Value.int .i64 0)] 66)) →
  ∃ w50, Sem.run Try.prog (Instr.storeAt 66 (Value.pointer (some ⟨Array.size (World.heap w44), 0, none⟩)) (Value.agg #[(Value.int .i64 n46), (Value.string s47), (Value.int .i64 n48)])) w49 = .ok () w50 ∧
  ∃ A51, ∃ A51l, ∃ A51c, World.cell? w50 ⟨Array.size (World.heap w26), 0, none⟩ = some (Value.slice A51 A51l A51c) ∧
  V.when (decide ((0 : Int) ≤ t63_42 ∧ (t63_42 : Int) < ((A51l : Nat) : Int))) (V.ptr A51 fun a52 =>
  ∃ n53, World.cell? w50 (Addr.add a52 ((Int.toNat t63_42) * 1)) = some (Value.int .i64 n53) ∧
  ∃ n54, World.cell? w50 (Addr.add ⟨Array.size (World.heap w44), 0, none⟩ 2) = some (Value.int .i64 n54) ∧
  V.sel (n53 != n54)
  (R (Ending.returned (Value.bool false)) (World.drew w50))
  (∃ A55, ∃ A55l, ∃ A55c, World.cell? (World.drew w50) (Addr.add ⟨Array.size (World.heap w35), 0, none⟩ 1) = some (Value.slice A55 A55l A55c) ∧
  ∃ n56, World.cell? (World.drew w50) (Addr.add ⟨Array.size (World.heap w44), 0, none⟩ 0) = some (Value.int .i64 n56) ∧
  ∃ s57, World.cell? (World.drew w50) (Addr.add ⟨Array.size (World.heap w44), 0, none⟩ 1) = some (Value.string s57) ∧
  ∃ n58, World.cell? (World.drew w50) (Addr.add ⟨Array.size (World.heap w44), 0, none⟩ 2) = some (Value.int .i64 n58) ∧
  ∀ w59, w59 = (World.alloc (World.drew w50) (.cells #[(Value.int .i64 n56), (Value.string s57), (Value.int .i64 (IntKind.wrap .i64 ((IntKind.wrap .i64 ((IntKind.wrap .i64 (3 * n58)) + t63_42)) + 1)))] 66)) →
  ∃ A60, ∃ A60l, ∃ A60c, ∃ w61, Sem.run Try.prog (Builtin.append_ #[52, 52] 52 #[(Value.slice A55 A55l A55c), (Value.slice (some ⟨Array.size (World.heap (World.drew w50)), 0, none⟩) 1 1)]) w59 = .ok (Value.slice A60 A60l A60c) w61 ∧
  ∃ w62, Sem.run Try.prog (Instr.storeAt 52 (Value.pointer (some (Addr.add ⟨Array.size (World.heap w35), 0, none⟩ 1))) (Value.slice A60 A60l A60c)) w61 = .ok () w62 ∧
  I40 (IntKind.wrap .i64 (t63_42 + 1)) w62 ∧ μ41 (IntKind.wrap .i64 (t63_42 + 1)) w62 < μ41 t63_42 w44))))
  (∃ n63, ∃ A64, ∃ A64l, ∃ A64c, V.cellsC (fun a_ x_ => World.cell? w44 a_ = some x_) ⟨Array.size (World.heap w24), 0, none⟩ [(Value.int .i64 n63), (Value.slice A64 A64l A64c)] ∧
  Calls Try.prog 29 #[(Value.pointer p7), (Value.agg #[(Value.int .i64 n63), (Value.slice A64 A64l A64c)])] w44 fun e66 w67 =>
  ∃ b65, e66 = Ending.returned (Value.bool b65) ∧
  V.sel (!b65)
  (R (Ending.returned (Value.bool false)) w67)
  (∃ n68, ∃ A69, ∃ A69l, ∃ A69c, V.cellsC (fun a_ x_ => World.cell? w67 a_ = some x_) ⟨Array.size (World.heap w35), 0, none⟩ [(Value.int .i64 n68), (Value.slice A69 A69l A69c)] ∧
  Calls Try.prog 29 #[(Value.pointer p28), (Value.agg #[(Value.int .i64 n68), (Value.slice A69 A69l A69c)])] w67 fun e71 w72 =>
  ∃ b70, e71 = Ending.returned (Value.bool b70) ∧
  V.sel (!b70)
  (R (Ending.returned (Value.bool false)) w72)
  (∃ n73, ∃ A74, ∃ A74l, ∃ A74c, V.cellsC (fun a_ x_ => World.cell? w72 a_ = some x_) ⟨Array.size (World.heap w24), 0, none⟩ [(Value.int .i64 n73), (Value.slice A74 A74l A74c)] ∧
  Calls Try.prog 26 #[(Value.pointer p7), (Value.agg #[(Value.int .i64 n73), (Value.slice A74 A74l A74c)]), (Value.slice one_2 one_2l one_2c)] w72 fun e78 w79 =>
  ∃ n75, ∃ A76, ∃ A76l, ∃ A76c, ∃ b77, e78 = Ending.returned (Value.tuple #[(Value.agg #[(Value.int .i64 n75), (Value.slice A76 A76l A76c)]), (Value.bool b77)]) ∧
  ∃ w80, Sem.run Try.prog (Instr.storeAt 54 (Value.pointer (some ⟨Array.size (World.heap w24), 0, none⟩)) (Value.agg #[(Value.int .i64 n75), (Value.slice A76 A76l A76c)])) w79 = .ok () w80 ∧
  V.sel (!b77)
  (R (Ending.returned (Value.bool false)) w80)
  (∃ n81, ∃ A82, ∃ A82l, ∃ A82c, V.cellsC (fun a_ x_ => World.cell? w80 a_ = some x_) ⟨Array.size (World.heap w35), 0, none⟩ [(Value.int .i64 n81), (Value.slice A82 A82l A82c)] ∧
  Calls Try.prog 29 #[(Value.pointer p28), (Value.agg #[(Value.int .i64 n81), (Value.slice A82 A82l A82c)])] w80 fun e84 w85 =>
  ∃ b83, e84 = Ending.returned (Value.bool b83) ∧
  V.sel (!b83)
  (R (Ending.returned (Value.bool false)) w85)
  (∃ n86, ∃ A87, ∃ A87l, ∃ A87c, V.cellsC (fun a_ x_ => World.cell? w85 a_ = some x_) ⟨Array.size (World.heap w35), 0, none⟩ [(Value.int .i64 n86), (Value.slice A87 A87l A87c)] ∧
  Calls Try.prog 26 #[(Value.pointer p28), (Value.agg #[(Value.int .i64 n86), (Value.slice A87 A87l A87c)]), (Value.slice other_3 other_3l other_3c)] w85 fun e91 w92 =>
  ∃ n88, ∃ A89, ∃ A89l, ∃ A89c, ∃ b90, e91 = Ending.returned (Value.tuple #[(Value.agg #[(Value.int .i64 n88), (Value.slice A89 A89l A89c)]), (Value.bool b90)]) ∧
  ∃ w93, Sem.run Try.prog (Instr.storeAt 54 (Value.pointer (some ⟨Array.size (World.heap w35), 0, none⟩)) (Value.agg #[(Value.int .i64 n88), (Value.slice A89 A89l A89c)])) w92 = .ok () w93 ∧
  V.sel b90
  (∃ n94, ∃ A95, ∃ A95l, ∃ A95c, V.cellsC (fun a_ x_ => World.cell? w93 a_ = some x_) ⟨Array.size (World.heap w24), 0, none⟩ [(Value.int .i64 n94), (Value.slice A95 A95l A95c)] ∧
  Calls Try.prog 29 #[(Value.pointer p7), (Value.agg #[(Value.int .i64 n94), (Value.slice A95 A95l A95c)])] w93 fun e97 w98 =>
  ∃ b96, e97 = Ending.returned (Value.bool b96) ∧
  V.sel b96
  (∃ n99, ∃ A100, ∃ A100l, ∃ A100c, V.cellsC (fun a_ x_ => World.cell? w98 a_ = some x_) ⟨Array.size (World.heap w35), 0, none⟩ [(Value.int .i64 n99), (Value.slice A100 A100l A100c)] ∧
  Calls Try.prog 29 #[(Value.pointer p28), (Value.agg #[(Value.int .i64 n99), (Value.slice A100 A100l A100c)])] w98 fun e102 w103 =>
  ∃ b101, e102 = Ending.returned (Value.bool b101) ∧
  R (Ending.returned (Value.bool b101)) w103)
  (R (Ending.returned (Value.bool false)) w98))
  (R (Ending.returned (Value.bool false)) w93)))))))))))))) :
  Calls Try.prog 8 #[(Value.slice script_1 script_1l script_1c), (Value.slice one_2 one_2l one_2c), (Value.slice other_3 other_3l other_3c)] w R :=
  V.calls_of_R ⟨V.assoc [(0, [63])], V.assocP [(19, V.line [0, 1, 2, 3, 4, 5, 6])], V.assocC [], V.assocS [], ⟨[], true⟩⟩ Try.func8 rfl (Eq.mp (by kernel_rfl) h)

theorem berthlaw05_fixed_nf  (w : World) (R : Ending → World → Prop) (h :
  Calls Try.prog 10 #[(Value.int .i64 2)] w fun e3 w4 =>
  ∃ p1, ∃ n2, e3 = Ending.returned (Value.tuple #[(Value.pointer p1), (Value.int .i64 n2)]) ∧
  V.sel (Option.isNone p1)
  (R (Ending.returned (Value.bool false)) w4)
  (V.sel (n2 != 0)
  (R (Ending.returned (Value.bool false)) w4)
  (Calls Try.prog 11 #[(Value.pointer p1), (Value.string ⟨#[98]⟩), (Value.int .i64 7)] w4 fun e7 w8 =>
  ∃ n5, ∃ n6, e7 = Ending.returned (Value.tuple #[(Value.int .i64 n5), (Value.int .i64 n6)]) ∧
  Calls Try.prog 11 #[(Value.pointer p1), (Value.string ⟨#[97]⟩), (Value.int .i64 8)] w8 fun e11 w12 =>
  ∃ n9, ∃ n10, e11 = Ending.returned (Value.tuple #[(Value.int .i64 n9), (Value.int .i64 n10)]) ∧
  Calls Try.prog 11 #[(Value.pointer p1), (Value.string ⟨#[99]⟩), (Value.int .i64 9)] w12 fun e15 w16 =>
  ∃ n13, ∃ n14, e15 = Ending.returned (Value.tuple #[(Value.int .i64 n13), (Value.int .i64 n14)]) ∧
  Calls Try.prog 13 #[(Value.pointer p1), (Value.string ⟨#[98]⟩)] w16 fun e19 w20 =>
  ∃ n17, ∃ n18, e19 = Ending.returned (Value.tuple #[(Value.int .i64 n17), (Value.int .i64 n18)]) ∧
  Calls Try.prog 11 #[(Value.pointer p1), (Value.string ⟨#[99]⟩), (Value.int .i64 5)] w20 fun e23 w24 =>
  ∃ n21, ∃ n22, e23 = Ending.returned (Value.tuple #[(Value.int .i64 n21), (Value.int .i64 n22)]) ∧
  V.sel (n5 == 0)
  (V.sel (n6 == 0)
  (V.sel (n9 == 1)
  (V.sel (n10 == 0)
  (V.sel (n14 == 53)
  (V.sel (n17 == 0)
  (V.sel (n18 == 0)
  (V.sel (n21 == 0)
  (R (Ending.returned (Value.bool (n22 == 0))) w24)
  (R (Ending.returned (Value.bool false)) w24))
  (R (Ending.returned (Value.bool false)) w24))
  (R (Ending.returned (Value.bool false)) w24))
  (R (Ending.returned (Value.bool false)) w24))
  (R (Ending.returned (Value.bool false)) w24))
  (R (Ending.returned (Value.bool false)) w24))
  (R (Ending.returned (Value.bool false)) w24))
  (R (Ending.returned (Value.bool false)) w24)))) :
  Calls Try.prog 9 #[] w R :=
  V.calls_of_R ⟨V.assoc [], V.assocP [], V.assocC [], V.assocS [], ⟨[], true⟩⟩ Try.func9 rfl (Eq.mp (by kernel_rfl) h)

theorem slots_New_int__nf (most_1 : Int) (w : World) (R : Ending → World → Prop) (h :
  V.sel (decide (most_1 < 0))
  (R (Ending.returned (Value.tuple #[(Value.pointer none), (Value.int .i64 50)])) w)
  (V.sel (decide (most_1 > 65536))
  (R (Ending.returned (Value.tuple #[(Value.pointer none), (Value.int .i64 50)])) w)
  (∀ w2, w2 = (World.alloc w (.map #[] 0)) →
  ∀ w3, w3 = (World.alloc w2 (.cells #[(Value.int .i64 most_1), (Value.map (some (Array.size (World.heap w)))), (Value.slice none 0 0), (Value.int .i64 0)] 79)) →
  R (Ending.returned (Value.tuple #[(Value.pointer (some ⟨Array.size (World.heap w2), 0, none⟩)), (Value.int .i64 0)])) w3))) :
  Calls Try.prog 10 #[(Value.int .i64 most_1)] w R :=
  V.calls_of_R ⟨V.assoc [], V.assocP [], V.assocC [], V.assocS [], ⟨[], true⟩⟩ Try.func10 rfl (Eq.mp (by kernel_rfl) h)

theorem slots_Table_int__Put_nf (t_1 : Option Addr) (name_2 : ByteArray) (v_3 : Int) (w : World) (R : Ending → World → Prop) (h :
  Calls Try.prog 30 #[(Value.pointer t_1), (Value.string name_2)] w fun e6 w7 =>
  ∃ n4, ∃ n5, e6 = Ending.returned (Value.tuple #[(Value.int .i64 n4), (Value.int .i64 n5)]) ∧
  V.sel (n5 == 0)
  (R (Ending.returned (Value.tuple #[(Value.int .i64 0), (Value.int .i64 52)])) w7)
  (V.sel (n5 != 54)
  (R (Ending.returned (Value.tuple #[(Value.int .i64 0), (Value.int .i64 n5)])) w7)
  (V.ptr t_1 fun a8 =>
  ∃ m9, World.cell? w7 (Addr.add a8 1) = some (Value.map m9) ∧
  ∃ n10, Sem.run Try.prog (Builtin.len_ #[28] 3 #[(Value.map m9)]) (World.drew w7) = .ok (Value.int .i64 n10) (World.drew w7) ∧
  V.ptr t_1 fun a11 =>
  ∃ n12, World.cell? w7 (Addr.add a11 0) = some (Value.int .i64 n12) ∧
  V.sel (decide (n10 ≥ n12))
  (R (Ending.returned (Value.tuple #[(Value.int .i64 0), (Value.int .i64 53)])) (World.drew w7))
  (V.ptr t_1 fun a13 =>
  ∃ n14, World.cell? (World.drew w7) (Addr.add a13 3) = some (Value.int .i64 n14) ∧
  ∃ I15 : Int → World → Prop, ∃ μ16 : Int → World → Nat, I15 n14 (World.drew w7) ∧
  ∀ slot_17 (j18 : Nat → Value) (w19 : World), I15 slot_17 w19 →
  (V.ptr t_1 fun a20 =>
  ∃ A21, ∃ A21l, ∃ A21c, World.cell? w19 (Addr.add a20 2) = some (Value.slice A21 A21l A21c) ∧
  V.sel (decide (slot_17 < ((A21l : Nat) : Int)))
  (V.ptr t_1 fun a22 =>
  ∃ A23, ∃ A23l, ∃ A23c, World.cell? w19 (Addr.add a22 2) = some (Value.slice A23 A23l A23c) ∧
  V.when (decide ((0 : Int) ≤ slot_17 ∧ (slot_17 : Int) < ((A23l : Nat) : Int))) (V.ptr A23 fun a24 =>
  ∃ b25, World.cell? w19 (Addr.add (Addr.add a24 ((Int.toNat slot_17) * 3)) 0) = some (Value.bool b25) ∧
  V.sel b25
  (I15 (IntKind.wrap .i64 (slot_17 + 1)) w19 ∧ μ16 (IntKind.wrap .i64 (slot_17 + 1)) w19 < μ16 slot_17 w19)
  (V.ptr t_1 fun a26 =>
  ∃ A27, ∃ A27l, ∃ A27c, World.cell? w19 (Addr.add a26 2) = some (Value.slice A27 A27l A27c) ∧
  V.sel (slot_17 == ((A27l : Nat) : Int))
  (V.ptr t_1 fun a28 =>
  ∃ A29, ∃ A29l, ∃ A29c, World.cell? w19 (Addr.add a28 2) = some (Value.slice A29 A29l A29c) ∧
  ∀ w30, w30 = (World.alloc w19 (.cells #[(Value.bool false), (Value.string ByteArray.empty), (Value.int .i64 0)] 81)) →
  ∃ A31, ∃ A31l, ∃ A31c, ∃ w32, Sem.run Try.prog (Builtin.append_ #[77, 77] 77 #[(Value.slice A29 A29l A29c), (Value.slice (some ⟨Array.size (World.heap w19), 0, none⟩) 1 1)]) w30 = .ok (Value.slice A31 A31l A31c) w32 ∧
  V.ptr t_1 fun a33 =>
  ∃ w34, Sem.run Try.prog (Instr.storeAt 77 (Value.pointer (some (Addr.add a33 2))) (Value.slice A31 A31l A31c)) w32 = .ok () w34 ∧
  V.ptr t_1 fun a35 =>
  ∃ A36, ∃ A36l, ∃ A36c, World.cell? w34 (Addr.add a35 2) = some (Value.slice A36 A36l A36c) ∧
  V.when (decide ((0 : Int) ≤ slot_17 ∧ (slot_17 : Int) < ((A36l : Nat) : Int))) (V.ptr A36 fun a37 =>
  ∃ w38, Sem.run Try.prog (Instr.storeAt 81 (Value.pointer (some (Addr.add a37 ((Int.toNat slot_17) * 3)))) (Value.agg #[(Value.bool true), (Value.string name_2), (Value.int .i64 v_3)])) w34 = .ok () w38 ∧
  V.ptr t_1 fun a39 =>
  ∃ m40, World.cell? w38 (Addr.add a39 1) = some (Value.map m40) ∧
  ∃ w41, Sem.run Try.prog (Instr.mapUpdate 28 (Value.map m40) (Value.string name_2) (Value.int .i64 slot_17)) w38 = .ok () w41 ∧
  V.ptr t_1 fun a42 =>
  ∃ w43, Sem.run Try.prog (Instr.storeAt 3 (Value.pointer (some (Addr.add a42 3))) (Value.int .i64 (IntKind.wrap .i64 (slot_17 + 1)))) w41 = .ok () w43 ∧
  R (Ending.returned (Value.tuple #[(Value.int .i64 slot_17), (Value.int .i64 0)])) w43))
  (V.ptr t_1 fun a44 =>
  ∃ A45, ∃ A45l, ∃ A45c, World.cell? w19 (Addr.add a44 2) = some (Value.slice A45 A45l A45c) ∧
  V.when (decide ((0 : Int) ≤ slot_17 ∧ (slot_17 : Int) < ((A45l : Nat) : Int))) (V.ptr A45 fun a46 =>
  ∃ w47, Sem.run Try.prog (Instr.storeAt 81 (Value.pointer (some (Addr.add a46 ((Int.toNat slot_17) * 3)))) (Value.agg #[(Value.bool true), (Value.string name_2), (Value.int .i64 v_3)])) w19 = .ok () w47 ∧
  V.ptr t_1 fun a48 =>
  ∃ m49, World.cell? w47 (Addr.add a48 1) = some (Value.map m49) ∧
  ∃ w50, Sem.run Try.prog (Instr.mapUpdate 28 (Value.map m49) (Value.string name_2) (Value.int .i64 slot_17)) w47 = .ok () w50 ∧
  V.ptr t_1 fun a51 =>
  ∃ w52, Sem.run Try.prog (Instr.storeAt 3 (Value.pointer (some (Addr.add a51 3))) (Value.int .i64 (IntKind.wrap .i64 (slot_17 + 1)))) w50 = .ok () w52 ∧
  R (Ending.returned (Value.tuple #[(Value.int .i64 slot_17), (Value.int .i64 0)])) w52)))))
  (V.ptr t_1 fun a53 =>
  ∃ A54, ∃ A54l, ∃ A54c, World.cell? w19 (Addr.add a53 2) = some (Value.slice A54 A54l A54c) ∧
  V.sel (slot_17 == ((A54l : Nat) : Int))
  (V.ptr t_1 fun a55 =>
  ∃ A56, ∃ A56l, ∃ A56c, World.cell? w19 (Addr.add a55 2) = some (Value.slice A56 A56l A56c) ∧
  ∀ w57, w57 = (World.alloc w19 (.cells #[(Value.bool false), (Value.string ByteArray.empty), (Value.int .i64 0)] 81)) →
  ∃ A58, ∃ A58l, ∃ A58c, ∃ w59, Sem.run Try.prog (Builtin.append_ #[77, 77] 77 #[(Value.slice A56 A56l A56c), (Value.slice (some ⟨Array.size (World.heap w19), 0, none⟩) 1 1)]) w57 = .ok (Value.slice A58 A58l A58c) w59 ∧
  V.ptr t_1 fun a60 =>
  ∃ w61, Sem.run Try.prog (Instr.storeAt 77 (Value.pointer (some (Addr.add a60 2))) (Value.slice A58 A58l A58c)) w59 = .ok () w61 ∧
  V.ptr t_1 fun a62 =>
  ∃ A63, ∃ A63l, ∃ A63c, World.cell? w61 (Addr.add a62 2) = some (Value.slice A63 A63l A63c) ∧
  V.when (decide ((0 : Int) ≤ slot_17 ∧ (slot_17 : Int) < ((A63l : Nat) : Int))) (V.ptr A63 fun a64 =>
  ∃ w65, Sem.run Try.prog (Instr.storeAt 81 (Value.pointer (some (Addr.add a64 ((Int.toNat slot_17) * 3)))) (Value.agg #[(Value.bool true), (Value.string name_2), (Value.int .i64 v_3)])) w61 = .ok () w65 ∧
  V.ptr t_1 fun a66 =>
  ∃ m67, World.cell? w65 (Addr.add a66 1) = some (Value.map m67) ∧
  ∃ w68, Sem.run Try.prog (Instr.mapUpdate 28 (Value.map m67) (Value.string name_2) (Value.int .i64 slot_17)) w65 = .ok () w68 ∧
  V.ptr t_1 fun a69 =>
  ∃ w70, Sem.run Try.prog (Instr.storeAt 3 (Value.pointer (some (Addr.add a69 3))) (Value.int .i64 (IntKind.wrap .i64 (slot_17 + 1)))) w68 = .ok () w70 ∧
  R (Ending.returned (Value.tuple #[(Value.int .i64 slot_17), (Value.int .i64 0)])) w70))
  (V.ptr t_1 fun a71 =>
  ∃ A72, ∃ A72l, ∃ A72c, World.cell? w19 (Addr.add a71 2) = some (Value.slice A72 A72l A72c) ∧
  V.when (decide ((0 : Int) ≤ slot_17 ∧ (slot_17 : Int) < ((A72l : Nat) : Int))) (V.ptr A72 fun a73 =>
  ∃ w74, Sem.run Try.prog (Instr.storeAt 81 (Value.pointer (some (Addr.add a73 ((Int.toNat slot_17) * 3)))) (Value.agg #[(Value.bool true), (Value.string name_2), (Value.int .i64 v_3)])) w19 = .ok () w74 ∧
  V.ptr t_1 fun a75 =>
  ∃ m76, World.cell? w74 (Addr.add a75 1) = some (Value.map m76) ∧
  ∃ w77, Sem.run Try.prog (Instr.mapUpdate 28 (Value.map m76) (Value.string name_2) (Value.int .i64 slot_17)) w74 = .ok () w77 ∧
  V.ptr t_1 fun a78 =>
  ∃ w79, Sem.run Try.prog (Instr.storeAt 3 (Value.pointer (some (Addr.add a78 3))) (Value.int .i64 (IntKind.wrap .i64 (slot_17 + 1)))) w77 = .ok () w79 ∧
  R (Ending.returned (Value.tuple #[(Value.int .i64 slot_17), (Value.int .i64 0)])) w79)))))))) :
  Calls Try.prog 11 #[(Value.pointer t_1), (Value.string name_2), (Value.int .i64 v_3)] w R :=
  V.calls_of_R ⟨V.assoc [(0, [10])], V.assocP [(6, V.line [0, 1, 2, 3, 4, 5, 6, 7, 8, 9, 10])], V.assocC [], V.assocS [], ⟨[], true⟩⟩ Try.func11 rfl (Eq.mp (by kernel_rfl) h)

theorem slots_Table_int__Set_nf (t_1 : Option Addr) (name_2 : ByteArray) (v_3 : Int) (w : World) (R : Ending → World → Prop) (h :
  Calls Try.prog 30 #[(Value.pointer t_1), (Value.string name_2)] w fun e6 w7 =>
  ∃ n4, ∃ n5, e6 = Ending.returned (Value.tuple #[(Value.int .i64 n4), (Value.int .i64 n5)]) ∧
  V.sel (n5 == 0)
  (V.ptr t_1 fun a8 =>
  ∃ A9, ∃ A9l, ∃ A9c, World.cell? w7 (Addr.add a8 2) = some (Value.slice A9 A9l A9c) ∧
  V.when (decide ((0 : Int) ≤ n4 ∧ (n4 : Int) < ((A9l : Nat) : Int))) (V.ptr A9 fun a10 =>
  ∃ w11, Sem.run Try.prog (Instr.storeAt 3 (Value.pointer (some (Addr.add (Addr.add a10 ((Int.toNat n4) * 3)) 2))) (Value.int .i64 v_3)) w7 = .ok () w11 ∧
  R (Ending.returned (Value.int .i64 n5)) w11))
  (R (Ending.returned (Value.int .i64 n5)) w7)) :
  Calls Try.prog 12 #[(Value.pointer t_1), (Value.string name_2), (Value.int .i64 v_3)] w R :=
  V.calls_of_R ⟨V.assoc [], V.assocP [], V.assocC [], V.assocS [], ⟨[], true⟩⟩ Try.func12 rfl (Eq.mp (by kernel_rfl) h)

theorem slots_Table_int__Drop_nf (t_1 : Option Addr) (name_2 : ByteArray) (w : World) (R : Ending → World → Prop) (h :
  Calls Try.prog 30 #[(Value.pointer t_1), (Value.string name_2)] w fun e5 w6 =>
  ∃ n3, ∃ n4, e5 = Ending.returned (Value.tuple #[(Value.int .i64 n3), (Value.int .i64 n4)]) ∧
  V.sel (n4 != 0)
  (R (Ending.returned (Value.tuple #[(Value.int .i64 0), (Value.int .i64 n4)])) w6)
  (V.ptr t_1 fun a7 =>
  ∃ m8, World.cell? w6 (Addr.add a7 1) = some (Value.map m8) ∧
  ∃ w9, Sem.run Try.prog (Builtin.delete_ #[28, 9] 0 #[(Value.map m8), (Value.string name_2)]) w6 = .ok undef w9 ∧
  V.ptr t_1 fun a10 =>
  ∃ A11, ∃ A11l, ∃ A11c, World.cell? w9 (Addr.add a10 2) = some (Value.slice A11 A11l A11c) ∧
  V.when (decide ((0 : Int) ≤ n3 ∧ (n3 : Int) < ((A11l : Nat) : Int))) (V.ptr A11 fun a12 =>
  ∃ w13, Sem.run Try.prog (Instr.storeAt 81 (Value.pointer (some (Addr.add a12 ((Int.toNat n3) * 3)))) (Value.agg #[(Value.bool false), (Value.string ByteArray.empty), (Value.int .i64 0)])) w9 = .ok () w13 ∧
  ∃ I14 : World → Prop, ∃ μ15 : World → Nat, I14 w13 ∧
  ∀ (j16 : Nat → Value) (w17 : World), I14 w17 →
  (V.ptr t_1 fun a18 =>
  ∃ A19, ∃ A19l, ∃ A19c, World.cell? w17 (Addr.add a18 2) = some (Value.slice A19 A19l A19c) ∧
  V.sel (decide (((A19l : Nat) : Int) > 0))
  (V.ptr t_1 fun a20 =>
  ∃ A21, ∃ A21l, ∃ A21c, World.cell? w17 (Addr.add a20 2) = some (Value.slice A21 A21l A21c) ∧
  V.ptr t_1 fun a22 =>
  ∃ A23, ∃ A23l, ∃ A23c, World.cell? w17 (Addr.add a22 2) = some (Value.slice A23 A23l A23c) ∧
  V.when (decide ((0 : Int) ≤ (IntKind.wrap .i64 (((A23l : Nat) : Int) - 1)) ∧ ((IntKind.wrap .i64 (((A23l : Nat) : Int) - 1)) : Int) < ((A21l : Nat) : Int))) (V.ptr A21 fun a24 =>
  ∃ b25, World.cell? w17 (Addr.add (Addr.add a24 ((Int.toNat (IntKind.wrap .i64 (((A23l : Nat) : Int) - 1))) * 3)) 0) = some (Value.bool b25) ∧
  V.sel (!b25)
  (V.ptr t_1 fun a26 =>
  ∃ A27, ∃ A27l, ∃ A27c, World.cell? (World.drew w17) (Addr.add a26 2) = some (Value.slice A27 A27l A27c) ∧
  V.ptr t_1 fun a28 =>
  ∃ A29, ∃ A29l, ∃ A29c, World.cell? (World.drew w17) (Addr.add a28 2) = some (Value.slice A29 A29l A29c) ∧
  V.when (decide ((0 : Int) ≤ (IntKind.wrap .i64 (((A29l : Nat) : Int) - 1)) ∧ ((IntKind.wrap .i64 (((A29l : Nat) : Int) - 1)) : Int) ≤ ((A27c : Nat) : Int))) (V.ptr t_1 fun a30 =>
  ∃ w31, Sem.run Try.prog (Instr.storeAt 77 (Value.pointer (some (Addr.add a30 2))) (Value.slice (V.cut A27 A27c 0 3) ((Int.toNat (IntKind.wrap .i64 (((A29l : Nat) : Int) - 1))) - 0) (A27c - 0))) (World.drew (World.drew w17)) = .ok () w31 ∧
  I14 w31 ∧ μ15 w31 < μ15 w17))
  (V.ptr t_1 fun a32 =>
  ∃ n33, World.cell? (World.drew w17) (Addr.add a32 3) = some (Value.int .i64 n33) ∧
  V.ptr t_1 fun a34 =>
  ∃ w35, Sem.run Try.prog (Instr.storeAt 3 (Value.pointer (some (Addr.add a34 3))) (Value.int .i64 (if n3 < n33 then n3 else n33))) (World.drew w17) = .ok () w35 ∧
  R (Ending.returned (Value.tuple #[(Value.int .i64 n3), (Value.int .i64 0)])) w35)))
  (V.ptr t_1 fun a36 =>
  ∃ n37, World.cell? (World.drew w17) (Addr.add a36 3) = some (Value.int .i64 n37) ∧
  V.ptr t_1 fun a38 =>
  ∃ w39, Sem.run Try.prog (Instr.storeAt 3 (Value.pointer (some (Addr.add a38 3))) (Value.int .i64 (if n3 < n37 then n3 else n37))) (World.drew w17) = .ok () w39 ∧
  R (Ending.returned (Value.tuple #[(Value.int .i64 n3), (Value.int .i64 0)])) w39))))) :
  Calls Try.prog 13 #[(Value.pointer t_1), (Value.string name_2)] w R :=
  V.calls_of_R ⟨V.assoc [(0, [])], V.assocP [(6, V.line [0, 1, 2, 3, 4, 5, 6, 7, 8, 9, 10, 11, 12, 13, 14, 15, 16, 17, 18, 19, 20, 21]), (7, V.line [0, 1, 2, 3, 4, 5, 6, 7, 8, 9, 10, 11, 12, 13, 14])], V.assocC [], V.assocS [], ⟨[], true⟩⟩ Try.func13 rfl (Eq.mp (by kernel_rfl) h)

theorem slots_Table_int__Len_nf (t_1 : Option Addr) (w : World) (R : Ending → World → Prop) (h :
  V.sel (Option.isNone t_1)
  (R (Ending.returned (Value.int .i64 0)) w)
  (V.ptr t_1 fun a2 =>
  ∃ m3, World.cell? w (Addr.add a2 1) = some (Value.map m3) ∧
  ∃ n4, ∃ w5, Sem.run Try.prog (Builtin.len_ #[28] 3 #[(Value.map m3)]) w = .ok (Value.int .i64 n4) w5 ∧
  R (Ending.returned (Value.int .i64 n4)) w5)) :
  Calls Try.prog 14 #[(Value.pointer t_1)] w R :=
  V.calls_of_R ⟨V.assoc [], V.assocP [], V.assocC [], V.assocS [], ⟨[], true⟩⟩ Try.func14 rfl (Eq.mp (by kernel_rfl) h)

theorem slots_Table_int__Find_nf (t_1 : Option Addr) (name_2 : ByteArray) (w : World) (R : Ending → World → Prop) (h :
  Calls Try.prog 30 #[(Value.pointer t_1), (Value.string name_2)] w fun e5 w6 =>
  ∃ n3, ∃ n4, e5 = Ending.returned (Value.tuple #[(Value.int .i64 n3), (Value.int .i64 n4)]) ∧
  V.sel (n4 != 0)
  (R (Ending.returned (Value.tuple #[(Value.int .i64 0), (Value.int .i64 0), (Value.bool false)])) w6)
  (V.ptr t_1 fun a7 =>
  ∃ A8, ∃ A8l, ∃ A8c, World.cell? w6 (Addr.add a7 2) = some (Value.slice A8 A8l A8c) ∧
  V.when (decide ((0 : Int) ≤ n3 ∧ (n3 : Int) < ((A8l : Nat) : Int))) (V.ptr A8 fun a9 =>
  ∃ n10, World.cell? w6 (Addr.add (Addr.add a9 ((Int.toNat n3) * 3)) 2) = some (Value.int .i64 n10) ∧
  R (Ending.returned (Value.tuple #[(Value.int .i64 n3), (Value.int .i64 n10), (Value.bool true)])) (World.drew w6)))) :
  Calls Try.prog 15 #[(Value.pointer t_1), (Value.string name_2)] w R :=
  V.calls_of_R ⟨V.assoc [], V.assocP [(5, V.line [0, 1, 2, 3, 4, 5, 6, 7, 8, 9, 10, 11])], V.assocC [], V.assocS [], ⟨[], true⟩⟩ Try.func15 rfl (Eq.mp (by kernel_rfl) h)

theorem berthlaw05_textsAre_nf (a_1 : Option Addr) (a_1l : Nat) (a_1c : Nat) (b_2 : Option Addr) (b_2l : Nat) (b_2c : Nat) (w : World) (R : Ending → World → Prop) (h :
  V.sel (((a_1l : Nat) : Int) != ((b_2l : Nat) : Int))
  (R (Ending.returned (Value.bool false)) w)
  (∃ I3 : Int → World → Prop, ∃ μ4 : Int → World → Nat, I3 0 w ∧
  ∀ t13_5 (j6 : Nat → Value) (w7 : World), I3 t13_5 w7 →
  (V.sel (decide (t13_5 < ((a_1l : Nat) : Int)))
  (V.when (decide ((0 : Int) ≤ t13_5 ∧ (t13_5 : Int) < ((a_1l : Nat) : Int))) (V.ptr a_1 fun a8 =>
  ∃ s9, World.cell? w7 (Addr.add a8 ((Int.toNat t13_5) * 1)) = some (Value.string s9) ∧
  V.when (decide ((0 : Int) ≤ t13_5 ∧ (t13_5 : Int) < ((b_2l : Nat) : Int))) (V.ptr b_2 fun a10 =>
  ∃ s11, World.cell? w7 (Addr.add a10 ((Int.toNat t13_5) * 1)) = some (Value.string s11) ∧
  V.sel (!(ByteArray.toList s9 == ByteArray.toList s11))
  (R (Ending.returned (Value.bool false)) (World.drew w7))
  (I3 (IntKind.wrap .i64 (t13_5 + 1)) (World.drew w7) ∧ μ4 (IntKind.wrap .i64 (t13_5 + 1)) (World.drew w7) < μ4 t13_5 w7))))
  (R (Ending.returned (Value.bool true)) w7)))) :
  Calls Try.prog 16 #[(Value.slice a_1 a_1l a_1c), (Value.slice b_2 b_2l b_2c)] w R :=
  V.calls_of_R ⟨V.assoc [(0, [13])], V.assocP [(6, V.line [0, 1, 2, 3, 4, 5, 6, 7, 8])], V.assocC [], V.assocS [], ⟨[], true⟩⟩ Try.func16 rfl (Eq.mp (by kernel_rfl) h)

theorem slots_Table_int__Names_nf (t_1 : Option Addr) (w : World) (R : Ending → World → Prop) (h :
  Calls Try.prog 14 #[(Value.pointer t_1)] w fun e3 w4 =>
  ∃ n2, e3 = Ending.returned (Value.int .i64 n2) ∧
  V.when (decide ((0 : Int) ≤ 0 ∧ (0 : Int) ≤ n2 ∧ (n2 : Int) ≤ 281474976710656 ∧ (16 : Int) * n2 ≤ 281474976710656)) (∀ w5, w5 = (World.alloc w4 (.cells ⟨V.rep (Int.toNat n2) [(Value.string ByteArray.empty)]⟩ 9)) →
  ∀ w6, w6 = (World.alloc w5 (.cells #[(Value.slice none 0 0)] 41)) →
  ∃ w7, Sem.run Try.prog (Instr.storeAt 41 (Value.pointer (some ⟨Array.size (World.heap w5), 0, none⟩)) (Value.slice (some ⟨Array.size (World.heap w4), 0, none⟩) 0 (Int.toNat n2))) w6 = .ok () w7 ∧
  Calls Try.prog 22 #[(Value.pointer t_1)] w7 fun e9 w10 =>
  ∃ f8, ∃ f8a, ∃ f8c, e9 = Ending.returned (Value.func (.func f8) f8a f8c) ∧
  V.when (V.hasB Try.prog f8 && true) (∀ (Rc11 : Loop) (l12 : Nat) (w13 : World), l12 = Array.size (World.heap w10) + 1 → w13 = World.alloc (World.alloc w10 (.deferred (some []))) (.loop { Rc11 with state := .ready, pending := none }) →
  (∀ y11_16 y12_17 (W14 : World) (R15 : Ending → World → Prop), V.LoopSt W14 l12 Rc11 .ready none →
  (V.LoopSt W14 l12 Rc11 .ready none ∧
  ∃ A18, ∃ A18l, ∃ A18c, World.cell? (V.setLoop W14 l12 Rc11 .busy none) ⟨Array.size (World.heap w5), 0, none⟩ = some (Value.slice A18 A18l A18c) ∧
  ∀ w19, w19 = (World.alloc (V.setLoop W14 l12 Rc11 .busy none) (.cells #[(Value.string y12_17)] 9)) →
  ∃ A20, ∃ A20l, ∃ A20c, ∃ w21, Sem.run Try.prog (Builtin.append_ #[41, 41] 41 #[(Value.slice A18 A18l A18c), (Value.slice (some ⟨Array.size (World.heap (V.setLoop W14 l12 Rc11 .busy none)), 0, none⟩) 1 1)]) w19 = .ok (Value.slice A20 A20l A20c) w21 ∧
  ∃ w22, Sem.run Try.prog (Instr.storeAt 41 (Value.pointer (some ⟨Array.size (World.heap w5), 0, none⟩)) (Value.slice A20 A20l A20c)) w21 = .ok () w22 ∧
  V.LoopSt w22 l12 Rc11 .busy none ∧ R15 (Ending.returned (Value.bool true)) (V.setLoop w22 l12 Rc11 .ready none)) →
  V.Yield Try.prog l12 [(Value.int .i64 y11_16), (Value.string y12_17)] W14 R15) →
  Calls Try.prog f8 ⟨Array.toList f8a ++ [(Value.func (.yield l12) #[] #[])] ++ Array.toList f8c⟩ w13 fun e23 w25 => (∃ v24, e23 = Ending.returned v24) ∧
  ((V.LoopSt w25 l12 Rc11 .ready none ∧
  ∃ A26, ∃ A26l, ∃ A26c, World.cell? (V.setLoop w25 l12 Rc11 .exhausted none) ⟨Array.size (World.heap w5), 0, none⟩ = some (Value.slice A26 A26l A26c) ∧
  Calls Try.prog 31 #[(Value.slice A26 A26l A26c)] (V.setLoop w25 l12 Rc11 .exhausted none) fun e27 w28 =>
  e27 = Ending.returned undef ∧
  ∃ A29, ∃ A29l, ∃ A29c, World.cell? w28 ⟨Array.size (World.heap w5), 0, none⟩ = some (Value.slice A29 A29l A29c) ∧
  V.closeR (Array.size (World.heap w10) :: []) w28 fun w30 =>
  R (Ending.returned (Value.slice A29 A29l A29c)) w30) ∨
  False)))) :
  Calls Try.prog 17 #[(Value.pointer t_1)] w R :=
  V.calls_of_R ⟨V.assoc [], V.assocP [], V.assocC [], V.assocS [(0, [V.Sh.one (.int .i64), V.Sh.one .str])], ⟨[], true⟩⟩ Try.func17 rfl (Eq.mp (by kernel_rfl) h)

theorem slots_Table_int__At_nf (t_1 : Option Addr) (slot_2 : Int) (w : World) (R : Ending → World → Prop) (h :
  V.sel (decide (slot_2 < 0))
  (R (Ending.returned (Value.tuple #[(Value.string ByteArray.empty), (Value.int .i64 0), (Value.bool false)])) w)
  (Calls Try.prog 32 #[(Value.pointer t_1)] w fun e4 w5 =>
  ∃ n3, e4 = Ending.returned (Value.int .i64 n3) ∧
  V.sel (decide (slot_2 ≥ n3))
  (R (Ending.returned (Value.tuple #[(Value.string ByteArray.empty), (Value.int .i64 0), (Value.bool false)])) w5)
  (V.ptr t_1 fun a6 =>
  ∃ A7, ∃ A7l, ∃ A7c, World.cell? w5 (Addr.add a6 2) = some (Value.slice A7 A7l A7c) ∧
  V.when (decide ((0 : Int) ≤ slot_2 ∧ (slot_2 : Int) < ((A7l : Nat) : Int))) (V.ptr A7 fun a8 =>
  ∃ b9, ∃ s10, ∃ n11, V.cellsC (fun a_ x_ => World.cell? w5 a_ = some x_) (Addr.add a8 ((Int.toNat slot_2) * 3)) [(Value.bool b9), (Value.string s10), (Value.int .i64 n11)] ∧
  ∀ w12, w12 = (World.alloc w5 (.cells #[(Value.bool false), (Value.string ByteArray.empty), (Value.int .i64 0)] 81)) →
  ∃ w13, Sem.run Try.prog (Instr.storeAt 81 (Value.pointer (some ⟨Array.size (World.heap w5), 0, none⟩)) (Value.agg #[(Value.bool b9), (Value.string s10), (Value.int .i64 n11)])) w12 = .ok () w13 ∧
  ∃ s14, World.cell? w13 (Addr.add ⟨Array.size (World.heap w5), 0, none⟩ 1) = some (Value.string s14) ∧
  ∃ n15, World.cell? w13 (Addr.add ⟨Array.size (World.heap w5), 0, none⟩ 2) = some (Value.int .i64 n15) ∧
  ∃ b16, World.cell? w13 (Addr.add ⟨Array.size (World.heap w5), 0, none⟩ 0) = some (Value.bool b16) ∧
  R (Ending.returned (Value.tuple #[(Value.string s14), (Value.int .i64 n15), (Value.bool b16)])) (World.drew w13))))) :
  Calls Try.prog 18 #[(Value.pointer t_1), (Value.int .i64 slot_2)] w R :=
  V.calls_of_R ⟨V.assoc [], V.assocP [(5, V.line [0, 1, 2, 3, 4, 5, 6, 7, 8])], V.assocC [], V.assocS [], ⟨[], true⟩⟩ Try.func18 rfl (Eq.mp (by kernel_rfl) h)

theorem berthlaw05_begin_nf  (w : World) (R : Ending → World → Prop) (h :
  ∀ w1, w1 = (World.alloc w (.cells #[(Value.pointer none), (Value.pointer none), (Value.pointer none), (Value.pointer none), (Value.int .i64 0), (Value.slice none 0 0), (Value.int .i64 0), (Value.slice none 0 0), (Value.int .i64 0), (Value.slice none 0 0), (Value.int .i64 0), (Value.slice none 0 0)] 57)) →
  ∀ w2, w2 = (World.alloc w1 (.cells #[(Value.int .i64 2), (Value.int .i64 5), (Value.int .i64 70)] 3)) →
  ∃ I3 : Int → World → Prop, ∃ μ4 : Int → World → Nat, I3 0 w2 ∧
  ∀ t11_5 (j6 : Nat → Value) (w7 : World), I3 t11_5 w7 →
  (V.sel (decide (t11_5 < 3))
  (V.when (decide ((0 : Int) ≤ t11_5 ∧ (t11_5 : Int) < 3)) (∃ n8, World.cell? w7 (Addr.add ⟨Array.size (World.heap w1), 0, none⟩ ((Int.toNat t11_5) * 1)) = some (Value.int .i64 n8) ∧
  Calls Try.prog 10 #[(Value.int .i64 n8)] w7 fun e11 w12 =>
  ∃ p9, ∃ n10, e11 = Ending.returned (Value.tuple #[(Value.pointer p9), (Value.int .i64 n10)]) ∧
  V.sel (Option.isNone p9)
  (R (Ending.returned (Value.tuple #[(Value.pointer none), (Value.bool false)])) w12)
  (V.sel (n10 != 0)
  (R (Ending.returned (Value.tuple #[(Value.pointer none), (Value.bool false)])) w12)
  (V.when (decide ((0 : Int) ≤ t11_5 ∧ (t11_5 : Int) < 4)) (∃ w13, Sem.run Try.prog (Instr.storeAt 24 (Value.pointer (some (Addr.add (Addr.add ⟨Array.size (World.heap w), 0, none⟩ 0) ((Int.toNat t11_5) * 1)))) (Value.pointer p9)) w12 = .ok () w13 ∧
  ∃ S14 : World → Prop, S14 (World.drew w13) ∧
  Calls Try.prog 25 #[(Value.int .i64 n8)] (World.drew w13) fun e19 w20 =>
  ∃ n16, ∃ A17, ∃ A17l, ∃ A17c, ∃ n18, e19 = Ending.returned (Value.tuple #[(Value.agg #[(Value.int .i64 n16), (Value.slice A17 A17l A17c)]), (Value.int .i64 n18)]) ∧
  S14 w20 ∧
  V.when (decide ((0 : Int) ≤ t11_5 ∧ (t11_5 : Int) < 4)) (∃ w21, Sem.run Try.prog (Instr.storeAt 54 (Value.pointer (some (Addr.add (Addr.add ⟨Array.size (World.heap w), 0, none⟩ 4) ((Int.toNat t11_5) * 2)))) (Value.agg #[(Value.int .i64 n16), (Value.slice A17 A17l A17c)])) w20 = .ok () w21 ∧
  S14 w21 ∧
  I3 (IntKind.wrap .i64 (t11_5 + 1)) w21 ∧ μ4 (IntKind.wrap .i64 (t11_5 + 1)) w21 < μ4 t11_5 w7))))))
  (R (Ending.returned (Value.tuple #[(Value.pointer (some ⟨Array.size (World.heap w), 0, none⟩)), (Value.bool true)])) w7))) :
  Calls Try.prog 19 #[] w R :=
  V.calls_of_R ⟨V.assoc [(0, [11])], V.assocP [(9, V.line [0, 1, 2, 7, 8, 3, 4, 5, 6, 9, 10])], V.assocC [], V.assocS [], ⟨[], true⟩⟩ Try.func19 rfl (Eq.mp (by kernel_rfl) h)

end Go.Proofs.Ytcampkaenlohbaa
