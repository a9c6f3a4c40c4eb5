/- Normal forms of the program's functions, printed by a program of mine; the kernel checks each. -/
import Derived.Test.YtbaglnffgbnekaaProg
import Derived.Test.YtbaglnffgbnekaaV
set_option linter.unusedVariables false
set_option maxRecDepth 100000
namespace Go.Proofs.Ytbaglnffgbnekaa
open Go

theorem berthlaw01_BitsetNames_nf  (w : World) (R : Ending → World → Prop) (h :
  Calls Try.prog 11 #[(Value.int .i64 1)] w fun e2 w3 =>
  ∃ n1, e2 = Ending.returned (Value.int .i64 n1) ∧
  V.sel (n1 != 1)
  (R (Ending.returned (Value.bool false)) w3)
  (Calls Try.prog 11 #[(Value.int .i64 11)] w3 fun e5 w6 =>
  ∃ n4, e5 = Ending.returned (Value.int .i64 n4) ∧
  V.sel (n4 != 11)
  (R (Ending.returned (Value.bool false)) w6)
  (Calls Try.prog 11 #[(Value.int .i64 12)] w6 fun e8 w9 =>
  ∃ n7, e8 = Ending.returned (Value.int .i64 n7) ∧
  V.sel (n7 != 12)
  (R (Ending.returned (Value.bool false)) w9)
  (Calls Try.prog 11 #[(Value.int .i64 13)] w9 fun e11 w12 =>
  ∃ n10, e11 = Ending.returned (Value.int .i64 n10) ∧
  V.sel (n10 != 13)
  (R (Ending.returned (Value.bool false)) w12)
  (Calls Try.prog 11 #[(Value.int .i64 14)] w12 fun e14 w15 =>
  ∃ n13, e14 = Ending.returned (Value.int .i64 n13) ∧
  V.sel (n13 != 14)
  (R (Ending.returned (Value.bool false)) w15)
  (R (Ending.returned (Value.bool true)) w15)))))) :
  Calls Try.prog 3 #[] w R :=
  V.calls_of_V ⟨V.assoc [], V.assoc []⟩ Try.func3 rfl (Eq.mp (by kernel_rfl) h)

theorem berthlaw01_BitsetLists_nf (x_1 : Int) (x_2 : Option Addr) (x_2l : Nat) (x_2c : Nat) (x_3 : Option Addr) (x_3l : Nat) (x_3c : Nat) (x_4 : Option Addr) (x_4l : Nat) (x_4c : Nat) (w : World) (R : Ending → World → Prop) (h :
  Calls Try.prog 12 #[] (World.alloc w (.cells #[(Value.int .i64 x_1), (Value.slice x_2 x_2l x_2c), (Value.slice x_3 x_3l x_3c), (Value.slice x_4 x_4l x_4c)] 27)) fun e6 w7 =>
  ∃ b5, e6 = Ending.returned (Value.bool b5) ∧
  V.sel (!b5)
  (Calls Try.prog 12 #[] w7 fun e9 w10 =>
  ∃ b8, e9 = Ending.returned (Value.bool b8) ∧
  R (Ending.returned (Value.bool b8)) w10)
  (∃ n11, World.cell? w7 (Addr.add ⟨Array.size (World.heap w), 0, none⟩ 0) = some (Value.int .i64 n11) ∧
  Calls Try.prog 13 #[(Value.int .i64 n11)] w7 fun e13 w14 =>
  ∃ b12, e13 = Ending.returned (Value.bool b12) ∧
  V.sel (!b12)
  (Calls Try.prog 12 #[] w14 fun e16 w17 =>
  ∃ b15, e16 = Ending.returned (Value.bool b15) ∧
  R (Ending.returned (Value.bool b15)) w17)
  (∃ A18, ∃ A18l, ∃ A18c, World.cell? w14 (Addr.add ⟨Array.size (World.heap w), 0, none⟩ 1) = some (Value.slice A18 A18l A18c) ∧
  V.when (decide ((0 : Int) ≤ 0 ∧ (0 : Int) ≤ (IntKind.wrap .i64 (((A18l : Nat) : Int) + 9)) ∧ ((IntKind.wrap .i64 (((A18l : Nat) : Int) + 9)) : Int) ≤ 281474976710656 ∧ (8 : Int) * (IntKind.wrap .i64 (((A18l : Nat) : Int) + 9)) ≤ 281474976710656)) (∃ I19 : Option Addr → Nat → Nat → Int → World → Prop, ∃ μ20 : Option Addr → Nat → Nat → Int → World → Nat, I19 (some ⟨Array.size (World.heap w14), 0, none⟩) 0 (Int.toNat (IntKind.wrap .i64 (((A18l : Nat) : Int) + 9))) 0 (World.alloc w14 (.cells ⟨V.rep (Int.toNat (IntKind.wrap .i64 (((A18l : Nat) : Int) + 9))) [(Value.int .i64 0)]⟩ 3)) ∧
  ∀ full_21 full_21l full_21c i_22 (j23 : Nat → Value) (w24 : World), I19 full_21 full_21l full_21c i_22 w24 →
  (∃ A25, ∃ A25l, ∃ A25c, World.cell? w24 (Addr.add ⟨Array.size (World.heap w), 0, none⟩ 1) = some (Value.slice A25 A25l A25c) ∧
  V.sel (decide (i_22 < ((A25l : Nat) : Int)))
  (∃ A26, ∃ A26l, ∃ A26c, World.cell? w24 (Addr.add ⟨Array.size (World.heap w), 0, none⟩ 1) = some (Value.slice A26 A26l A26c) ∧
  V.when (decide ((0 : Int) ≤ i_22 ∧ (i_22 : Int) < ((A26l : Nat) : Int))) (V.ptr A26 fun a27 =>
  ∃ n28, World.cell? w24 (Addr.add a27 ((Int.toNat i_22) * 1)) = some (Value.int .i64 n28) ∧
  V.sel (decide (n28 ≥ 0))
  (∃ A29, ∃ A29l, ∃ A29c, World.cell? w24 (Addr.add ⟨Array.size (World.heap w), 0, none⟩ 1) = some (Value.slice A29 A29l A29c) ∧
  V.when (decide ((0 : Int) ≤ i_22 ∧ (i_22 : Int) < ((A29l : Nat) : Int))) (V.ptr A29 fun a30 =>
  ∃ n31, World.cell? w24 (Addr.add a30 ((Int.toNat i_22) * 1)) = some (Value.int .i64 n31) ∧
  ∃ n32, World.cell? w24 (Addr.add ⟨Array.size (World.heap w), 0, none⟩ 0) = some (Value.int .i64 n32) ∧
  V.sel (decide (n31 < n32))
  (∃ A33, ∃ A33l, ∃ A33c, World.cell? (World.drew w24) (Addr.add ⟨Array.size (World.heap w), 0, none⟩ 1) = some (Value.slice A33 A33l A33c) ∧
  V.when (decide ((0 : Int) ≤ i_22 ∧ (i_22 : Int) < ((A33l : Nat) : Int))) (V.ptr A33 fun a34 =>
  ∃ n35, World.cell? (World.drew w24) (Addr.add a34 ((Int.toNat i_22) * 1)) = some (Value.int .i64 n35) ∧
  ∃ A36, ∃ A36l, ∃ A36c, ∃ w37, Sem.run Try.prog (Builtin.append_ #[25, 25] 25 #[(Value.slice full_21 full_21l full_21c), (Value.slice (some ⟨Array.size (World.heap (World.drew w24)), 0, none⟩) 1 1)]) (World.alloc (World.drew w24) (.cells #[(Value.int .i64 n35)] 3)) = .ok (Value.slice A36 A36l A36c) w37 ∧
  I19 A36 A36l A36c (IntKind.wrap .i64 (i_22 + 1)) w37 ∧ μ20 A36 A36l A36c (IntKind.wrap .i64 (i_22 + 1)) w37 < μ20 full_21 full_21l full_21c i_22 w24))
  (I19 full_21 full_21l full_21c (IntKind.wrap .i64 (i_22 + 1)) (World.drew w24) ∧ μ20 full_21 full_21l full_21c (IntKind.wrap .i64 (i_22 + 1)) (World.drew w24) < μ20 full_21 full_21l full_21c i_22 w24)))
  (I19 full_21 full_21l full_21c (IntKind.wrap .i64 (i_22 + 1)) (World.drew w24) ∧ μ20 full_21 full_21l full_21c (IntKind.wrap .i64 (i_22 + 1)) (World.drew w24) < μ20 full_21 full_21l full_21c i_22 w24)))
  (∃ I38 : Option Addr → Nat → Nat → Int → World → Prop, ∃ μ39 : Option Addr → Nat → Nat → Int → World → Nat, I38 full_21 full_21l full_21c 0 w24 ∧
  ∀ full_40 full_40l full_40c k_41 (j42 : Nat → Value) (w43 : World), I38 full_40 full_40l full_40c k_41 w43 →
  (V.sel (decide (k_41 < 9))
  (∃ A44, ∃ A44l, ∃ A44c, ∃ w45, Sem.run Try.prog (Builtin.append_ #[25, 25] 25 #[(Value.slice full_40 full_40l full_40c), (Value.slice (some ⟨Array.size (World.heap w43), 0, none⟩) 1 1)]) (World.alloc w43 (.cells #[(Value.int .i64 (IntKind.wrap .i64 ((-7) - k_41)))] 3)) = .ok (Value.slice A44 A44l A44c) w45 ∧
  I38 A44 A44l A44c (IntKind.wrap .i64 (k_41 + 1)) w45 ∧ μ39 A44 A44l A44c (IntKind.wrap .i64 (k_41 + 1)) w45 < μ39 full_40 full_40l full_40c k_41 w43)
  (Calls Try.prog 14 #[(Value.slice full_40 full_40l full_40c)] w43 fun e47 w48 =>
  ∃ A46, ∃ A46l, ∃ A46c, e47 = Ending.returned (Value.slice A46 A46l A46c) ∧
  ∃ S49 : World → Prop, S49 (World.drew w48) ∧
  ∃ n51, (∀ w50, S49 w50 → World.cell? w50 (Addr.add ⟨Array.size (World.heap w), 0, none⟩ 0) = some (Value.int .i64 n51)) ∧
  V.when (decide ((0 : Int) ≤ ((full_21l : Nat) : Int) ∧ (((full_21l : Nat) : Int) : Int) ≤ ((full_40c : Nat) : Int))) (Calls Try.prog 15 #[(Value.int .i64 n51), (Value.slice (V.cut full_40 full_40c 0 1) ((full_21l : Nat) - 0) (full_40c - 0))] (World.drew w48) fun e54 w55 =>
  ∃ p52, ∃ n53, e54 = Ending.returned (Value.tuple #[(Value.pointer p52), (Value.int .i64 n53)]) ∧
  S49 w55 ∧
  ∃ S56 : World → Prop, S56 (World.drew w55) ∧
  ∃ n58, (∀ w57, S56 w57 → World.cell? w57 (Addr.add ⟨Array.size (World.heap w), 0, none⟩ 0) = some (Value.int .i64 n58)) ∧
  V.when (decide ((0 : Int) ≤ ((full_21l : Nat) : Int) ∧ (((full_21l : Nat) : Int) : Int) ≤ ((full_40c : Nat) : Int))) (Calls Try.prog 15 #[(Value.int .i64 n58), (Value.slice (V.cut full_40 full_40c 0 1) ((full_21l : Nat) - 0) (full_40c - 0))] (World.drew w55) fun e61 w62 =>
  ∃ p59, ∃ n60, e61 = Ending.returned (Value.tuple #[(Value.pointer p59), (Value.int .i64 n60)]) ∧
  S56 w62 ∧
  ∃ n63, World.cell? w62 (Addr.add ⟨Array.size (World.heap w), 0, none⟩ 0) = some (Value.int .i64 n63) ∧
  ∃ A64, ∃ A64l, ∃ A64c, World.cell? w62 (Addr.add ⟨Array.size (World.heap w), 0, none⟩ 2) = some (Value.slice A64 A64l A64c) ∧
  Calls Try.prog 16 #[(Value.int .i64 n63), (Value.slice A64 A64l A64c)] w62 fun e66 w67 =>
  ∃ p65, e66 = Ending.returned (Value.pointer p65) ∧
  Calls Try.prog 17 #[(Value.slice (some ⟨Array.size (World.heap w67), 0, none⟩) 3 3)] (World.alloc w67 (.cells #[(Value.pointer p52), (Value.pointer p59), (Value.pointer p65)] 30)) fun e69 w70 =>
  ∃ b68, e69 = Ending.returned (Value.bool b68) ∧
  V.sel (!b68)
  (R (Ending.returned (Value.bool false)) w70)
  (Calls Try.prog 18 #[(Value.slice full_40 full_40l full_40c), (Value.slice A46 A46l A46c)] w70 fun e72 w73 =>
  ∃ b71, e72 = Ending.returned (Value.bool b71) ∧
  V.sel (!b71)
  (R (Ending.returned (Value.bool false)) w73)
  (∃ S74 : World → Prop, S74 (World.drew w73) ∧
  ∃ n76, (∀ w75, S74 w75 → World.cell? w75 (Addr.add ⟨Array.size (World.heap w), 0, none⟩ 0) = some (Value.int .i64 n76)) ∧
  V.when (decide ((0 : Int) ≤ ((full_21l : Nat) : Int) ∧ (((full_21l : Nat) : Int) : Int) ≤ ((full_40c : Nat) : Int))) (Calls Try.prog 20 #[(Value.int .i64 n76), (Value.slice (V.cut full_40 full_40c 0 1) ((full_21l : Nat) - 0) (full_40c - 0))] (World.drew w73) fun e79 w80 =>
  ∃ n77, ∃ A78, ∃ A78l, ∃ A78c, e79 = Ending.returned (Value.agg #[(Value.int .i64 n77), (Value.slice A78 A78l A78c)]) ∧
  S74 w80 ∧
  Calls Try.prog 19 #[(Value.agg #[(Value.int .i64 n77), (Value.slice A78 A78l A78c)])] w80 fun e82 w83 =>
  ∃ A81, ∃ A81l, ∃ A81c, e82 = Ending.returned (Value.slice A81 A81l A81c) ∧
  S74 w83 ∧
  Calls Try.prog 21 #[(Value.pointer p65)] w83 fun e85 w86 =>
  ∃ A84, ∃ A84l, ∃ A84c, e85 = Ending.returned (Value.slice A84 A84l A84c) ∧
  S74 w86 ∧
  ∃ I87 : Int → World → Prop, ∃ μ88 : Int → World → Nat, I87 0 w86 ∧
  ∀ i_89 (j90 : Nat → Value) (w91 : World), I87 i_89 w91 →
  (V.sel (decide (i_89 < ((full_40l : Nat) : Int)))
  (V.when (decide ((0 : Int) ≤ i_89 ∧ (i_89 : Int) < ((full_40l : Nat) : Int))) (V.ptr full_40 fun a92 =>
  (∃ u93, World.cell? w91 (Addr.add (Addr.add a92 ((Int.toNat i_89) * 1)) 0) = some u93) ∧ World.frozen? w91 (Addr.add (Addr.add a92 ((Int.toNat i_89) * 1)) 0) = false ∧
  I87 (IntKind.wrap .i64 (i_89 + 1)) (World.setCell w91 (Addr.add (Addr.add a92 ((Int.toNat i_89) * 1)) 0) (Value.int .i64 0)) ∧ μ88 (IntKind.wrap .i64 (i_89 + 1)) (World.setCell w91 (Addr.add (Addr.add a92 ((Int.toNat i_89) * 1)) 0) (Value.int .i64 0)) < μ88 i_89 w91))
  (Calls Try.prog 21 #[(Value.pointer p52)] w91 fun e95 w96 =>
  ∃ A94, ∃ A94l, ∃ A94c, e95 = Ending.returned (Value.slice A94 A94l A94c) ∧
  Calls Try.prog 21 #[(Value.pointer p52)] w96 fun e98 w99 =>
  ∃ A97, ∃ A97l, ∃ A97c, e98 = Ending.returned (Value.slice A97 A97l A97c) ∧
  Calls Try.prog 21 #[(Value.pointer p59)] w99 fun e101 w102 =>
  ∃ A100, ∃ A100l, ∃ A100c, e101 = Ending.returned (Value.slice A100 A100l A100c) ∧
  Calls Try.prog 21 #[(Value.pointer p65)] w102 fun e104 w105 =>
  ∃ A103, ∃ A103l, ∃ A103c, e104 = Ending.returned (Value.slice A103 A103l A103c) ∧
  Calls Try.prog 18 #[(Value.slice A94 A94l A94c), (Value.slice A81 A81l A81c)] w105 fun e107 w108 =>
  ∃ b106, e107 = Ending.returned (Value.bool b106) ∧
  V.sel (!b106)
  (R (Ending.returned (Value.bool false)) w108)
  (Calls Try.prog 18 #[(Value.slice A97 A97l A97c), (Value.slice A81 A81l A81c)] w108 fun e110 w111 =>
  ∃ b109, e110 = Ending.returned (Value.bool b109) ∧
  V.sel (!b109)
  (R (Ending.returned (Value.bool false)) w111)
  (Calls Try.prog 18 #[(Value.slice A100 A100l A100c), (Value.slice A81 A81l A81c)] w111 fun e113 w114 =>
  ∃ b112, e113 = Ending.returned (Value.bool b112) ∧
  V.sel (!b112)
  (R (Ending.returned (Value.bool false)) w114)
  (Calls Try.prog 18 #[(Value.slice A103 A103l A103c), (Value.slice A84 A84l A84c)] w114 fun e116 w117 =>
  ∃ b115, e116 = Ending.returned (Value.bool b115) ∧
  V.sel (!b115)
  (R (Ending.returned (Value.bool false)) w117)
  (Calls Try.prog 22 #[(Value.slice (some ⟨Array.size (World.heap w117), 0, none⟩) 5 5)] (World.alloc w117 (.cells #[(Value.slice A94 A94l A94c), (Value.slice A97 A97l A97c), (Value.slice A84 A84l A84c), (Value.slice A100 A100l A100c), (Value.slice A103 A103l A103c)] 25)) fun e119 w120 =>
  ∃ b118, e119 = Ending.returned (Value.bool b118) ∧
  V.sel (!b118)
  (R (Ending.returned (Value.bool false)) w120)
  (Calls Try.prog 21 #[(Value.pointer p52)] w120 fun e122 w123 =>
  ∃ A121, ∃ A121l, ∃ A121c, e122 = Ending.returned (Value.slice A121 A121l A121c) ∧
  Calls Try.prog 18 #[(Value.slice A121 A121l A121c), (Value.slice A81 A81l A81c)] w123 fun e125 w126 =>
  ∃ b124, e125 = Ending.returned (Value.bool b124) ∧
  V.sel b124
  (∃ n127, World.cell? w126 (Addr.add ⟨Array.size (World.heap w), 0, none⟩ 0) = some (Value.int .i64 n127) ∧
  Calls Try.prog 23 #[(Value.pointer p52), (Value.int .i64 n127)] w126 fun e129 w130 =>
  ∃ b128, e129 = Ending.returned (Value.bool b128) ∧
  R (Ending.returned (Value.bool b128)) w130)
  (R (Ending.returned (Value.bool false)) w126))))))))))))))))))))) :
  Calls Try.prog 4 #[(Value.agg #[(Value.int .i64 x_1), (Value.slice x_2 x_2l x_2c), (Value.slice x_3 x_3l x_3c), (Value.slice x_4 x_4l x_4c)])] w R :=
  V.calls_of_V ⟨V.assoc [(0, [3, 4]), (1, [3, 6]), (2, [15])], V.assoc [(7, [0, 1, 2, 3, 4, 5, 6, 7, 8, 9, 10, 11, 12, 13, 14, 15]), (15, [0, 1, 2, 3, 4, 5, 6, 7, 8, 9, 10]), (16, [0, 1, 2, 3, 4, 5, 6, 7, 8, 9, 10]), (20, [0, 1, 2, 3, 4, 7, 5, 6, 8, 9, 10])]⟩ Try.func4 rfl (Eq.mp (by kernel_rfl) h)

theorem berthlaw01_BitsetWords_nf (x_1 : Int) (x_2 : Option Addr) (x_2l : Nat) (x_2c : Nat) (x_3 : Option Addr) (x_3l : Nat) (x_3c : Nat) (x_4 : Option Addr) (x_4l : Nat) (x_4c : Nat) (w : World) (R : Ending → World → Prop) (h :
  Calls Try.prog 12 #[] (World.alloc w (.cells #[(Value.int .i64 x_1), (Value.slice x_2 x_2l x_2c), (Value.slice x_3 x_3l x_3c), (Value.slice x_4 x_4l x_4c)] 27)) fun e6 w7 =>
  ∃ b5, e6 = Ending.returned (Value.bool b5) ∧
  V.sel (!b5)
  (R (Ending.returned (Value.bool false)) w7)
  (∃ n8, World.cell? w7 (Addr.add ⟨Array.size (World.heap w), 0, none⟩ 0) = some (Value.int .i64 n8) ∧
  Calls Try.prog 13 #[(Value.int .i64 n8)] w7 fun e10 w11 =>
  ∃ b9, e10 = Ending.returned (Value.bool b9) ∧
  V.sel (!b9)
  (∃ n12, World.cell? w11 (Addr.add ⟨Array.size (World.heap w), 0, none⟩ 0) = some (Value.int .i64 n12) ∧
  Calls Try.prog 24 #[(Value.int .i64 n12), (Value.slice none 0 0)] w11 fun e15 w16 =>
  ∃ p13, ∃ n14, e15 = Ending.returned (Value.tuple #[(Value.pointer p13), (Value.int .i64 n14)]) ∧
  Calls Try.prog 11 #[(Value.int .i64 n14)] w16 fun e18 w19 =>
  ∃ n17, e18 = Ending.returned (Value.int .i64 n17) ∧
  R (Ending.returned (Value.bool (n17 == 11))) w19)
  (∃ n20, World.cell? w11 (Addr.add ⟨Array.size (World.heap w), 0, none⟩ 0) = some (Value.int .i64 n20) ∧
  ∃ A21, ∃ A21l, ∃ A21c, World.cell? w11 (Addr.add ⟨Array.size (World.heap w), 0, none⟩ 1) = some (Value.slice A21 A21l A21c) ∧
  Calls Try.prog 16 #[(Value.int .i64 n20), (Value.slice A21 A21l A21c)] w11 fun e23 w24 =>
  ∃ p22, e23 = Ending.returned (Value.pointer p22) ∧
  V.sel (Option.isNone p22)
  (R (Ending.returned (Value.bool false)) w24)
  (Calls Try.prog 25 #[(Value.pointer p22)] w24 fun e26 w27 =>
  ∃ A25, ∃ A25l, ∃ A25c, e26 = Ending.returned (Value.slice A25 A25l A25c) ∧
  ∃ S28 : World → Prop, S28 (World.drew w27) ∧
  ∃ n30, (∀ w29, S28 w29 → World.cell? w29 (Addr.add ⟨Array.size (World.heap w), 0, none⟩ 0) = some (Value.int .i64 n30)) ∧
  Calls Try.prog 26 #[(Value.slice A25 A25l A25c)] (World.drew w27) fun e32 w33 =>
  ∃ A31, ∃ A31l, ∃ A31c, e32 = Ending.returned (Value.slice A31 A31l A31c) ∧
  S28 w33 ∧
  Calls Try.prog 24 #[(Value.int .i64 n30), (Value.slice A31 A31l A31c)] w33 fun e36 w37 =>
  ∃ p34, ∃ n35, e36 = Ending.returned (Value.tuple #[(Value.pointer p34), (Value.int .i64 n35)]) ∧
  S28 w37 ∧
  ∃ S38 : World → Prop, S38 (World.drew w37) ∧
  Calls Try.prog 11 #[(Value.int .i64 n35)] (World.drew w37) fun e41 w42 =>
  ∃ n40, e41 = Ending.returned (Value.int .i64 n40) ∧
  S38 w42 ∧
  V.sel (n40 != 0)
  (R (Ending.returned (Value.bool false)) w42)
  (V.sel (Option.isNone p34)
  (R (Ending.returned (Value.bool false)) w42)
  (Calls Try.prog 27 #[(Value.pointer p22), (Value.pointer p34)] w42 fun e44 w45 =>
  ∃ b43, e44 = Ending.returned (Value.bool b43) ∧
  S38 w45 ∧
  V.sel (!b43)
  (R (Ending.returned (Value.bool false)) w45)
  (∃ n46, (∀ w39, S38 w39 → World.cell? w39 (Addr.add ⟨Array.size (World.heap w), 0, none⟩ 0) = some (Value.int .i64 n46)) ∧
  Calls Try.prog 28 #[(Value.pointer p34)] w45 fun e48 w49 =>
  ∃ n47, e48 = Ending.returned (Value.int .i64 n47) ∧
  S38 w49 ∧
  V.sel (n47 != n46)
  (R (Ending.returned (Value.bool false)) w49)
  (∃ n50, (∀ w39, S38 w39 → World.cell? w39 (Addr.add ⟨Array.size (World.heap w), 0, none⟩ 0) = some (Value.int .i64 n50)) ∧
  V.sel (((A25l : Nat) : Int) != (IntKind.wrap .i64 (Int.tdiv (IntKind.wrap .i64 (n50 + 63)) 64)))
  (R (Ending.returned (Value.bool false)) w49)
  (∃ I51 : Int → Int → World → Prop, ∃ μ52 : Int → Int → World → Nat, I51 0 0 w49 ∧
  ∀ n_53 i_54 (j55 : Nat → Value) (w56 : World), I51 n_53 i_54 w56 →
  (V.sel (decide (i_54 < ((A25l : Nat) : Int)))
  (V.when (decide ((0 : Int) ≤ i_54 ∧ (i_54 : Int) < ((A25l : Nat) : Int))) (V.ptr A25 fun a57 =>
  ∃ n58, World.cell? w56 (Addr.add a57 ((Int.toNat i_54) * 1)) = some (Value.int .u64 n58) ∧
  ∃ I59 : Int → Int → World → Prop, ∃ μ60 : Int → Int → World → Nat, I59 n_53 n58 w56 ∧
  ∀ n_61 v_62 (j63 : Nat → Value) (w64 : World), I59 n_61 v_62 w64 →
  (V.sel (v_62 != 0)
  (V.lt (IntKind.wrap .u64 ((BitVec.toNat (BitVec.ofInt 64 v_62 &&& BitVec.ofInt 64 (IntKind.wrap .u64 (v_62 - 1))) : Nat) : Int)) fun x65 =>
  I59 (IntKind.wrap .i64 (n_61 + 1)) x65 w64 ∧ μ60 (IntKind.wrap .i64 (n_61 + 1)) x65 w64 < μ60 n_61 v_62 w64)
  (I51 n_61 (IntKind.wrap .i64 (i_54 + 1)) w64 ∧ μ52 n_61 (IntKind.wrap .i64 (i_54 + 1)) w64 < μ52 n_53 i_54 w56))))
  (Calls Try.prog 29 #[(Value.pointer p22)] w56 fun e67 w68 =>
  ∃ n66, e67 = Ending.returned (Value.int .i64 n66) ∧
  V.sel (n_53 != n66)
  (R (Ending.returned (Value.bool false)) w68)
  (Calls Try.prog 21 #[(Value.pointer p22)] w68 fun e70 w71 =>
  ∃ A69, ∃ A69l, ∃ A69c, e70 = Ending.returned (Value.slice A69 A69l A69c) ∧
  ∃ I72 : Int → World → Prop, ∃ μ73 : Int → World → Nat, I72 0 w71 ∧
  ∀ i_74 (j75 : Nat → Value) (w76 : World), I72 i_74 w76 →
  (V.sel (decide (i_74 < ((A69l : Nat) : Int)))
  (V.when (decide ((0 : Int) ≤ i_74 ∧ (i_74 : Int) < ((A69l : Nat) : Int))) (V.ptr A69 fun a77 =>
  ∃ n78, World.cell? w76 (Addr.add a77 ((Int.toNat i_74) * 1)) = some (Value.int .i64 n78) ∧
  V.sel (decide (n78 < 0))
  (R (Ending.returned (Value.bool false)) (World.drew w76))
  (V.when (decide ((0 : Int) ≤ i_74 ∧ (i_74 : Int) < ((A69l : Nat) : Int))) (V.ptr A69 fun a79 =>
  ∃ n80, World.cell? w76 (Addr.add a79 ((Int.toNat i_74) * 1)) = some (Value.int .i64 n80) ∧
  ∃ n81, World.cell? w76 (Addr.add ⟨Array.size (World.heap w), 0, none⟩ 0) = some (Value.int .i64 n81) ∧
  V.sel (decide (n80 ≥ n81))
  (R (Ending.returned (Value.bool false)) (World.drew w76))
  (V.when (decide ((0 : Int) ≤ i_74 ∧ (i_74 : Int) < ((A69l : Nat) : Int))) (V.ptr A69 fun a82 =>
  ∃ n83, World.cell? w76 (Addr.add a82 ((Int.toNat i_74) * 1)) = some (Value.int .i64 n83) ∧
  V.when (decide ((0 : Int) ≤ (IntKind.wrap .i64 (Int.tdiv n83 64)) ∧ ((IntKind.wrap .i64 (Int.tdiv n83 64)) : Int) < ((A25l : Nat) : Int))) (V.ptr A25 fun a84 =>
  ∃ n85, World.cell? w76 (Addr.add a84 ((Int.toNat (IntKind.wrap .i64 (Int.tdiv n83 64))) * 1)) = some (Value.int .u64 n85) ∧
  V.when (decide ((0 : Int) ≤ i_74 ∧ (i_74 : Int) < ((A69l : Nat) : Int))) (V.ptr A69 fun a86 =>
  ∃ n87, World.cell? w76 (Addr.add a86 ((Int.toNat i_74) * 1)) = some (Value.int .i64 n87) ∧
  V.when (decide (0 ≤ (IntKind.wrap .u64 ((Int.tmod n87 64))))) (V.sel ((IntKind.wrap .u64 ((BitVec.toNat (BitVec.ofInt 64 (Int.fdiv n85 (2 ^ (min (Int.toNat (IntKind.wrap .u64 ((Int.tmod n87 64)))) 64))) &&& BitVec.ofInt 64 1) : Nat) : Int)) != 1)
  (R (Ending.returned (Value.bool false)) (World.drew w76))
  (I72 (IntKind.wrap .i64 (i_74 + 1)) (World.drew w76) ∧ μ73 (IntKind.wrap .i64 (i_74 + 1)) (World.drew w76) < μ73 i_74 w76))))))))))
  (∃ n88, World.cell? w76 (Addr.add ⟨Array.size (World.heap w), 0, none⟩ 0) = some (Value.int .i64 n88) ∧
  Calls Try.prog 30 #[(Value.int .i64 n88), (Value.slice A25 A25l A25c)] w76 fun e90 w91 =>
  ∃ b89, e90 = Ending.returned (Value.bool b89) ∧
  R (Ending.returned (Value.bool b89)) w91)))))))))))))) :
  Calls Try.prog 5 #[(Value.agg #[(Value.int .i64 x_1), (Value.slice x_2 x_2l x_2c), (Value.slice x_3 x_3l x_3c), (Value.slice x_4 x_4l x_4c)])] w R :=
  V.calls_of_V ⟨V.assoc [(0, [9, 10]), (1, [9, 11]), (2, [13])], V.assoc [(10, [0, 1, 2, 3, 4, 5, 6, 7, 8, 9]), (11, [0, 1, 2, 3, 4, 5, 6, 7, 8, 9, 10, 11, 12, 13, 14, 16, 17, 15, 18, 19, 20, 21, 22, 23, 24, 25, 26, 27, 28]), (27, [0, 1, 2, 3, 4, 5, 6, 7, 8, 9, 10, 11, 12, 13, 14, 15, 16, 17, 18, 19, 20, 21, 22, 23, 24, 25, 26, 27, 28, 29, 30, 31, 32])]⟩ Try.func5 rfl (Eq.mp (by kernel_rfl) h)

theorem berthlaw01_BitsetAlgebra_nf (x_1 : Int) (x_2 : Option Addr) (x_2l : Nat) (x_2c : Nat) (x_3 : Option Addr) (x_3l : Nat) (x_3c : Nat) (x_4 : Option Addr) (x_4l : Nat) (x_4c : Nat) (w : World) (R : Ending → World → Prop) (h :
  Calls Try.prog 12 #[] (World.alloc w (.cells #[(Value.int .i64 x_1), (Value.slice x_2 x_2l x_2c), (Value.slice x_3 x_3l x_3c), (Value.slice x_4 x_4l x_4c)] 27)) fun e6 w7 =>
  ∃ b5, e6 = Ending.returned (Value.bool b5) ∧
  V.sel (!b5)
  (R (Ending.returned (Value.bool false)) w7)
  (∃ n8, World.cell? w7 (Addr.add ⟨Array.size (World.heap w), 0, none⟩ 0) = some (Value.int .i64 n8) ∧
  Calls Try.prog 13 #[(Value.int .i64 n8)] w7 fun e10 w11 =>
  ∃ b9, e10 = Ending.returned (Value.bool b9) ∧
  V.sel (!b9)
  (∃ n12, World.cell? w11 (Addr.add ⟨Array.size (World.heap w), 0, none⟩ 0) = some (Value.int .i64 n12) ∧
  Calls Try.prog 31 #[(Value.int .i64 n12)] w11 fun e15 w16 =>
  ∃ p13, ∃ n14, e15 = Ending.returned (Value.tuple #[(Value.pointer p13), (Value.int .i64 n14)]) ∧
  Calls Try.prog 11 #[(Value.int .i64 n14)] w16 fun e18 w19 =>
  ∃ n17, e18 = Ending.returned (Value.int .i64 n17) ∧
  R (Ending.returned (Value.bool (n17 == 11))) w19)
  (∃ S20 : World → Prop, S20 (World.drew w11) ∧
  ∃ n22, (∀ w21, S20 w21 → World.cell? w21 (Addr.add ⟨Array.size (World.heap w), 0, none⟩ 0) = some (Value.int .i64 n22)) ∧
  ∃ A23, ∃ A23l, ∃ A23c, (∀ w21, S20 w21 → World.cell? w21 (Addr.add ⟨Array.size (World.heap w), 0, none⟩ 1) = some (Value.slice A23 A23l A23c)) ∧
  ∃ n24, (∀ w21, S20 w21 → World.cell? w21 (Addr.add ⟨Array.size (World.heap w), 0, none⟩ 0) = some (Value.int .i64 n24)) ∧
  ∃ A25, ∃ A25l, ∃ A25c, (∀ w21, S20 w21 → World.cell? w21 (Addr.add ⟨Array.size (World.heap w), 0, none⟩ 2) = some (Value.slice A25 A25l A25c)) ∧
  ∃ n26, (∀ w21, S20 w21 → World.cell? w21 (Addr.add ⟨Array.size (World.heap w), 0, none⟩ 0) = some (Value.int .i64 n26)) ∧
  ∃ A27, ∃ A27l, ∃ A27c, (∀ w21, S20 w21 → World.cell? w21 (Addr.add ⟨Array.size (World.heap w), 0, none⟩ 3) = some (Value.slice A27 A27l A27c)) ∧
  Calls Try.prog 16 #[(Value.int .i64 n22), (Value.slice A23 A23l A23c)] (World.drew w11) fun e29 w30 =>
  ∃ p28, e29 = Ending.returned (Value.pointer p28) ∧
  S20 w30 ∧
  Calls Try.prog 16 #[(Value.int .i64 n24), (Value.slice A25 A25l A25c)] w30 fun e32 w33 =>
  ∃ p31, e32 = Ending.returned (Value.pointer p31) ∧
  S20 w33 ∧
  Calls Try.prog 16 #[(Value.int .i64 n26), (Value.slice A27 A27l A27c)] w33 fun e35 w36 =>
  ∃ p34, e35 = Ending.returned (Value.pointer p34) ∧
  S20 w36 ∧
  Calls Try.prog 17 #[(Value.slice (some ⟨Array.size (World.heap w36), 0, none⟩) 3 3)] (World.alloc w36 (.cells #[(Value.pointer p28), (Value.pointer p31), (Value.pointer p34)] 30)) fun e38 w39 =>
  ∃ b37, e38 = Ending.returned (Value.bool b37) ∧
  V.sel (!b37)
  (R (Ending.returned (Value.bool false)) w39)
  (Calls Try.prog 33 #[(Value.pointer p28), (Value.pointer p31)] w39 fun e41 w42 =>
  ∃ p40, e41 = Ending.returned (Value.pointer p40) ∧
  Calls Try.prog 32 #[(Value.pointer p40), (Value.pointer p34)] w42 fun e44 w45 =>
  ∃ p43, e44 = Ending.returned (Value.pointer p43) ∧
  Calls Try.prog 32 #[(Value.pointer p28), (Value.pointer p34)] w45 fun e47 w48 =>
  ∃ p46, e47 = Ending.returned (Value.pointer p46) ∧
  Calls Try.prog 32 #[(Value.pointer p31), (Value.pointer p34)] w48 fun e50 w51 =>
  ∃ p49, e50 = Ending.returned (Value.pointer p49) ∧
  Calls Try.prog 34 #[(Value.pointer p46), (Value.pointer p49)] w51 fun e53 w54 =>
  ∃ p52, e53 = Ending.returned (Value.pointer p52) ∧
  Calls Try.prog 27 #[(Value.pointer p43), (Value.pointer p52)] w54 fun e56 w57 =>
  ∃ b55, e56 = Ending.returned (Value.bool b55) ∧
  V.sel (!b55)
  (R (Ending.returned (Value.bool false)) w57)
  (Calls Try.prog 34 #[(Value.pointer p28), (Value.pointer p31)] w57 fun e59 w60 =>
  ∃ p58, e59 = Ending.returned (Value.pointer p58) ∧
  Calls Try.prog 32 #[(Value.pointer p58), (Value.pointer p34)] w60 fun e62 w63 =>
  ∃ p61, e62 = Ending.returned (Value.pointer p61) ∧
  Calls Try.prog 32 #[(Value.pointer p28), (Value.pointer p34)] w63 fun e65 w66 =>
  ∃ p64, e65 = Ending.returned (Value.pointer p64) ∧
  Calls Try.prog 32 #[(Value.pointer p31), (Value.pointer p34)] w66 fun e68 w69 =>
  ∃ p67, e68 = Ending.returned (Value.pointer p67) ∧
  Calls Try.prog 33 #[(Value.pointer p64), (Value.pointer p67)] w69 fun e71 w72 =>
  ∃ p70, e71 = Ending.returned (Value.pointer p70) ∧
  Calls Try.prog 27 #[(Value.pointer p61), (Value.pointer p70)] w72 fun e74 w75 =>
  ∃ b73, e74 = Ending.returned (Value.bool b73) ∧
  V.sel (!b73)
  (R (Ending.returned (Value.bool false)) w75)
  (Calls Try.prog 33 #[(Value.pointer p31), (Value.pointer p34)] w75 fun e77 w78 =>
  ∃ p76, e77 = Ending.returned (Value.pointer p76) ∧
  Calls Try.prog 34 #[(Value.pointer p28), (Value.pointer p76)] w78 fun e80 w81 =>
  ∃ p79, e80 = Ending.returned (Value.pointer p79) ∧
  Calls Try.prog 34 #[(Value.pointer p28), (Value.pointer p31)] w81 fun e83 w84 =>
  ∃ p82, e83 = Ending.returned (Value.pointer p82) ∧
  Calls Try.prog 34 #[(Value.pointer p28), (Value.pointer p34)] w84 fun e86 w87 =>
  ∃ p85, e86 = Ending.returned (Value.pointer p85) ∧
  Calls Try.prog 33 #[(Value.pointer p82), (Value.pointer p85)] w87 fun e89 w90 =>
  ∃ p88, e89 = Ending.returned (Value.pointer p88) ∧
  Calls Try.prog 27 #[(Value.pointer p79), (Value.pointer p88)] w90 fun e92 w93 =>
  ∃ b91, e92 = Ending.returned (Value.bool b91) ∧
  V.sel (!b91)
  (R (Ending.returned (Value.bool false)) w93)
  (Calls Try.prog 35 #[(Value.pointer p28), (Value.pointer p31)] w93 fun e95 w96 =>
  ∃ p94, e95 = Ending.returned (Value.pointer p94) ∧
  Calls Try.prog 33 #[(Value.pointer p28), (Value.pointer p31)] w96 fun e98 w99 =>
  ∃ p97, e98 = Ending.returned (Value.pointer p97) ∧
  Calls Try.prog 34 #[(Value.pointer p28), (Value.pointer p31)] w99 fun e101 w102 =>
  ∃ p100, e101 = Ending.returned (Value.pointer p100) ∧
  Calls Try.prog 36 #[(Value.pointer p97), (Value.pointer p100)] w102 fun e104 w105 =>
  ∃ p103, e104 = Ending.returned (Value.pointer p103) ∧
  Calls Try.prog 27 #[(Value.pointer p94), (Value.pointer p103)] w105 fun e107 w108 =>
  ∃ b106, e107 = Ending.returned (Value.bool b106) ∧
  V.sel (!b106)
  (R (Ending.returned (Value.bool false)) w108)
  (Calls Try.prog 32 #[(Value.pointer p28), (Value.pointer p34)] w108 fun e110 w111 =>
  ∃ p109, e110 = Ending.returned (Value.pointer p109) ∧
  Calls Try.prog 32 #[(Value.pointer p109), (Value.pointer p34)] w111 fun e113 w114 =>
  ∃ p112, e113 = Ending.returned (Value.pointer p112) ∧
  Calls Try.prog 34 #[(Value.pointer p28), (Value.pointer p34)] w114 fun e116 w117 =>
  ∃ p115, e116 = Ending.returned (Value.pointer p115) ∧
  Calls Try.prog 27 #[(Value.pointer p112), (Value.pointer p115)] w117 fun e119 w120 =>
  ∃ b118, e119 = Ending.returned (Value.bool b118) ∧
  V.sel (!b118)
  (R (Ending.returned (Value.bool false)) w120)
  (Calls Try.prog 36 #[(Value.pointer p28), (Value.pointer p31)] w120 fun e122 w123 =>
  ∃ p121, e122 = Ending.returned (Value.pointer p121) ∧
  Calls Try.prog 37 #[(Value.pointer p121), (Value.pointer p31)] w123 fun e125 w126 =>
  ∃ b124, e125 = Ending.returned (Value.bool b124) ∧
  V.sel b124
  (R (Ending.returned (Value.bool false)) w126)
  (Calls Try.prog 33 #[(Value.pointer p28), (Value.pointer p31)] w126 fun e128 w129 =>
  ∃ p127, e128 = Ending.returned (Value.pointer p127) ∧
  Calls Try.prog 29 #[(Value.pointer p127)] w129 fun e131 w132 =>
  ∃ n130, e131 = Ending.returned (Value.int .i64 n130) ∧
  Calls Try.prog 34 #[(Value.pointer p28), (Value.pointer p31)] w132 fun e134 w135 =>
  ∃ p133, e134 = Ending.returned (Value.pointer p133) ∧
  Calls Try.prog 29 #[(Value.pointer p133)] w135 fun e137 w138 =>
  ∃ n136, e137 = Ending.returned (Value.int .i64 n136) ∧
  Calls Try.prog 29 #[(Value.pointer p28)] w138 fun e140 w141 =>
  ∃ n139, e140 = Ending.returned (Value.int .i64 n139) ∧
  Calls Try.prog 29 #[(Value.pointer p31)] w141 fun e143 w144 =>
  ∃ n142, e143 = Ending.returned (Value.int .i64 n142) ∧
  V.sel ((IntKind.wrap .i64 (n130 + n136)) != (IntKind.wrap .i64 (n139 + n142)))
  (R (Ending.returned (Value.bool false)) w144)
  (Calls Try.prog 38 #[(Value.pointer p28), (Value.pointer p31)] w144 fun e146 w147 =>
  ∃ b145, e146 = Ending.returned (Value.bool b145) ∧
  Calls Try.prog 34 #[(Value.pointer p28), (Value.pointer p31)] w147 fun e149 w150 =>
  ∃ p148, e149 = Ending.returned (Value.pointer p148) ∧
  Calls Try.prog 27 #[(Value.pointer p148), (Value.pointer p28)] w150 fun e152 w153 =>
  ∃ b151, e152 = Ending.returned (Value.bool b151) ∧
  V.sel (!(b145 == b151))
  (R (Ending.returned (Value.bool false)) w153)
  (Calls Try.prog 37 #[(Value.pointer p28), (Value.pointer p31)] w153 fun e155 w156 =>
  ∃ b154, e155 = Ending.returned (Value.bool b154) ∧
  Calls Try.prog 34 #[(Value.pointer p28), (Value.pointer p31)] w156 fun e158 w159 =>
  ∃ p157, e158 = Ending.returned (Value.pointer p157) ∧
  Calls Try.prog 29 #[(Value.pointer p157)] w159 fun e161 w162 =>
  ∃ n160, e161 = Ending.returned (Value.int .i64 n160) ∧
  V.sel (!(b154 == (decide (n160 > 0))))
  (R (Ending.returned (Value.bool false)) w162)
  (Calls Try.prog 27 #[(Value.pointer p28), (Value.pointer p31)] w162 fun e164 w165 =>
  ∃ b163, e164 = Ending.returned (Value.bool b163) ∧
  Calls Try.prog 38 #[(Value.pointer p28), (Value.pointer p31)] w165 fun e167 w168 =>
  ∃ b166, e167 = Ending.returned (Value.bool b166) ∧
  V.sel b166
  (Calls Try.prog 38 #[(Value.pointer p31), (Value.pointer p28)] w168 fun e170 w171 =>
  ∃ b169, e170 = Ending.returned (Value.bool b169) ∧
  V.sel (b163 == b169)
  (∃ n172, World.cell? w171 (Addr.add ⟨Array.size (World.heap w), 0, none⟩ 0) = some (Value.int .i64 n172) ∧
  ∃ A173, ∃ A173l, ∃ A173c, World.cell? w171 (Addr.add ⟨Array.size (World.heap w), 0, none⟩ 1) = some (Value.slice A173 A173l A173c) ∧
  ∃ A174, ∃ A174l, ∃ A174c, World.cell? w171 (Addr.add ⟨Array.size (World.heap w), 0, none⟩ 2) = some (Value.slice A174 A174l A174c) ∧
  ∃ A175, ∃ A175l, ∃ A175c, World.cell? w171 (Addr.add ⟨Array.size (World.heap w), 0, none⟩ 3) = some (Value.slice A175 A175l A175c) ∧
  Calls Try.prog 39 #[(Value.agg #[(Value.int .i64 n172), (Value.slice A173 A173l A173c), (Value.slice A174 A174l A174c), (Value.slice A175 A175l A175c)]), (Value.pointer p28)] w171 fun e177 w178 =>
  ∃ b176, e177 = Ending.returned (Value.bool b176) ∧
  R (Ending.returned (Value.bool b176)) w178)
  (R (Ending.returned (Value.bool false)) w171))
  (V.sel (b163 == false)
  (∃ n179, World.cell? w168 (Addr.add ⟨Array.size (World.heap w), 0, none⟩ 0) = some (Value.int .i64 n179) ∧
  ∃ A180, ∃ A180l, ∃ A180c, World.cell? w168 (Addr.add ⟨Array.size (World.heap w), 0, none⟩ 1) = some (Value.slice A180 A180l A180c) ∧
  ∃ A181, ∃ A181l, ∃ A181c, World.cell? w168 (Addr.add ⟨Array.size (World.heap w), 0, none⟩ 2) = some (Value.slice A181 A181l A181c) ∧
  ∃ A182, ∃ A182l, ∃ A182c, World.cell? w168 (Addr.add ⟨Array.size (World.heap w), 0, none⟩ 3) = some (Value.slice A182 A182l A182c) ∧
  Calls Try.prog 39 #[(Value.agg #[(Value.int .i64 n179), (Value.slice A180 A180l A180c), (Value.slice A181 A181l A181c), (Value.slice A182 A182l A182c)]), (Value.pointer p28)] w168 fun e184 w185 =>
  ∃ b183, e184 = Ending.returned (Value.bool b183) ∧
  R (Ending.returned (Value.bool b183)) w185)
  (R (Ending.returned (Value.bool false)) w168))))))))))))))) :
  Calls Try.prog 6 #[(Value.agg #[(Value.int .i64 x_1), (Value.slice x_2 x_2l x_2c), (Value.slice x_3 x_3l x_3c), (Value.slice x_4 x_4l x_4c)])] w R :=
  V.calls_of_V ⟨V.assoc [], V.assoc [(6, [0, 1, 2, 3, 5, 6, 7, 8, 10, 11, 12, 13, 4, 9, 14, 15, 16, 17])]⟩ Try.func6 rfl (Eq.mp (by kernel_rfl) h)

theorem berthlaw01_BitsetFresh_nf (x_1 : Int) (x_2 : Option Addr) (x_2l : Nat) (x_2c : Nat) (x_3 : Option Addr) (x_3l : Nat) (x_3c : Nat) (x_4 : Option Addr) (x_4l : Nat) (x_4c : Nat) (w : World) (R : Ending → World → Prop) (h :
  Calls Try.prog 12 #[] (World.alloc w (.cells #[(Value.int .i64 x_1), (Value.slice x_2 x_2l x_2c), (Value.slice x_3 x_3l x_3c), (Value.slice x_4 x_4l x_4c)] 27)) fun e6 w7 =>
  ∃ b5, e6 = Ending.returned (Value.bool b5) ∧
  V.sel (!b5)
  (Calls Try.prog 12 #[] w7 fun e9 w10 =>
  ∃ b8, e9 = Ending.returned (Value.bool b8) ∧
  R (Ending.returned (Value.bool b8)) w10)
  (∃ n11, World.cell? w7 (Addr.add ⟨Array.size (World.heap w), 0, none⟩ 0) = some (Value.int .i64 n11) ∧
  Calls Try.prog 13 #[(Value.int .i64 n11)] w7 fun e13 w14 =>
  ∃ b12, e13 = Ending.returned (Value.bool b12) ∧
  V.sel (!b12)
  (Calls Try.prog 12 #[] w14 fun e16 w17 =>
  ∃ b15, e16 = Ending.returned (Value.bool b15) ∧
  R (Ending.returned (Value.bool b15)) w17)
  (∃ S18 : World → Prop, S18 (World.drew w14) ∧
  ∃ n20, (∀ w19, S18 w19 → World.cell? w19 (Addr.add ⟨Array.size (World.heap w), 0, none⟩ 0) = some (Value.int .i64 n20)) ∧
  ∃ A21, ∃ A21l, ∃ A21c, (∀ w19, S18 w19 → World.cell? w19 (Addr.add ⟨Array.size (World.heap w), 0, none⟩ 1) = some (Value.slice A21 A21l A21c)) ∧
  ∃ n22, (∀ w19, S18 w19 → World.cell? w19 (Addr.add ⟨Array.size (World.heap w), 0, none⟩ 0) = some (Value.int .i64 n22)) ∧
  ∃ A23, ∃ A23l, ∃ A23c, (∀ w19, S18 w19 → World.cell? w19 (Addr.add ⟨Array.size (World.heap w), 0, none⟩ 2) = some (Value.slice A23 A23l A23c)) ∧
  ∃ n24, (∀ w19, S18 w19 → World.cell? w19 (Addr.add ⟨Array.size (World.heap w), 0, none⟩ 0) = some (Value.int .i64 n24)) ∧
  Calls Try.prog 16 #[(Value.int .i64 n20), (Value.slice A21 A21l A21c)] (World.drew w14) fun e26 w27 =>
  ∃ p25, e26 = Ending.returned (Value.pointer p25) ∧
  S18 w27 ∧
  Calls Try.prog 16 #[(Value.int .i64 n22), (Value.slice A23 A23l A23c)] w27 fun e29 w30 =>
  ∃ p28, e29 = Ending.returned (Value.pointer p28) ∧
  S18 w30 ∧
  Calls Try.prog 16 #[(Value.int .i64 n24), (Value.slice none 0 0)] w30 fun e32 w33 =>
  ∃ p31, e32 = Ending.returned (Value.pointer p31) ∧
  S18 w33 ∧
  Calls Try.prog 16 #[(Value.int .i64 0), (Value.slice none 0 0)] w33 fun e35 w36 =>
  ∃ p34, e35 = Ending.returned (Value.pointer p34) ∧
  S18 w36 ∧
  Calls Try.prog 17 #[(Value.slice (some ⟨Array.size (World.heap w36), 0, none⟩) 4 4)] (World.alloc w36 (.cells #[(Value.pointer p25), (Value.pointer p28), (Value.pointer p31), (Value.pointer p34)] 30)) fun e38 w39 =>
  ∃ b37, e38 = Ending.returned (Value.bool b37) ∧
  V.sel (!b37)
  (R (Ending.returned (Value.bool false)) w39)
  (∃ I40 : Int → World → Prop, ∃ μ41 : Int → World → Nat, I40 0 w39 ∧
  ∀ kind_42 (j43 : Nat → Value) (w44 : World), I40 kind_42 w44 →
  (V.sel (decide (kind_42 < 6))
  (∃ A45, ∃ A45l, ∃ A45c, World.cell? w44 (Addr.add ⟨Array.size (World.heap w), 0, none⟩ 3) = some (Value.slice A45 A45l A45c) ∧
  V.sel (decide (((A45l : Nat) : Int) > 0))
  (∃ A46, ∃ A46l, ∃ A46c, World.cell? w44 (Addr.add ⟨Array.size (World.heap w), 0, none⟩ 3) = some (Value.slice A46 A46l A46c) ∧
  ∃ A47, ∃ A47l, ∃ A47c, World.cell? w44 (Addr.add ⟨Array.size (World.heap w), 0, none⟩ 3) = some (Value.slice A47 A47l A47c) ∧
  V.when (decide (((A47l : Nat) : Int) ≠ 0)) (V.when (decide ((0 : Int) ≤ (Int.tmod kind_42 ((A47l : Nat) : Int)) ∧ ((Int.tmod kind_42 ((A47l : Nat) : Int)) : Int) < ((A46l : Nat) : Int))) (V.ptr A46 fun a48 =>
  ∃ n49, World.cell? w44 (Addr.add a48 ((Int.toNat (Int.tmod kind_42 ((A47l : Nat) : Int))) * 1)) = some (Value.int .i64 n49) ∧
  Calls Try.prog 48 #[(Value.int .i64 kind_42), (Value.pointer p25), (Value.pointer p28), (Value.int .i64 n49)] (World.drew w44) fun e51 w52 =>
  ∃ b50, e51 = Ending.returned (Value.bool b50) ∧
  V.sel (!b50)
  (R (Ending.returned (Value.bool false)) w52)
  (Calls Try.prog 48 #[(Value.int .i64 kind_42), (Value.pointer p25), (Value.pointer p25), (Value.int .i64 n49)] w52 fun e54 w55 =>
  ∃ b53, e54 = Ending.returned (Value.bool b53) ∧
  V.sel (!b53)
  (R (Ending.returned (Value.bool false)) w55)
  (Calls Try.prog 48 #[(Value.int .i64 kind_42), (Value.pointer p25), (Value.pointer p31), (Value.int .i64 n49)] w55 fun e57 w58 =>
  ∃ b56, e57 = Ending.returned (Value.bool b56) ∧
  V.sel (!b56)
  (R (Ending.returned (Value.bool false)) w58)
  (Calls Try.prog 48 #[(Value.int .i64 kind_42), (Value.pointer p31), (Value.pointer p25), (Value.int .i64 n49)] w58 fun e60 w61 =>
  ∃ b59, e60 = Ending.returned (Value.bool b59) ∧
  V.sel (!b59)
  (R (Ending.returned (Value.bool false)) w61)
  (Calls Try.prog 48 #[(Value.int .i64 kind_42), (Value.pointer p25), (Value.pointer p34), (Value.int .i64 n49)] w61 fun e63 w64 =>
  ∃ b62, e63 = Ending.returned (Value.bool b62) ∧
  V.sel (!b62)
  (R (Ending.returned (Value.bool false)) w64)
  (Calls Try.prog 48 #[(Value.int .i64 kind_42), (Value.pointer p34), (Value.pointer p25), (Value.int .i64 n49)] w64 fun e66 w67 =>
  ∃ b65, e66 = Ending.returned (Value.bool b65) ∧
  V.sel (!b65)
  (R (Ending.returned (Value.bool false)) w67)
  (Calls Try.prog 48 #[(Value.int .i64 kind_42), (Value.pointer p25), (Value.pointer none), (Value.int .i64 n49)] w67 fun e69 w70 =>
  ∃ b68, e69 = Ending.returned (Value.bool b68) ∧
  V.sel (!b68)
  (R (Ending.returned (Value.bool false)) w70)
  (Calls Try.prog 48 #[(Value.int .i64 kind_42), (Value.pointer none), (Value.pointer p28), (Value.int .i64 n49)] w70 fun e72 w73 =>
  ∃ b71, e72 = Ending.returned (Value.bool b71) ∧
  V.sel (!b71)
  (R (Ending.returned (Value.bool false)) w73)
  (I40 (IntKind.wrap .i64 (kind_42 + 1)) w73 ∧ μ41 (IntKind.wrap .i64 (kind_42 + 1)) w73 < μ41 kind_42 w44)))))))))))
  (Calls Try.prog 48 #[(Value.int .i64 kind_42), (Value.pointer p25), (Value.pointer p28), (Value.int .i64 0)] w44 fun e75 w76 =>
  ∃ b74, e75 = Ending.returned (Value.bool b74) ∧
  V.sel (!b74)
  (R (Ending.returned (Value.bool false)) w76)
  (Calls Try.prog 48 #[(Value.int .i64 kind_42), (Value.pointer p25), (Value.pointer p25), (Value.int .i64 0)] w76 fun e78 w79 =>
  ∃ b77, e78 = Ending.returned (Value.bool b77) ∧
  V.sel (!b77)
  (R (Ending.returned (Value.bool false)) w79)
  (Calls Try.prog 48 #[(Value.int .i64 kind_42), (Value.pointer p25), (Value.pointer p31), (Value.int .i64 0)] w79 fun e81 w82 =>
  ∃ b80, e81 = Ending.returned (Value.bool b80) ∧
  V.sel (!b80)
  (R (Ending.returned (Value.bool false)) w82)
  (Calls Try.prog 48 #[(Value.int .i64 kind_42), (Value.pointer p31), (Value.pointer p25), (Value.int .i64 0)] w82 fun e84 w85 =>
  ∃ b83, e84 = Ending.returned (Value.bool b83) ∧
  V.sel (!b83)
  (R (Ending.returned (Value.bool false)) w85)
  (Calls Try.prog 48 #[(Value.int .i64 kind_42), (Value.pointer p25), (Value.pointer p34), (Value.int .i64 0)] w85 fun e87 w88 =>
  ∃ b86, e87 = Ending.returned (Value.bool b86) ∧
  V.sel (!b86)
  (R (Ending.returned (Value.bool false)) w88)
  (Calls Try.prog 48 #[(Value.int .i64 kind_42), (Value.pointer p34), (Value.pointer p25), (Value.int .i64 0)] w88 fun e90 w91 =>
  ∃ b89, e90 = Ending.returned (Value.bool b89) ∧
  V.sel (!b89)
  (R (Ending.returned (Value.bool false)) w91)
  (Calls Try.prog 48 #[(Value.int .i64 kind_42), (Value.pointer p25), (Value.pointer none), (Value.int .i64 0)] w91 fun e93 w94 =>
  ∃ b92, e93 = Ending.returned (Value.bool b92) ∧
  V.sel (!b92)
  (R (Ending.returned (Value.bool false)) w94)
  (Calls Try.prog 48 #[(Value.int .i64 kind_42), (Value.pointer none), (Value.pointer p28), (Value.int .i64 0)] w94 fun e96 w97 =>
  ∃ b95, e96 = Ending.returned (Value.bool b95) ∧
  V.sel (!b95)
  (R (Ending.returned (Value.bool false)) w97)
  (I40 (IntKind.wrap .i64 (kind_42 + 1)) w97 ∧ μ41 (IntKind.wrap .i64 (kind_42 + 1)) w97 < μ41 kind_42 w44))))))))))
  (R (Ending.returned (Value.bool true)) w44)))))) :
  Calls Try.prog 8 #[(Value.agg #[(Value.int .i64 x_1), (Value.slice x_2 x_2l x_2c), (Value.slice x_3 x_3l x_3c), (Value.slice x_4 x_4l x_4c)])] w R :=
  V.calls_of_V ⟨V.assoc [(0, [7])], V.assoc [(3, [0, 1, 2, 3, 5, 6, 7, 8, 10, 11, 4, 9, 12, 13, 14, 15, 16, 17]), (11, [0, 1, 2, 3, 4, 5, 6, 7, 8, 9])]⟩ Try.func8 rfl (Eq.mp (by kernel_rfl) h)

theorem berthlaw01_BitsetPlace_nf (x_1 : Int) (x_2 : Option Addr) (x_2l : Nat) (x_2c : Nat) (x_3 : Option Addr) (x_3l : Nat) (x_3c : Nat) (x_4 : Option Addr) (x_4l : Nat) (x_4c : Nat) (w : World) (R : Ending → World → Prop) (h :
  Calls Try.prog 12 #[] (World.alloc w (.cells #[(Value.int .i64 x_1), (Value.slice x_2 x_2l x_2c), (Value.slice x_3 x_3l x_3c), (Value.slice x_4 x_4l x_4c)] 27)) fun e6 w7 =>
  ∃ b5, e6 = Ending.returned (Value.bool b5) ∧
  V.sel (!b5)
  (R (Ending.returned (Value.bool false)) w7)
  (∃ n8, World.cell? w7 (Addr.add ⟨Array.size (World.heap w), 0, none⟩ 0) = some (Value.int .i64 n8) ∧
  Calls Try.prog 13 #[(Value.int .i64 n8)] w7 fun e10 w11 =>
  ∃ b9, e10 = Ending.returned (Value.bool b9) ∧
  V.sel (!b9)
  (R (Ending.returned (Value.bool true)) w11)
  (∃ n12, World.cell? w11 (Addr.add ⟨Array.size (World.heap w), 0, none⟩ 0) = some (Value.int .i64 n12) ∧
  ∃ S13 : World → Prop, S13 (World.drew w11) ∧
  ∃ n15, (∀ w14, S13 w14 → World.cell? w14 (Addr.add ⟨Array.size (World.heap w), 0, none⟩ 0) = some (Value.int .i64 n15)) ∧
  ∃ A16, ∃ A16l, ∃ A16c, (∀ w14, S13 w14 → World.cell? w14 (Addr.add ⟨Array.size (World.heap w), 0, none⟩ 1) = some (Value.slice A16 A16l A16c)) ∧
  ∃ n17, (∀ w14, S13 w14 → World.cell? w14 (Addr.add ⟨Array.size (World.heap w), 0, none⟩ 0) = some (Value.int .i64 n17)) ∧
  ∃ A18, ∃ A18l, ∃ A18c, (∀ w14, S13 w14 → World.cell? w14 (Addr.add ⟨Array.size (World.heap w), 0, none⟩ 2) = some (Value.slice A18 A18l A18c)) ∧
  Calls Try.prog 16 #[(Value.int .i64 n15), (Value.slice A16 A16l A16c)] (World.drew w11) fun e20 w21 =>
  ∃ p19, e20 = Ending.returned (Value.pointer p19) ∧
  S13 w21 ∧
  Calls Try.prog 16 #[(Value.int .i64 n17), (Value.slice A18 A18l A18c)] w21 fun e23 w24 =>
  ∃ p22, e23 = Ending.returned (Value.pointer p22) ∧
  S13 w24 ∧
  ∃ A25, ∃ A25l, ∃ A25c, World.cell? w24 (Addr.add ⟨Array.size (World.heap w), 0, none⟩ 1) = some (Value.slice A25 A25l A25c) ∧
  Calls Try.prog 16 #[(Value.int .i64 (IntKind.wrap .i64 (Int.tdiv n12 2))), (Value.slice A25 A25l A25c)] w24 fun e27 w28 =>
  ∃ p26, e27 = Ending.returned (Value.pointer p26) ∧
  Calls Try.prog 31 #[(Value.int .i64 (IntKind.wrap .i64 (Int.tdiv n12 2)))] w28 fun e31 w32 =>
  ∃ p29, ∃ n30, e31 = Ending.returned (Value.tuple #[(Value.pointer p29), (Value.int .i64 n30)]) ∧
  Calls Try.prog 17 #[(Value.slice (some ⟨Array.size (World.heap w32), 0, none⟩) 4 4)] (World.alloc w32 (.cells #[(Value.pointer p19), (Value.pointer p22), (Value.pointer p26), (Value.pointer p29)] 30)) fun e34 w35 =>
  ∃ b33, e34 = Ending.returned (Value.bool b33) ∧
  V.sel (!b33)
  (R (Ending.returned (Value.bool false)) w35)
  (Calls Try.prog 11 #[(Value.int .i64 n30)] w35 fun e37 w38 =>
  ∃ n36, e37 = Ending.returned (Value.int .i64 n36) ∧
  V.sel (n36 != 0)
  (R (Ending.returned (Value.bool false)) w38)
  (∃ I39 : Int → World → Prop, ∃ μ40 : Int → World → Nat, I39 0 w38 ∧
  ∀ i_41 (j42 : Nat → Value) (w43 : World), I39 i_41 w43 →
  (V.sel (decide (i_41 < (IntKind.wrap .i64 (Int.tdiv n12 2))))
  (Calls Try.prog 41 #[(Value.pointer p29), (Value.int .i64 i_41)] w43 fun e45 w46 =>
  ∃ b44, e45 = Ending.returned (Value.bool b44) ∧
  I39 (IntKind.wrap .i64 (i_41 + 1)) w46 ∧ μ40 (IntKind.wrap .i64 (i_41 + 1)) w46 < μ40 i_41 w43)
  (Calls Try.prog 44 #[(Value.pointer p22)] w43 fun e48 w49 =>
  ∃ p47, e48 = Ending.returned (Value.pointer p47) ∧
  Calls Try.prog 44 #[(Value.pointer p26)] w49 fun e51 w52 =>
  ∃ p50, e51 = Ending.returned (Value.pointer p50) ∧
  Calls Try.prog 44 #[(Value.pointer p26)] w52 fun e54 w55 =>
  ∃ p53, e54 = Ending.returned (Value.pointer p53) ∧
  Calls Try.prog 44 #[(Value.pointer p26)] w55 fun e57 w58 =>
  ∃ p56, e57 = Ending.returned (Value.pointer p56) ∧
  Calls Try.prog 49 #[(Value.pointer p50), (Value.pointer p22)] w58 fun e59 w60 =>
  e59 = Ending.returned undef ∧
  Calls Try.prog 50 #[(Value.pointer p53), (Value.pointer p22)] w60 fun e61 w62 =>
  e61 = Ending.returned undef ∧
  Calls Try.prog 43 #[(Value.pointer p56), (Value.pointer p22)] w62 fun e63 w64 =>
  e63 = Ending.returned undef ∧
  ∃ S65 : World → Prop, S65 (World.drew w64) ∧
  Calls Try.prog 28 #[(Value.pointer p50)] (World.drew w64) fun e68 w69 =>
  ∃ n67, e68 = Ending.returned (Value.int .i64 n67) ∧
  S65 w69 ∧
  V.sel (n67 != (IntKind.wrap .i64 (Int.tdiv n12 2)))
  (R (Ending.returned (Value.bool false)) w69)
  (Calls Try.prog 28 #[(Value.pointer p53)] w69 fun e71 w72 =>
  ∃ n70, e71 = Ending.returned (Value.int .i64 n70) ∧
  S65 w72 ∧
  V.sel (n70 != (IntKind.wrap .i64 (Int.tdiv n12 2)))
  (R (Ending.returned (Value.bool false)) w72)
  (Calls Try.prog 28 #[(Value.pointer p56)] w72 fun e74 w75 =>
  ∃ n73, e74 = Ending.returned (Value.int .i64 n73) ∧
  S65 w75 ∧
  V.sel (n73 != (IntKind.wrap .i64 (Int.tdiv n12 2)))
  (R (Ending.returned (Value.bool false)) w75)
  (Calls Try.prog 27 #[(Value.pointer p22), (Value.pointer p47)] w75 fun e77 w78 =>
  ∃ b76, e77 = Ending.returned (Value.bool b76) ∧
  S65 w78 ∧
  V.sel (!b76)
  (R (Ending.returned (Value.bool false)) w78)
  (∃ n79, (∀ w66, S65 w66 → World.cell? w66 (Addr.add ⟨Array.size (World.heap w), 0, none⟩ 0) = some (Value.int .i64 n79)) ∧
  Calls Try.prog 28 #[(Value.pointer p22)] w78 fun e81 w82 =>
  ∃ n80, e81 = Ending.returned (Value.int .i64 n80) ∧
  S65 w82 ∧
  V.sel (n80 != n79)
  (R (Ending.returned (Value.bool false)) w82)
  (Calls Try.prog 34 #[(Value.pointer p22), (Value.pointer p29)] w82 fun e84 w85 =>
  ∃ p83, e84 = Ending.returned (Value.pointer p83) ∧
  Calls Try.prog 33 #[(Value.pointer p26), (Value.pointer p83)] w85 fun e87 w88 =>
  ∃ p86, e87 = Ending.returned (Value.pointer p86) ∧
  Calls Try.prog 27 #[(Value.pointer p50), (Value.pointer p86)] w88 fun e90 w91 =>
  ∃ b89, e90 = Ending.returned (Value.bool b89) ∧
  V.sel (!b89)
  (R (Ending.returned (Value.bool false)) w91)
  (Calls Try.prog 34 #[(Value.pointer p26), (Value.pointer p22)] w91 fun e93 w94 =>
  ∃ p92, e93 = Ending.returned (Value.pointer p92) ∧
  Calls Try.prog 27 #[(Value.pointer p53), (Value.pointer p92)] w94 fun e96 w97 =>
  ∃ b95, e96 = Ending.returned (Value.bool b95) ∧
  V.sel (!b95)
  (R (Ending.returned (Value.bool false)) w97)
  (Calls Try.prog 36 #[(Value.pointer p26), (Value.pointer p22)] w97 fun e99 w100 =>
  ∃ p98, e99 = Ending.returned (Value.pointer p98) ∧
  Calls Try.prog 27 #[(Value.pointer p56), (Value.pointer p98)] w100 fun e102 w103 =>
  ∃ b101, e102 = Ending.returned (Value.bool b101) ∧
  V.sel (!b101)
  (R (Ending.returned (Value.bool false)) w103)
  (∃ S104 : World → Prop, S104 (World.drew w103) ∧
  ∃ n106, (∀ w105, S104 w105 → World.cell? w105 (Addr.add ⟨Array.size (World.heap w), 0, none⟩ 0) = some (Value.int .i64 n106)) ∧
  Calls Try.prog 45 #[(Value.pointer p50), (Value.int .i64 n106)] (World.drew w103) fun e108 w109 =>
  ∃ n107, e108 = Ending.returned (Value.int .i64 n107) ∧
  S104 w109 ∧
  Calls Try.prog 11 #[(Value.int .i64 n107)] w109 fun e111 w112 =>
  ∃ n110, e111 = Ending.returned (Value.int .i64 n110) ∧
  S104 w112 ∧
  V.sel (n110 != 0)
  (R (Ending.returned (Value.bool false)) w112)
  (∃ n113, (∀ w105, S104 w105 → World.cell? w105 (Addr.add ⟨Array.size (World.heap w), 0, none⟩ 0) = some (Value.int .i64 n113)) ∧
  Calls Try.prog 28 #[(Value.pointer p50)] w112 fun e115 w116 =>
  ∃ n114, e115 = Ending.returned (Value.int .i64 n114) ∧
  S104 w116 ∧
  V.sel (n114 != n113)
  (R (Ending.returned (Value.bool false)) w116)
  (Calls Try.prog 34 #[(Value.pointer p22), (Value.pointer p29)] w116 fun e118 w119 =>
  ∃ p117, e118 = Ending.returned (Value.pointer p117) ∧
  S104 w119 ∧
  Calls Try.prog 33 #[(Value.pointer p26), (Value.pointer p117)] w119 fun e121 w122 =>
  ∃ p120, e121 = Ending.returned (Value.pointer p120) ∧
  S104 w122 ∧
  Calls Try.prog 27 #[(Value.pointer p50), (Value.pointer p120)] w122 fun e124 w125 =>
  ∃ b123, e124 = Ending.returned (Value.bool b123) ∧
  S104 w125 ∧
  V.sel (!b123)
  (R (Ending.returned (Value.bool false)) w125)
  (Calls Try.prog 49 #[(Value.pointer p50), (Value.pointer p22)] w125 fun e126 w127 =>
  e126 = Ending.returned undef ∧
  Calls Try.prog 49 #[(Value.pointer p50), (Value.pointer p50)] w127 fun e128 w129 =>
  e128 = Ending.returned undef ∧
  Calls Try.prog 50 #[(Value.pointer p50), (Value.pointer p50)] w129 fun e130 w131 =>
  e130 = Ending.returned undef ∧
  Calls Try.prog 33 #[(Value.pointer p26), (Value.pointer p22)] w131 fun e133 w134 =>
  ∃ p132, e133 = Ending.returned (Value.pointer p132) ∧
  Calls Try.prog 27 #[(Value.pointer p50), (Value.pointer p132)] w134 fun e136 w137 =>
  ∃ b135, e136 = Ending.returned (Value.bool b135) ∧
  V.sel (!b135)
  (R (Ending.returned (Value.bool false)) w137)
  (Calls Try.prog 43 #[(Value.pointer p50), (Value.pointer p50)] w137 fun e138 w139 =>
  e138 = Ending.returned undef ∧
  ∃ S140 : World → Prop, S140 (World.drew w139) ∧
  Calls Try.prog 29 #[(Value.pointer p50)] (World.drew w139) fun e143 w144 =>
  ∃ n142, e143 = Ending.returned (Value.int .i64 n142) ∧
  S140 w144 ∧
  V.sel (n142 == 0)
  (∃ n145, (∀ w141, S140 w141 → World.cell? w141 (Addr.add ⟨Array.size (World.heap w), 0, none⟩ 0) = some (Value.int .i64 n145)) ∧
  Calls Try.prog 28 #[(Value.pointer p50)] w144 fun e147 w148 =>
  ∃ n146, e147 = Ending.returned (Value.int .i64 n146) ∧
  S140 w148 ∧
  R (Ending.returned (Value.bool (n146 == n145))) w148)
  (R (Ending.returned (Value.bool false)) w144)))))))))))))))))))) :
  Calls Try.prog 9 #[(Value.agg #[(Value.int .i64 x_1), (Value.slice x_2 x_2l x_2c), (Value.slice x_3 x_3l x_3c), (Value.slice x_4 x_4l x_4c)])] w R :=
  V.calls_of_V ⟨V.assoc [(0, [9])], V.assoc [(6, [0, 1, 2, 3, 5, 6, 7, 8, 4, 9, 10, 11]), (20, [0, 2, 1, 3, 4, 5, 7, 6, 8, 9, 10, 11, 13, 12, 14, 15, 16, 17, 18, 19, 20, 21, 22, 23, 25, 26, 24, 27, 28]), (24, [0, 1, 2, 3, 4, 5, 6, 7, 9, 10, 8, 11, 12, 13, 14, 15, 16, 17, 18, 19, 20, 21, 22]), (32, [0, 1, 2, 3, 4, 6, 7, 5, 8, 9, 10])]⟩ Try.func9 rfl (Eq.mp (by kernel_rfl) h)

theorem berthtop_TopNumbers_nf  (w : World) (R : Ending → World → Prop) (h :
  Calls Try.prog 51 #[] w fun e2 w3 =>
  ∃ b1, e2 = Ending.returned (Value.bool b1) ∧
  V.sel b1
  (Calls Try.prog 52 #[] w3 fun e5 w6 =>
  ∃ b4, e5 = Ending.returned (Value.bool b4) ∧
  V.sel b4
  (Calls Try.prog 53 #[] w6 fun e8 w9 =>
  ∃ b7, e8 = Ending.returned (Value.bool b7) ∧
  V.sel b7
  (Calls Try.prog 54 #[] w9 fun e11 w12 =>
  ∃ b10, e11 = Ending.returned (Value.bool b10) ∧
  R (Ending.returned (Value.bool b10)) w12)
  (R (Ending.returned (Value.bool false)) w9))
  (R (Ending.returned (Value.bool false)) w6))
  (R (Ending.returned (Value.bool false)) w3)) :
  Calls Try.prog 10 #[] w R :=
  V.calls_of_V ⟨V.assoc [], V.assoc []⟩ Try.func10 rfl (Eq.mp (by kernel_rfl) h)

theorem berthlaw01_num_nf (e_1 : Int) (w : World) (R : Ending → World → Prop) (h :
  R (Ending.returned (Value.int .i64 e_1)) w) :
  Calls Try.prog 11 #[(Value.int .i64 e_1)] w R :=
  V.calls_of_V ⟨V.assoc [], V.assoc []⟩ Try.func11 rfl (Eq.mp (by kernel_rfl) h)

theorem berthlaw01_awake_nf  (w : World) (R : Ending → World → Prop) (h :
  Calls Try.prog 15 #[(Value.int .i64 3), (Value.slice (some ⟨Array.size (World.heap w), 0, none⟩) 2 2)] (World.alloc w (.cells #[(Value.int .i64 2), (Value.int .i64 0)] 3)) fun e3 w4 =>
  ∃ p1, ∃ n2, e3 = Ending.returned (Value.tuple #[(Value.pointer p1), (Value.int .i64 n2)]) ∧
  V.sel (Option.isNone p1)
  (R (Ending.returned (Value.bool false)) w4)
  (Calls Try.prog 11 #[(Value.int .i64 n2)] w4 fun e6 w7 =>
  ∃ n5, e6 = Ending.returned (Value.int .i64 n5) ∧
  V.sel (n5 != 0)
  (R (Ending.returned (Value.bool false)) w7)
  (Calls Try.prog 21 #[(Value.pointer p1)] w7 fun e9 w10 =>
  ∃ A8, ∃ A8l, ∃ A8c, e9 = Ending.returned (Value.slice A8 A8l A8c) ∧
  V.sel (((A8l : Nat) : Int) == 2)
  (V.when (decide ((0 : Int) ≤ 0 ∧ (0 : Int) < ((A8l : Nat) : Int))) (V.ptr A8 fun a11 =>
  ∃ n12, World.cell? w10 (Addr.add a11 0) = some (Value.int .i64 n12) ∧
  V.sel (n12 == 0)
  (V.when (decide ((0 : Int) ≤ 1 ∧ (1 : Int) < ((A8l : Nat) : Int))) (V.ptr A8 fun a13 =>
  ∃ n14, World.cell? w10 (Addr.add a13 1) = some (Value.int .i64 n14) ∧
  R (Ending.returned (Value.bool (n14 == 2))) w10))
  (R (Ending.returned (Value.bool false)) w10)))
  (R (Ending.returned (Value.bool false)) w10)))) :
  Calls Try.prog 12 #[] w R :=
  V.calls_of_V ⟨V.assoc [], V.assoc []⟩ Try.func12 rfl (Eq.mp (by kernel_rfl) h)

theorem berthlaw01_sized_nf (n_1 : Int) (w : World) (R : Ending → World → Prop) (h :
  V.sel (decide (n_1 ≥ 0))
  (R (Ending.returned (Value.bool (decide (n_1 ≤ 65536)))) w)
  (R (Ending.returned (Value.bool false)) w)) :
  Calls Try.prog 13 #[(Value.int .i64 n_1)] w R :=
  V.calls_of_V ⟨V.assoc [], V.assoc []⟩ Try.func13 rfl (Eq.mp (by kernel_rfl) h)

theorem berthlaw01_ints_nf (l_1 : Option Addr) (l_1l : Nat) (l_1c : Nat) (w : World) (R : Ending → World → Prop) (h :
  ∃ A2, ∃ A2l, ∃ A2c, ∃ w3, Sem.run Try.prog (Builtin.append_ #[25, 25] 25 #[(Value.slice (some ⟨Array.size (World.heap w), 0, none⟩) 0 0), (Value.slice l_1 l_1l l_1c)]) (World.alloc w (.cells #[] 3)) = .ok (Value.slice A2 A2l A2c) w3 ∧
  R (Ending.returned (Value.slice A2 A2l A2c)) w3) :
  Calls Try.prog 14 #[(Value.slice l_1 l_1l l_1c)] w R :=
  V.calls_of_V ⟨V.assoc [], V.assoc []⟩ Try.func14 rfl (Eq.mp (by kernel_rfl) h)

theorem bitset_From_nf (n_1 : Int) (places_2 : Option Addr) (places_2l : Nat) (places_2c : Nat) (w : World) (R : Ending → World → Prop) (h :
  Calls Try.prog 31 #[(Value.int .i64 n_1)] w fun e5 w6 =>
  ∃ p3, ∃ n4, e5 = Ending.returned (Value.tuple #[(Value.pointer p3), (Value.int .i64 n4)]) ∧
  V.sel (n4 != 0)
  (R (Ending.returned (Value.tuple #[(Value.pointer none), (Value.int .i64 n4)])) w6)
  (∃ I7 : Int → World → Prop, ∃ μ8 : Int → World → Nat, I7 0 w6 ∧
  ∀ t20_9 (j10 : Nat → Value) (w11 : World), I7 t20_9 w11 →
  (V.sel (decide (t20_9 < ((places_2l : Nat) : Int)))
  (V.when (decide ((0 : Int) ≤ t20_9 ∧ (t20_9 : Int) < ((places_2l : Nat) : Int))) (V.ptr places_2 fun a12 =>
  ∃ n13, World.cell? w11 (Addr.add a12 ((Int.toNat t20_9) * 1)) = some (Value.int .i64 n13) ∧
  V.sel (decide (n13 < 0))
  (R (Ending.returned (Value.tuple #[(Value.pointer none), (Value.int .i64 12)])) w11)
  (V.sel (decide (n13 ≥ n_1))
  (R (Ending.returned (Value.tuple #[(Value.pointer none), (Value.int .i64 12)])) w11)
  (V.ptr p3 fun a14 =>
  ∃ A15, ∃ A15l, ∃ A15c, World.cell? w11 (Addr.add a14 1) = some (Value.slice A15 A15l A15c) ∧
  V.when (decide ((0 : Int) ≤ (IntKind.wrap .i64 (Int.tdiv n13 64)) ∧ ((IntKind.wrap .i64 (Int.tdiv n13 64)) : Int) < ((A15l : Nat) : Int))) (V.ptr A15 fun a16 =>
  ∃ n17, World.cell? w11 (Addr.add a16 ((Int.toNat (IntKind.wrap .i64 (Int.tdiv n13 64))) * 1)) = some (Value.int .u64 n17) ∧
  V.when (decide (0 ≤ (Int.tmod n13 64))) (V.when (decide ((0 : Int) ≤ (IntKind.wrap .i64 (Int.tdiv n13 64)) ∧ ((IntKind.wrap .i64 (Int.tdiv n13 64)) : Int) < ((A15l : Nat) : Int))) (V.ptr A15 fun a18 =>
  (∃ u19, World.cell? (World.drew w11) (Addr.add (Addr.add a18 ((Int.toNat (IntKind.wrap .i64 (Int.tdiv n13 64))) * 1)) 0) = some u19) ∧ World.frozen? (World.drew w11) (Addr.add (Addr.add a18 ((Int.toNat (IntKind.wrap .i64 (Int.tdiv n13 64))) * 1)) 0) = false ∧
  I7 (IntKind.wrap .i64 (t20_9 + 1)) (World.setCell (World.drew w11) (Addr.add (Addr.add a18 ((Int.toNat (IntKind.wrap .i64 (Int.tdiv n13 64))) * 1)) 0) (Value.int .u64 (IntKind.wrap .u64 ((BitVec.toNat (BitVec.ofInt 64 n17 ||| BitVec.ofInt 64 (IntKind.wrap .u64 (1 * 2 ^ (min (Int.toNat (Int.tmod n13 64)) 64)))) : Nat) : Int)))) ∧ μ8 (IntKind.wrap .i64 (t20_9 + 1)) (World.setCell (World.drew w11) (Addr.add (Addr.add a18 ((Int.toNat (IntKind.wrap .i64 (Int.tdiv n13 64))) * 1)) 0) (Value.int .u64 (IntKind.wrap .u64 ((BitVec.toNat (BitVec.ofInt 64 n17 ||| BitVec.ofInt 64 (IntKind.wrap .u64 (1 * 2 ^ (min (Int.toNat (Int.tmod n13 64)) 64)))) : Nat) : Int)))) < μ8 t20_9 w11)))))))
  (R (Ending.returned (Value.tuple #[(Value.pointer p3), (Value.int .i64 0)])) w11)))) :
  Calls Try.prog 15 #[(Value.int .i64 n_1), (Value.slice places_2 places_2l places_2c)] w R :=
  V.calls_of_V ⟨V.assoc [(0, [20])], V.assoc [(9, [0, 1, 2, 3, 4, 5, 6, 7, 8, 9, 10, 11, 12, 13])]⟩ Try.func15 rfl (Eq.mp (by kernel_rfl) h)

theorem berthlaw01_of_nf (n_1 : Int) (l_2 : Option Addr) (l_2l : Nat) (l_2c : Nat) (w : World) (R : Ending → World → Prop) (h :
  ∃ I3 : Option Addr → Nat → Nat → Int → World → Prop, ∃ μ4 : Option Addr → Nat → Nat → Int → World → Nat, I3 none 0 0 0 w ∧
  ∀ in_5 in_5l in_5c i_6 (j7 : Nat → Value) (w8 : World), I3 in_5 in_5l in_5c i_6 w8 →
  (V.sel (decide (i_6 < ((l_2l : Nat) : Int)))
  (V.when (decide ((0 : Int) ≤ i_6 ∧ (i_6 : Int) < ((l_2l : Nat) : Int))) (V.ptr l_2 fun a9 =>
  ∃ n10, World.cell? w8 (Addr.add a9 ((Int.toNat i_6) * 1)) = some (Value.int .i64 n10) ∧
  V.sel (decide (n10 ≥ 0))
  (V.when (decide ((0 : Int) ≤ i_6 ∧ (i_6 : Int) < ((l_2l : Nat) : Int))) (V.ptr l_2 fun a11 =>
  ∃ n12, World.cell? w8 (Addr.add a11 ((Int.toNat i_6) * 1)) = some (Value.int .i64 n12) ∧
  V.sel (decide (n12 < n_1))
  (V.when (decide ((0 : Int) ≤ i_6 ∧ (i_6 : Int) < ((l_2l : Nat) : Int))) (V.ptr l_2 fun a13 =>
  ∃ n14, World.cell? w8 (Addr.add a13 ((Int.toNat i_6) * 1)) = some (Value.int .i64 n14) ∧
  ∃ A15, ∃ A15l, ∃ A15c, ∃ w16, Sem.run Try.prog (Builtin.append_ #[25, 25] 25 #[(Value.slice in_5 in_5l in_5c), (Value.slice (some ⟨Array.size (World.heap w8), 0, none⟩) 1 1)]) (World.alloc w8 (.cells #[(Value.int .i64 n14)] 3)) = .ok (Value.slice A15 A15l A15c) w16 ∧
  I3 A15 A15l A15c (IntKind.wrap .i64 (i_6 + 1)) w16 ∧ μ4 A15 A15l A15c (IntKind.wrap .i64 (i_6 + 1)) w16 < μ4 in_5 in_5l in_5c i_6 w8))
  (I3 in_5 in_5l in_5c (IntKind.wrap .i64 (i_6 + 1)) w8 ∧ μ4 in_5 in_5l in_5c (IntKind.wrap .i64 (i_6 + 1)) w8 < μ4 in_5 in_5l in_5c i_6 w8)))
  (I3 in_5 in_5l in_5c (IntKind.wrap .i64 (i_6 + 1)) w8 ∧ μ4 in_5 in_5l in_5c (IntKind.wrap .i64 (i_6 + 1)) w8 < μ4 in_5 in_5l in_5c i_6 w8)))
  (Calls Try.prog 15 #[(Value.int .i64 n_1), (Value.slice in_5 in_5l in_5c)] w8 fun e19 w20 =>
  ∃ p17, ∃ n18, e19 = Ending.returned (Value.tuple #[(Value.pointer p17), (Value.int .i64 n18)]) ∧
  R (Ending.returned (Value.pointer p17)) w20))) :
  Calls Try.prog 16 #[(Value.int .i64 n_1), (Value.slice l_2 l_2l l_2c)] w R :=
  V.calls_of_V ⟨V.assoc [(0, [5, 6])], V.assoc []⟩ Try.func16 rfl (Eq.mp (by kernel_rfl) h)

theorem berthlaw01_all_nf (l_1 : Option Addr) (l_1l : Nat) (l_1c : Nat) (w : World) (R : Ending → World → Prop) (h :
  ∃ I2 : Int → World → Prop, ∃ μ3 : Int → World → Nat, I2 0 w ∧
  ∀ i_4 (j5 : Nat → Value) (w6 : World), I2 i_4 w6 →
  (V.sel (decide (i_4 < ((l_1l : Nat) : Int)))
  (V.when (decide ((0 : Int) ≤ i_4 ∧ (i_4 : Int) < ((l_1l : Nat) : Int))) (V.ptr l_1 fun a7 =>
  ∃ p8, World.cell? w6 (Addr.add a7 ((Int.toNat i_4) * 1)) = some (Value.pointer p8) ∧
  V.sel (Option.isNone p8)
  (R (Ending.returned (Value.bool false)) w6)
  (I2 (IntKind.wrap .i64 (i_4 + 1)) w6 ∧ μ3 (IntKind.wrap .i64 (i_4 + 1)) w6 < μ3 i_4 w6)))
  (R (Ending.returned (Value.bool true)) w6))) :
  Calls Try.prog 17 #[(Value.slice l_1 l_1l l_1c)] w R :=
  V.calls_of_V ⟨V.assoc [(0, [3])], V.assoc []⟩ Try.func17 rfl (Eq.mp (by kernel_rfl) h)

theorem berthref01_SameInts_nf (a_1 : Option Addr) (a_1l : Nat) (a_1c : Nat) (b_2 : Option Addr) (b_2l : Nat) (b_2c : Nat) (w : World) (R : Ending → World → Prop) (h :
  V.sel (((a_1l : Nat) : Int) != ((b_2l : Nat) : Int))
  (R (Ending.returned (Value.bool false)) w)
  (∃ I3 : Int → World → Prop, ∃ μ4 : Int → World → Nat, I3 0 w ∧
  ∀ i_5 (j6 : Nat → Value) (w7 : World), I3 i_5 w7 →
  (V.sel (decide (i_5 < ((a_1l : Nat) : Int)))
  (V.when (decide ((0 : Int) ≤ i_5 ∧ (i_5 : Int) < ((a_1l : Nat) : Int))) (V.ptr a_1 fun a8 =>
  ∃ n9, World.cell? w7 (Addr.add a8 ((Int.toNat i_5) * 1)) = some (Value.int .i64 n9) ∧
  V.when (decide ((0 : Int) ≤ i_5 ∧ (i_5 : Int) < ((b_2l : Nat) : Int))) (V.ptr b_2 fun a10 =>
  ∃ n11, World.cell? w7 (Addr.add a10 ((Int.toNat i_5) * 1)) = some (Value.int .i64 n11) ∧
  V.sel (n9 != n11)
  (R (Ending.returned (Value.bool false)) (World.drew w7))
  (I3 (IntKind.wrap .i64 (i_5 + 1)) (World.drew w7) ∧ μ4 (IntKind.wrap .i64 (i_5 + 1)) (World.drew w7) < μ4 i_5 w7))))
  (R (Ending.returned (Value.bool true)) w7)))) :
  Calls Try.prog 18 #[(Value.slice a_1 a_1l a_1c), (Value.slice b_2 b_2l b_2c)] w R :=
  V.calls_of_V ⟨V.assoc [(0, [5])], V.assoc [(6, [0, 1, 2, 3, 4, 5, 6, 7, 8])]⟩ Try.func18 rfl (Eq.mp (by kernel_rfl) h)

theorem berthref01_Members_nf (s_1 : Int) (s_2 : Option Addr) (s_2l : Nat) (s_2c : Nat) (w : World) (R : Ending → World → Prop) (h :
  ∃ A3, ∃ A3l, ∃ A3c, World.cell? (World.alloc (World.alloc w (.cells #[(Value.int .i64 s_1), (Value.slice s_2 s_2l s_2c)] 38)) (.cells #[] 3)) (Addr.add ⟨Array.size (World.heap w), 0, none⟩ 1) = some (Value.slice A3 A3l A3c) ∧
  ∃ A4, ∃ A4l, ∃ A4c, ∃ w5, Sem.run Try.prog (Builtin.append_ #[25, 25] 25 #[(Value.slice (some ⟨Array.size (World.heap (World.alloc w (.cells #[(Value.int .i64 s_1), (Value.slice s_2 s_2l s_2c)] 38))), 0, none⟩) 0 0), (Value.slice A3 A3l A3c)]) (World.alloc (World.alloc w (.cells #[(Value.int .i64 s_1), (Value.slice s_2 s_2l s_2c)] 38)) (.cells #[] 3)) = .ok (Value.slice A4 A4l A4c) w5 ∧
  R (Ending.returned (Value.slice A4 A4l A4c)) w5) :
  Calls Try.prog 19 #[(Value.agg #[(Value.int .i64 s_1), (Value.slice s_2 s_2l s_2c)])] w R :=
  V.calls_of_V ⟨V.assoc [], V.assoc []⟩ Try.func19 rfl (Eq.mp (by kernel_rfl) h)

theorem berthlaw01_set_nf (n_1 : Int) (l_2 : Option Addr) (l_2l : Nat) (l_2c : Nat) (w : World) (R : Ending → World → Prop) (h :
  Calls Try.prog 55 #[(Value.int .i64 n_1), (Value.slice l_2 l_2l l_2c)] (World.alloc w (.cells #[(Value.int .i64 0), (Value.slice none 0 0)] 38)) fun e6 w7 =>
  ∃ n3, ∃ A4, ∃ A4l, ∃ A4c, ∃ n5, e6 = Ending.returned (Value.tuple #[(Value.agg #[(Value.int .i64 n3), (Value.slice A4 A4l A4c)]), (Value.int .i64 n5)]) ∧
  (∃ u8, World.cell? (World.alloc w7 (.cells #[(Value.int .i64 0), (Value.slice none 0 0)] 38)) (Addr.add ⟨Array.size (World.heap w7), 0, none⟩ 0) = some u8) ∧ World.frozen? (World.alloc w7 (.cells #[(Value.int .i64 0), (Value.slice none 0 0)] 38)) (Addr.add ⟨Array.size (World.heap w7), 0, none⟩ 0) = false ∧
  (∃ u9, World.cell? (World.setCell (World.alloc w7 (.cells #[(Value.int .i64 0), (Value.slice none 0 0)] 38)) (Addr.add ⟨Array.size (World.heap w7), 0, none⟩ 0) (Value.int .i64 n3)) (Addr.add ⟨Array.size (World.heap w7), 0, none⟩ 1) = some u9) ∧ World.frozen? (World.setCell (World.alloc w7 (.cells #[(Value.int .i64 0), (Value.slice none 0 0)] 38)) (Addr.add ⟨Array.size (World.heap w7), 0, none⟩ 0) (Value.int .i64 n3)) (Addr.add ⟨Array.size (World.heap w7), 0, none⟩ 1) = false ∧
  ∃ n10, World.cell? (World.setCell (World.setCell (World.alloc w7 (.cells #[(Value.int .i64 0), (Value.slice none 0 0)] 38)) (Addr.add ⟨Array.size (World.heap w7), 0, none⟩ 0) (Value.int .i64 n3)) (Addr.add ⟨Array.size (World.heap w7), 0, none⟩ 1) (Value.slice A4 A4l A4c)) (Addr.add ⟨Array.size (World.heap w7), 0, none⟩ 0) = some (Value.int .i64 n10) ∧
  ∃ A11, ∃ A11l, ∃ A11c, World.cell? (World.setCell (World.setCell (World.alloc w7 (.cells #[(Value.int .i64 0), (Value.slice none 0 0)] 38)) (Addr.add ⟨Array.size (World.heap w7), 0, none⟩ 0) (Value.int .i64 n3)) (Addr.add ⟨Array.size (World.heap w7), 0, none⟩ 1) (Value.slice A4 A4l A4c)) (Addr.add ⟨Array.size (World.heap w7), 0, none⟩ 1) = some (Value.slice A11 A11l A11c) ∧
  (∃ u12, World.cell? (World.setCell (World.setCell (World.alloc w7 (.cells #[(Value.int .i64 0), (Value.slice none 0 0)] 38)) (Addr.add ⟨Array.size (World.heap w7), 0, none⟩ 0) (Value.int .i64 n3)) (Addr.add ⟨Array.size (World.heap w7), 0, none⟩ 1) (Value.slice A4 A4l A4c)) (Addr.add ⟨Array.size (World.heap w), 0, none⟩ 0) = some u12) ∧ World.frozen? (World.setCell (World.setCell (World.alloc w7 (.cells #[(Value.int .i64 0), (Value.slice none 0 0)] 38)) (Addr.add ⟨Array.size (World.heap w7), 0, none⟩ 0) (Value.int .i64 n3)) (Addr.add ⟨Array.size (World.heap w7), 0, none⟩ 1) (Value.slice A4 A4l A4c)) (Addr.add ⟨Array.size (World.heap w), 0, none⟩ 0) = false ∧
  (∃ u13, World.cell? (World.setCell (World.setCell (World.setCell (World.alloc w7 (.cells #[(Value.int .i64 0), (Value.slice none 0 0)] 38)) (Addr.add ⟨Array.size (World.heap w7), 0, none⟩ 0) (Value.int .i64 n3)) (Addr.add ⟨Array.size (World.heap w7), 0, none⟩ 1) (Value.slice A4 A4l A4c)) (Addr.add ⟨Array.size (World.heap w), 0, none⟩ 0) (Value.int .i64 n10)) (Addr.add ⟨Array.size (World.heap w), 0, none⟩ 1) = some u13) ∧ World.frozen? (World.setCell (World.setCell (World.setCell (World.alloc w7 (.cells #[(Value.int .i64 0), (Value.slice none 0 0)] 38)) (Addr.add ⟨Array.size (World.heap w7), 0, none⟩ 0) (Value.int .i64 n3)) (Addr.add ⟨Array.size (World.heap w7), 0, none⟩ 1) (Value.slice A4 A4l A4c)) (Addr.add ⟨Array.size (World.heap w), 0, none⟩ 0) (Value.int .i64 n10)) (Addr.add ⟨Array.size (World.heap w), 0, none⟩ 1) = false ∧
  ∃ n14, World.cell? (World.setCell (World.setCell (World.setCell (World.setCell (World.alloc w7 (.cells #[(Value.int .i64 0), (Value.slice none 0 0)] 38)) (Addr.add ⟨Array.size (World.heap w7), 0, none⟩ 0) (Value.int .i64 n3)) (Addr.add ⟨Array.size (World.heap w7), 0, none⟩ 1) (Value.slice A4 A4l A4c)) (Addr.add ⟨Array.size (World.heap w), 0, none⟩ 0) (Value.int .i64 n10)) (Addr.add ⟨Array.size (World.heap w), 0, none⟩ 1) (Value.slice A11 A11l A11c)) (Addr.add ⟨Array.size (World.heap w), 0, none⟩ 0) = some (Value.int .i64 n14) ∧
  ∃ A15, ∃ A15l, ∃ A15c, World.cell? (World.setCell (World.setCell (World.setCell (World.setCell (World.alloc w7 (.cells #[(Value.int .i64 0), (Value.slice none 0 0)] 38)) (Addr.add ⟨Array.size (World.heap w7), 0, none⟩ 0) (Value.int .i64 n3)) (Addr.add ⟨Array.size (World.heap w7), 0, none⟩ 1) (Value.slice A4 A4l A4c)) (Addr.add ⟨Array.size (World.heap w), 0, none⟩ 0) (Value.int .i64 n10)) (Addr.add ⟨Array.size (World.heap w), 0, none⟩ 1) (Value.slice A11 A11l A11c)) (Addr.add ⟨Array.size (World.heap w), 0, none⟩ 1) = some (Value.slice A15 A15l A15c) ∧
  R (Ending.returned (Value.agg #[(Value.int .i64 n14), (Value.slice A15 A15l A15c)])) (World.setCell (World.setCell (World.setCell (World.setCell (World.alloc w7 (.cells #[(Value.int .i64 0), (Value.slice none 0 0)] 38)) (Addr.add ⟨Array.size (World.heap w7), 0, none⟩ 0) (Value.int .i64 n3)) (Addr.add ⟨Array.size (World.heap w7), 0, none⟩ 1) (Value.slice A4 A4l A4c)) (Addr.add ⟨Array.size (World.heap w), 0, none⟩ 0) (Value.int .i64 n10)) (Addr.add ⟨Array.size (World.heap w), 0, none⟩ 1) (Value.slice A11 A11l A11c))) :
  Calls Try.prog 20 #[(Value.int .i64 n_1), (Value.slice l_2 l_2l l_2c)] w R :=
  V.calls_of_V ⟨V.assoc [], V.assoc []⟩ Try.func20 rfl (Eq.mp (by kernel_rfl) h)

theorem bitset_Set_Members_nf (s_1 : Option Addr) (w : World) (R : Ending → World → Prop) (h :
  Calls Try.prog 29 #[(Value.pointer s_1)] w fun e3 w4 =>
  ∃ n2, e3 = Ending.returned (Value.int .i64 n2) ∧
  V.when (decide ((0 : Int) ≤ 0 ∧ (0 : Int) ≤ n2 ∧ (n2 : Int) ≤ 281474976710656 ∧ (8 : Int) * n2 ≤ 281474976710656)) (Calls Try.prog 28 #[(Value.pointer s_1)] (World.alloc w4 (.cells ⟨V.rep (Int.toNat n2) [(Value.int .i64 0)]⟩ 3)) fun e6 w7 =>
  ∃ n5, e6 = Ending.returned (Value.int .i64 n5) ∧
  ∃ I8 : Option Addr → Nat → Nat → Int → World → Prop, ∃ μ9 : Option Addr → Nat → Nat → Int → World → Nat, I8 (some ⟨Array.size (World.heap w4), 0, none⟩) 0 (Int.toNat n2) 0 w7 ∧
  ∀ out_10 out_10l out_10c t10_11 (j12 : Nat → Value) (w13 : World), I8 out_10 out_10l out_10c t10_11 w13 →
  (V.sel (decide (t10_11 < n5))
  (Calls Try.prog 47 #[(Value.pointer s_1), (Value.int .i64 t10_11)] w13 fun e15 w16 =>
  ∃ b14, e15 = Ending.returned (Value.bool b14) ∧
  V.sel b14
  (∃ A17, ∃ A17l, ∃ A17c, ∃ w18, Sem.run Try.prog (Builtin.append_ #[25, 25] 25 #[(Value.slice out_10 out_10l out_10c), (Value.slice (some ⟨Array.size (World.heap w16), 0, none⟩) 1 1)]) (World.alloc w16 (.cells #[(Value.int .i64 t10_11)] 3)) = .ok (Value.slice A17 A17l A17c) w18 ∧
  I8 A17 A17l A17c (IntKind.wrap .i64 (t10_11 + 1)) w18 ∧ μ9 A17 A17l A17c (IntKind.wrap .i64 (t10_11 + 1)) w18 < μ9 out_10 out_10l out_10c t10_11 w13)
  (I8 out_10 out_10l out_10c (IntKind.wrap .i64 (t10_11 + 1)) w16 ∧ μ9 out_10 out_10l out_10c (IntKind.wrap .i64 (t10_11 + 1)) w16 < μ9 out_10 out_10l out_10c t10_11 w13))
  (R (Ending.returned (Value.slice out_10 out_10l out_10c)) w13)))) :
  Calls Try.prog 21 #[(Value.pointer s_1)] w R :=
  V.calls_of_V ⟨V.assoc [(0, [3, 10])], V.assoc []⟩ Try.func21 rfl (Eq.mp (by kernel_rfl) h)

theorem berthlaw01_apartInts_nf (ls_1 : Option Addr) (ls_1l : Nat) (ls_1c : Nat) (w : World) (R : Ending → World → Prop) (h :
  V.when (decide ((0 : Int) ≤ ((ls_1l : Nat) : Int) ∧ (((ls_1l : Nat) : Int) : Int) ≤ ((ls_1l : Nat) : Int) ∧ (((ls_1l : Nat) : Int) : Int) ≤ 281474976710656 ∧ (24 : Int) * ((ls_1l : Nat) : Int) ≤ 281474976710656)) (∃ I2 : Int → World → Prop, ∃ μ3 : Int → World → Nat, I2 0 (World.alloc w (.cells ⟨V.rep (ls_1l : Nat) [(Value.slice none 0 0)]⟩ 25)) ∧
  ∀ i_4 (j5 : Nat → Value) (w6 : World), I2 i_4 w6 →
  (V.sel (decide (i_4 < ((ls_1l : Nat) : Int)))
  (∃ I7 : Int → World → Prop, ∃ μ8 : Int → World → Nat, I7 0 w6 ∧
  ∀ k_9 (j10 : Nat → Value) (w11 : World), I7 k_9 w11 →
  (V.when (decide ((0 : Int) ≤ i_4 ∧ (i_4 : Int) < ((ls_1l : Nat) : Int))) (V.ptr ls_1 fun a12 =>
  ∃ A13, ∃ A13l, ∃ A13c, World.cell? w11 (Addr.add a12 ((Int.toNat i_4) * 1)) = some (Value.slice A13 A13l A13c) ∧
  V.sel (decide (k_9 < ((A13l : Nat) : Int)))
  (V.when (decide ((0 : Int) ≤ i_4 ∧ (i_4 : Int) < ((ls_1l : Nat) : Int))) (V.ptr ls_1 fun a14 =>
  ∃ A15, ∃ A15l, ∃ A15c, World.cell? w11 (Addr.add a14 ((Int.toNat i_4) * 1)) = some (Value.slice A15 A15l A15c) ∧
  V.when (decide ((0 : Int) ≤ k_9 ∧ (k_9 : Int) < ((A15l : Nat) : Int))) (V.ptr A15 fun a16 =>
  (∃ u17, World.cell? w11 (Addr.add (Addr.add a16 ((Int.toNat k_9) * 1)) 0) = some u17) ∧ World.frozen? w11 (Addr.add (Addr.add a16 ((Int.toNat k_9) * 1)) 0) = false ∧
  I7 (IntKind.wrap .i64 (k_9 + 1)) (World.setCell w11 (Addr.add (Addr.add a16 ((Int.toNat k_9) * 1)) 0) (Value.int .i64 (IntKind.wrap .i64 ((IntKind.wrap .i64 ((-1000) * (IntKind.wrap .i64 (i_4 + 1)))) - (Int.tmod k_9 7))))) ∧ μ8 (IntKind.wrap .i64 (k_9 + 1)) (World.setCell w11 (Addr.add (Addr.add a16 ((Int.toNat k_9) * 1)) 0) (Value.int .i64 (IntKind.wrap .i64 ((IntKind.wrap .i64 ((-1000) * (IntKind.wrap .i64 (i_4 + 1)))) - (Int.tmod k_9 7))))) < μ8 k_9 w11)))
  (I2 (IntKind.wrap .i64 (i_4 + 1)) w11 ∧ μ3 (IntKind.wrap .i64 (i_4 + 1)) w11 < μ3 i_4 w6))))
  (∃ I18 : Int → World → Prop, ∃ μ19 : Int → World → Nat, I18 0 w6 ∧
  ∀ i_20 (j21 : Nat → Value) (w22 : World), I18 i_20 w22 →
  (V.sel (decide (i_20 < ((ls_1l : Nat) : Int)))
  (V.when (decide ((0 : Int) ≤ i_20 ∧ (i_20 : Int) < ((ls_1l : Nat) : Int))) (V.ptr ls_1 fun a23 =>
  ∃ A24, ∃ A24l, ∃ A24c, World.cell? w22 (Addr.add a23 ((Int.toNat i_20) * 1)) = some (Value.slice A24 A24l A24c) ∧
  ∃ I25 : Option Addr → Nat → Nat → Int → World → Prop, ∃ μ26 : Option Addr → Nat → Nat → Int → World → Nat, I25 A24 A24l A24c 0 w22 ∧
  ∀ g_27 g_27l g_27c k_28 (j29 : Nat → Value) (w30 : World), I25 g_27 g_27l g_27c k_28 w30 →
  (V.sel (decide (k_28 < 40))
  (∃ A31, ∃ A31l, ∃ A31c, ∃ w32, Sem.run Try.prog (Builtin.append_ #[25, 25] 25 #[(Value.slice g_27 g_27l g_27c), (Value.slice (some ⟨Array.size (World.heap w30), 0, none⟩) 1 1)]) (World.alloc w30 (.cells #[(Value.int .i64 (IntKind.wrap .i64 ((IntKind.wrap .i64 (1000000 * (IntKind.wrap .i64 (i_20 + 1)))) + k_28)))] 3)) = .ok (Value.slice A31 A31l A31c) w32 ∧
  I25 A31 A31l A31c (IntKind.wrap .i64 (k_28 + 1)) w32 ∧ μ26 A31 A31l A31c (IntKind.wrap .i64 (k_28 + 1)) w32 < μ26 g_27 g_27l g_27c k_28 w30)
  (V.when (decide ((0 : Int) ≤ i_20 ∧ (i_20 : Int) < (((ls_1l : Nat) : Nat) : Int))) ((∃ u33, World.cell? w30 (Addr.add (Addr.add ⟨Array.size (World.heap w), 0, none⟩ ((Int.toNat i_20) * 1)) 0) = some u33) ∧ World.frozen? w30 (Addr.add (Addr.add ⟨Array.size (World.heap w), 0, none⟩ ((Int.toNat i_20) * 1)) 0) = false ∧
  I18 (IntKind.wrap .i64 (i_20 + 1)) (World.setCell w30 (Addr.add (Addr.add ⟨Array.size (World.heap w), 0, none⟩ ((Int.toNat i_20) * 1)) 0) (Value.slice g_27 g_27l g_27c)) ∧ μ19 (IntKind.wrap .i64 (i_20 + 1)) (World.setCell w30 (Addr.add (Addr.add ⟨Array.size (World.heap w), 0, none⟩ ((Int.toNat i_20) * 1)) 0) (Value.slice g_27 g_27l g_27c)) < μ19 i_20 w22)))))
  (∃ I34 : Int → World → Prop, ∃ μ35 : Int → World → Nat, I34 0 w22 ∧
  ∀ i_36 (j37 : Nat → Value) (w38 : World), I34 i_36 w38 →
  (V.sel (decide (i_36 < ((ls_1l : Nat) : Int)))
  (∃ I39 : Int → World → Prop, ∃ μ40 : Int → World → Nat, I39 0 w38 ∧
  ∀ k_41 (j42 : Nat → Value) (w43 : World), I39 k_41 w43 →
  (V.when (decide ((0 : Int) ≤ i_36 ∧ (i_36 : Int) < ((ls_1l : Nat) : Int))) (V.ptr ls_1 fun a44 =>
  ∃ A45, ∃ A45l, ∃ A45c, World.cell? w43 (Addr.add a44 ((Int.toNat i_36) * 1)) = some (Value.slice A45 A45l A45c) ∧
  V.sel (decide (k_41 < ((A45l : Nat) : Int)))
  (V.when (decide ((0 : Int) ≤ i_36 ∧ (i_36 : Int) < ((ls_1l : Nat) : Int))) (V.ptr ls_1 fun a46 =>
  ∃ A47, ∃ A47l, ∃ A47c, World.cell? w43 (Addr.add a46 ((Int.toNat i_36) * 1)) = some (Value.slice A47 A47l A47c) ∧
  V.when (decide ((0 : Int) ≤ k_41 ∧ (k_41 : Int) < ((A47l : Nat) : Int))) (V.ptr A47 fun a48 =>
  ∃ n49, World.cell? w43 (Addr.add a48 ((Int.toNat k_41) * 1)) = some (Value.int .i64 n49) ∧
  V.sel (n49 != (IntKind.wrap .i64 ((IntKind.wrap .i64 ((-1000) * (IntKind.wrap .i64 (i_36 + 1)))) - (Int.tmod k_41 7))))
  (R (Ending.returned (Value.bool false)) w43)
  (I39 (IntKind.wrap .i64 (k_41 + 1)) w43 ∧ μ40 (IntKind.wrap .i64 (k_41 + 1)) w43 < μ40 k_41 w43))))
  (∃ I50 : Int → World → Prop, ∃ μ51 : Int → World → Nat, I50 0 w43 ∧
  ∀ k_52 (j53 : Nat → Value) (w54 : World), I50 k_52 w54 →
  (V.sel (decide (k_52 < 40))
  (V.when (decide ((0 : Int) ≤ i_36 ∧ (i_36 : Int) < (((ls_1l : Nat) : Nat) : Int))) (∃ A55, ∃ A55l, ∃ A55c, World.cell? w54 (Addr.add ⟨Array.size (World.heap w), 0, none⟩ ((Int.toNat i_36) * 1)) = some (Value.slice A55 A55l A55c) ∧
  V.when (decide ((0 : Int) ≤ i_36 ∧ (i_36 : Int) < ((ls_1l : Nat) : Int))) (V.ptr ls_1 fun a56 =>
  ∃ A57, ∃ A57l, ∃ A57c, World.cell? w54 (Addr.add a56 ((Int.toNat i_36) * 1)) = some (Value.slice A57 A57l A57c) ∧
  V.when (decide ((0 : Int) ≤ (IntKind.wrap .i64 (((A57l : Nat) : Int) + k_52)) ∧ ((IntKind.wrap .i64 (((A57l : Nat) : Int) + k_52)) : Int) < ((A55l : Nat) : Int))) (V.ptr A55 fun a58 =>
  ∃ n59, World.cell? w54 (Addr.add a58 ((Int.toNat (IntKind.wrap .i64 (((A57l : Nat) : Int) + k_52))) * 1)) = some (Value.int .i64 n59) ∧
  V.sel (n59 != (IntKind.wrap .i64 ((IntKind.wrap .i64 (1000000 * (IntKind.wrap .i64 (i_36 + 1)))) + k_52)))
  (R (Ending.returned (Value.bool false)) (World.drew w54))
  (I50 (IntKind.wrap .i64 (k_52 + 1)) (World.drew w54) ∧ μ51 (IntKind.wrap .i64 (k_52 + 1)) (World.drew w54) < μ51 k_52 w54)))))
  (I34 (IntKind.wrap .i64 (i_36 + 1)) w54 ∧ μ35 (IntKind.wrap .i64 (i_36 + 1)) w54 < μ35 i_36 w38))))))
  (R (Ending.returned (Value.bool true)) w38)))))))) :
  Calls Try.prog 22 #[(Value.slice ls_1 ls_1l ls_1c)] w R :=
  V.calls_of_V ⟨V.assoc [(0, [4]), (1, [5]), (2, [6]), (3, [7, 8]), (4, [9]), (5, [10]), (6, [11])], V.assoc [(29, [0, 1, 2, 3, 4, 5, 6, 7, 8, 9, 10, 11, 12, 13, 14, 15, 16, 17, 18])]⟩ Try.func22 rfl (Eq.mp (by kernel_rfl) h)

theorem berthlaw01_wordLists_nf (s_1 : Option Addr) (n_2 : Int) (w : World) (R : Ending → World → Prop) (h :
  Calls Try.prog 25 #[(Value.pointer s_1)] w fun e4 w5 =>
  ∃ A3, ∃ A3l, ∃ A3c, e4 = Ending.returned (Value.slice A3 A3l A3c) ∧
  Calls Try.prog 25 #[(Value.pointer s_1)] w5 fun e7 w8 =>
  ∃ A6, ∃ A6l, ∃ A6c, e7 = Ending.returned (Value.slice A6 A6l A6c) ∧
  Calls Try.prog 26 #[(Value.slice A3 A3l A3c)] w8 fun e10 w11 =>
  ∃ A9, ∃ A9l, ∃ A9c, e10 = Ending.returned (Value.slice A9 A9l A9c) ∧
  Calls Try.prog 26 #[(Value.slice A3 A3l A3c)] w11 fun e13 w14 =>
  ∃ A12, ∃ A12l, ∃ A12c, e13 = Ending.returned (Value.slice A12 A12l A12c) ∧
  ∃ A15, ∃ A15l, ∃ A15c, ∃ w16, Sem.run Try.prog (Builtin.append_ #[46, 46] 46 #[(Value.slice A12 A12l A12c), (Value.slice (some ⟨Array.size (World.heap w14), 0, none⟩) 4 4)]) (World.alloc w14 (.cells #[(Value.int .u64 5), (Value.int .u64 6), (Value.int .u64 7), (Value.int .u64 8)] 51)) = .ok (Value.slice A15 A15l A15c) w16 ∧
  Calls Try.prog 26 #[(Value.slice A15 A15l A15c)] w16 fun e18 w19 =>
  ∃ A17, ∃ A17l, ∃ A17c, e18 = Ending.returned (Value.slice A17 A17l A17c) ∧
  V.when (decide ((0 : Int) ≤ ((A3l : Nat) : Int) ∧ (((A3l : Nat) : Int) : Int) ≤ ((A15c : Nat) : Int))) (Calls Try.prog 24 #[(Value.int .i64 n_2), (Value.slice (V.cut A15 A15c 0 1) ((A3l : Nat) - 0) (A15c - 0))] w19 fun e22 w23 =>
  ∃ p20, ∃ n21, e22 = Ending.returned (Value.tuple #[(Value.pointer p20), (Value.int .i64 n21)]) ∧
  V.sel (Option.isNone p20)
  (R (Ending.returned (Value.bool false)) w23)
  (Calls Try.prog 56 #[(Value.slice A15 A15l A15c), (Value.slice A17 A17l A17c)] w23 fun e25 w26 =>
  ∃ b24, e25 = Ending.returned (Value.bool b24) ∧
  V.sel (!b24)
  (R (Ending.returned (Value.bool false)) w26)
  (Calls Try.prog 56 #[(Value.slice A6 A6l A6c), (Value.slice A9 A9l A9c)] w26 fun e28 w29 =>
  ∃ b27, e28 = Ending.returned (Value.bool b27) ∧
  V.sel (!b27)
  (R (Ending.returned (Value.bool false)) w29)
  (∃ I30 : Int → World → Prop, ∃ μ31 : Int → World → Nat, I30 0 w29 ∧
  ∀ i_32 (j33 : Nat → Value) (w34 : World), I30 i_32 w34 →
  (V.sel (decide (i_32 < ((A15l : Nat) : Int)))
  (V.when (decide ((0 : Int) ≤ i_32 ∧ (i_32 : Int) < ((A15l : Nat) : Int))) (V.ptr A15 fun a35 =>
  (∃ u36, World.cell? w34 (Addr.add (Addr.add a35 ((Int.toNat i_32) * 1)) 0) = some u36) ∧ World.frozen? w34 (Addr.add (Addr.add a35 ((Int.toNat i_32) * 1)) 0) = false ∧
  I30 (IntKind.wrap .i64 (i_32 + 1)) (World.setCell w34 (Addr.add (Addr.add a35 ((Int.toNat i_32) * 1)) 0) (Value.int .u64 0)) ∧ μ31 (IntKind.wrap .i64 (i_32 + 1)) (World.setCell w34 (Addr.add (Addr.add a35 ((Int.toNat i_32) * 1)) 0) (Value.int .u64 0)) < μ31 i_32 w34))
  (Calls Try.prog 25 #[(Value.pointer p20)] w34 fun e38 w39 =>
  ∃ A37, ∃ A37l, ∃ A37c, e38 = Ending.returned (Value.slice A37 A37l A37c) ∧
  Calls Try.prog 56 #[(Value.slice A37 A37l A37c), (Value.slice A9 A9l A9c)] w39 fun e41 w42 =>
  ∃ b40, e41 = Ending.returned (Value.bool b40) ∧
  V.sel (!b40)
  (R (Ending.returned (Value.bool false)) w42)
  (Calls Try.prog 57 #[(Value.slice (some ⟨Array.size (World.heap w42), 0, none⟩) 3 3)] (World.alloc w42 (.cells #[(Value.slice A3 A3l A3c), (Value.slice A6 A6l A6c), (Value.slice A37 A37l A37c)] 46)) fun e44 w45 =>
  ∃ b43, e44 = Ending.returned (Value.bool b43) ∧
  V.sel (!b43)
  (R (Ending.returned (Value.bool false)) w45)
  (Calls Try.prog 25 #[(Value.pointer s_1)] w45 fun e47 w48 =>
  ∃ A46, ∃ A46l, ∃ A46c, e47 = Ending.returned (Value.slice A46 A46l A46c) ∧
  Calls Try.prog 56 #[(Value.slice A46 A46l A46c), (Value.slice A9 A9l A9c)] w48 fun e50 w51 =>
  ∃ b49, e50 = Ending.returned (Value.bool b49) ∧
  V.sel b49
  (Calls Try.prog 25 #[(Value.pointer p20)] w51 fun e53 w54 =>
  ∃ A52, ∃ A52l, ∃ A52c, e53 = Ending.returned (Value.slice A52 A52l A52c) ∧
  Calls Try.prog 56 #[(Value.slice A52 A52l A52c), (Value.slice A9 A9l A9c)] w54 fun e56 w57 =>
  ∃ b55, e56 = Ending.returned (Value.bool b55) ∧
  R (Ending.returned (Value.bool b55)) w57)
  (R (Ending.returned (Value.bool false)) w51)))))))))) :
  Calls Try.prog 23 #[(Value.pointer s_1), (Value.int .i64 n_2)] w R :=
  V.calls_of_V ⟨V.assoc [(0, [12])], V.assoc []⟩ Try.func23 rfl (Eq.mp (by kernel_rfl) h)

theorem bitset_FromWords_nf (n_1 : Int) (words_2 : Option Addr) (words_2l : Nat) (words_2c : Nat) (w : World) (R : Ending → World → Prop) (h :
  Calls Try.prog 31 #[(Value.int .i64 n_1)] w fun e5 w6 =>
  ∃ p3, ∃ n4, e5 = Ending.returned (Value.tuple #[(Value.pointer p3), (Value.int .i64 n4)]) ∧
  V.sel (n4 != 0)
  (R (Ending.returned (Value.tuple #[(Value.pointer none), (Value.int .i64 n4)])) w6)
  (V.ptr p3 fun a7 =>
  ∃ A8, ∃ A8l, ∃ A8c, World.cell? w6 (Addr.add a7 1) = some (Value.slice A8 A8l A8c) ∧
  V.sel (((words_2l : Nat) : Int) != ((A8l : Nat) : Int))
  (R (Ending.returned (Value.tuple #[(Value.pointer none), (Value.int .i64 14)])) w6)
  (V.sel ((Int.tmod n_1 64) != 0)
  (V.when (decide ((0 : Int) ≤ (IntKind.wrap .i64 (((words_2l : Nat) : Int) - 1)) ∧ ((IntKind.wrap .i64 (((words_2l : Nat) : Int) - 1)) : Int) < ((words_2l : Nat) : Int))) (V.ptr words_2 fun a9 =>
  ∃ n10, World.cell? w6 (Addr.add a9 ((Int.toNat (IntKind.wrap .i64 (((words_2l : Nat) : Int) - 1))) * 1)) = some (Value.int .u64 n10) ∧
  V.when (decide (0 ≤ (Int.tmod n_1 64))) (V.sel ((Int.fdiv n10 (2 ^ (min (Int.toNat (Int.tmod n_1 64)) 64))) != 0)
  (R (Ending.returned (Value.tuple #[(Value.pointer none), (Value.int .i64 12)])) w6)
  (V.ptr p3 fun a11 =>
  ∃ A12, ∃ A12l, ∃ A12c, World.cell? w6 (Addr.add a11 1) = some (Value.slice A12 A12l A12c) ∧
  ∃ n13, ∃ w14, Sem.run Try.prog (Builtin.copy_ #[46, 46] 3 #[(Value.slice A12 A12l A12c), (Value.slice words_2 words_2l words_2c)]) w6 = .ok (Value.int .i64 n13) w14 ∧
  R (Ending.returned (Value.tuple #[(Value.pointer p3), (Value.int .i64 0)])) w14))))
  (V.ptr p3 fun a15 =>
  ∃ A16, ∃ A16l, ∃ A16c, World.cell? w6 (Addr.add a15 1) = some (Value.slice A16 A16l A16c) ∧
  ∃ n17, ∃ w18, Sem.run Try.prog (Builtin.copy_ #[46, 46] 3 #[(Value.slice A16 A16l A16c), (Value.slice words_2 words_2l words_2c)]) w6 = .ok (Value.int .i64 n17) w18 ∧
  R (Ending.returned (Value.tuple #[(Value.pointer p3), (Value.int .i64 0)])) w18)))) :
  Calls Try.prog 24 #[(Value.int .i64 n_1), (Value.slice words_2 words_2l words_2c)] w R :=
  V.calls_of_V ⟨V.assoc [], V.assoc []⟩ Try.func24 rfl (Eq.mp (by kernel_rfl) h)

theorem bitset_Set_Words_nf (s_1 : Option Addr) (w : World) (R : Ending → World → Prop) (h :
  Calls Try.prog 44 #[(Value.pointer s_1)] w fun e3 w4 =>
  ∃ p2, e3 = Ending.returned (Value.pointer p2) ∧
  V.ptr p2 fun a5 =>
  ∃ A6, ∃ A6l, ∃ A6c, World.cell? w4 (Addr.add a5 1) = some (Value.slice A6 A6l A6c) ∧
  R (Ending.returned (Value.slice A6 A6l A6c)) w4) :
  Calls Try.prog 25 #[(Value.pointer s_1)] w R :=
  V.calls_of_V ⟨V.assoc [], V.assoc []⟩ Try.func25 rfl (Eq.mp (by kernel_rfl) h)

theorem berthlaw01_words_nf (l_1 : Option Addr) (l_1l : Nat) (l_1c : Nat) (w : World) (R : Ending → World → Prop) (h :
  ∃ A2, ∃ A2l, ∃ A2c, ∃ w3, Sem.run Try.prog (Builtin.append_ #[46, 46] 46 #[(Value.slice (some ⟨Array.size (World.heap w), 0, none⟩) 0 0), (Value.slice l_1 l_1l l_1c)]) (World.alloc w (.cells #[] 51)) = .ok (Value.slice A2 A2l A2c) w3 ∧
  R (Ending.returned (Value.slice A2 A2l A2c)) w3) :
  Calls Try.prog 26 #[(Value.slice l_1 l_1l l_1c)] w R :=
  V.calls_of_V ⟨V.assoc [], V.assoc []⟩ Try.func26 rfl (Eq.mp (by kernel_rfl) h)

theorem bitset_Equal_nf (a_1 : Option Addr) (b_2 : Option Addr) (w : World) (R : Ending → World → Prop) (h :
  Calls Try.prog 58 #[(Value.pointer a_1), (Value.pointer b_2)] w fun e4 w5 =>
  ∃ n3, e4 = Ending.returned (Value.int .i64 n3) ∧
  ∃ I6 : Int → World → Prop, ∃ μ7 : Int → World → Nat, I6 0 w5 ∧
  ∀ t9_8 (j9 : Nat → Value) (w10 : World), I6 t9_8 w10 →
  (V.sel (decide (t9_8 < n3))
  (Calls Try.prog 59 #[(Value.pointer a_1), (Value.int .i64 t9_8)] w10 fun e12 w13 =>
  ∃ n11, e12 = Ending.returned (Value.int .u64 n11) ∧
  Calls Try.prog 59 #[(Value.pointer b_2), (Value.int .i64 t9_8)] w13 fun e15 w16 =>
  ∃ n14, e15 = Ending.returned (Value.int .u64 n14) ∧
  V.sel (n11 != n14)
  (R (Ending.returned (Value.bool false)) w16)
  (I6 (IntKind.wrap .i64 (t9_8 + 1)) w16 ∧ μ7 (IntKind.wrap .i64 (t9_8 + 1)) w16 < μ7 t9_8 w10))
  (R (Ending.returned (Value.bool true)) w10))) :
  Calls Try.prog 27 #[(Value.pointer a_1), (Value.pointer b_2)] w R :=
  V.calls_of_V ⟨V.assoc [(0, [9])], V.assoc []⟩ Try.func27 rfl (Eq.mp (by kernel_rfl) h)

theorem bitset_Set_Size_nf (s_1 : Option Addr) (w : World) (R : Ending → World → Prop) (h :
  V.sel (Option.isNone s_1)
  (R (Ending.returned (Value.int .i64 0)) w)
  (V.ptr s_1 fun a2 =>
  ∃ n3, World.cell? w (Addr.add a2 0) = some (Value.int .i64 n3) ∧
  R (Ending.returned (Value.int .i64 n3)) w)) :
  Calls Try.prog 28 #[(Value.pointer s_1)] w R :=
  V.calls_of_V ⟨V.assoc [], V.assoc []⟩ Try.func28 rfl (Eq.mp (by kernel_rfl) h)

theorem bitset_Set_Count_nf (s_1 : Option Addr) (w : World) (R : Ending → World → Prop) (h :
  Calls Try.prog 28 #[(Value.pointer s_1)] w fun e3 w4 =>
  ∃ n2, e3 = Ending.returned (Value.int .i64 n2) ∧
  Calls Try.prog 60 #[(Value.pointer s_1), (Value.int .i64 n2)] w4 fun e6 w7 =>
  ∃ n5, e6 = Ending.returned (Value.int .i64 n5) ∧
  R (Ending.returned (Value.int .i64 n5)) w7) :
  Calls Try.prog 29 #[(Value.pointer s_1)] w R :=
  V.calls_of_V ⟨V.assoc [], V.assoc []⟩ Try.func29 rfl (Eq.mp (by kernel_rfl) h)

theorem berthlaw01_refused_nf (n_1 : Int) (w_2 : Option Addr) (w_2l : Nat) (w_2c : Nat) (w : World) (R : Ending → World → Prop) (h :
  Calls Try.prog 26 #[(Value.slice w_2 w_2l w_2c)] w fun e4 w5 =>
  ∃ A3, ∃ A3l, ∃ A3c, e4 = Ending.returned (Value.slice A3 A3l A3c) ∧
  ∃ A6, ∃ A6l, ∃ A6c, ∃ w7, Sem.run Try.prog (Builtin.append_ #[46, 46] 46 #[(Value.slice A3 A3l A3c), (Value.slice (some ⟨Array.size (World.heap w5), 0, none⟩) 1 1)]) (World.alloc w5 (.cells #[(Value.int .u64 0)] 51)) = .ok (Value.slice A6 A6l A6c) w7 ∧
  Calls Try.prog 24 #[(Value.int .i64 n_1), (Value.slice A6 A6l A6c)] w7 fun e10 w11 =>
  ∃ p8, ∃ n9, e10 = Ending.returned (Value.tuple #[(Value.pointer p8), (Value.int .i64 n9)]) ∧
  Calls Try.prog 11 #[(Value.int .i64 n9)] w11 fun e13 w14 =>
  ∃ n12, e13 = Ending.returned (Value.int .i64 n12) ∧
  V.sel (n12 != 14)
  (R (Ending.returned (Value.bool false)) w14)
  (V.sel (((w_2l : Nat) : Int) == 0)
  (R (Ending.returned (Value.bool true)) w14)
  (V.when (decide ((0 : Int) ≤ (IntKind.wrap .i64 (((w_2l : Nat) : Int) - 1)) ∧ ((IntKind.wrap .i64 (((w_2l : Nat) : Int) - 1)) : Int) ≤ ((w_2c : Nat) : Int))) (Calls Try.prog 26 #[(Value.slice (V.cut w_2 w_2c 0 1) ((Int.toNat (IntKind.wrap .i64 (((w_2l : Nat) : Int) - 1))) - 0) (w_2c - 0))] w14 fun e16 w17 =>
  ∃ A15, ∃ A15l, ∃ A15c, e16 = Ending.returned (Value.slice A15 A15l A15c) ∧
  Calls Try.prog 24 #[(Value.int .i64 n_1), (Value.slice A15 A15l A15c)] w17 fun e20 w21 =>
  ∃ p18, ∃ n19, e20 = Ending.returned (Value.tuple #[(Value.pointer p18), (Value.int .i64 n19)]) ∧
  Calls Try.prog 11 #[(Value.int .i64 n19)] w21 fun e23 w24 =>
  ∃ n22, e23 = Ending.returned (Value.int .i64 n22) ∧
  V.sel (n22 != 14)
  (R (Ending.returned (Value.bool false)) w24)
  (V.sel ((Int.tmod n_1 64) != 0)
  (Calls Try.prog 26 #[(Value.slice w_2 w_2l w_2c)] w24 fun e26 w27 =>
  ∃ A25, ∃ A25l, ∃ A25c, e26 = Ending.returned (Value.slice A25 A25l A25c) ∧
  V.when (decide ((0 : Int) ≤ (IntKind.wrap .i64 (((A25l : Nat) : Int) - 1)) ∧ ((IntKind.wrap .i64 (((A25l : Nat) : Int) - 1)) : Int) < ((A25l : Nat) : Int))) (V.ptr A25 fun a28 =>
  ∃ n29, World.cell? w27 (Addr.add a28 ((Int.toNat (IntKind.wrap .i64 (((A25l : Nat) : Int) - 1))) * 1)) = some (Value.int .u64 n29) ∧
  V.when (decide (0 ≤ (IntKind.wrap .u64 ((Int.tmod n_1 64))))) (V.when (decide ((0 : Int) ≤ (IntKind.wrap .i64 (((A25l : Nat) : Int) - 1)) ∧ ((IntKind.wrap .i64 (((A25l : Nat) : Int) - 1)) : Int) < ((A25l : Nat) : Int))) (V.ptr A25 fun a30 =>
  (∃ u31, World.cell? w27 (Addr.add (Addr.add a30 ((Int.toNat (IntKind.wrap .i64 (((A25l : Nat) : Int) - 1))) * 1)) 0) = some u31) ∧ World.frozen? w27 (Addr.add (Addr.add a30 ((Int.toNat (IntKind.wrap .i64 (((A25l : Nat) : Int) - 1))) * 1)) 0) = false ∧
  Calls Try.prog 24 #[(Value.int .i64 n_1), (Value.slice A25 A25l A25c)] (World.setCell w27 (Addr.add (Addr.add a30 ((Int.toNat (IntKind.wrap .i64 (((A25l : Nat) : Int) - 1))) * 1)) 0) (Value.int .u64 (IntKind.wrap .u64 ((BitVec.toNat (BitVec.ofInt 64 n29 ||| BitVec.ofInt 64 (IntKind.wrap .u64 (1 * 2 ^ (min (Int.toNat (IntKind.wrap .u64 ((Int.tmod n_1 64)))) 64)))) : Nat) : Int)))) fun e34 w35 =>
  ∃ p32, ∃ n33, e34 = Ending.returned (Value.tuple #[(Value.pointer p32), (Value.int .i64 n33)]) ∧
  Calls Try.prog 11 #[(Value.int .i64 n33)] w35 fun e37 w38 =>
  ∃ n36, e37 = Ending.returned (Value.int .i64 n36) ∧
  R (Ending.returned (Value.bool (n36 == 12))) w38))))
  (R (Ending.returned (Value.bool true)) w24)))))) :
  Calls Try.prog 30 #[(Value.int .i64 n_1), (Value.slice w_2 w_2l w_2c)] w R :=
  V.calls_of_V ⟨V.assoc [], V.assoc []⟩ Try.func30 rfl (Eq.mp (by kernel_rfl) h)

theorem bitset_New_nf (n_1 : Int) (w : World) (R : Ending → World → Prop) (h :
  V.sel (decide (n_1 < 0))
  (R (Ending.returned (Value.tuple #[(Value.pointer none), (Value.int .i64 11)])) w)
  (V.sel (decide (n_1 > 65536))
  (R (Ending.returned (Value.tuple #[(Value.pointer none), (Value.int .i64 11)])) w)
  (Calls Try.prog 61 #[(Value.int .i64 n_1)] w fun e3 w4 =>
  ∃ p2, e3 = Ending.returned (Value.pointer p2) ∧
  R (Ending.returned (Value.tuple #[(Value.pointer p2), (Value.int .i64 0)])) w4))) :
  Calls Try.prog 31 #[(Value.int .i64 n_1)] w R :=
  V.calls_of_V ⟨V.assoc [], V.assoc []⟩ Try.func31 rfl (Eq.mp (by kernel_rfl) h)

theorem bitset_Not_nf (a_1 : Option Addr) (live_2 : Option Addr) (w : World) (R : Ending → World → Prop) (h :
  Calls Try.prog 28 #[(Value.pointer live_2)] w fun e4 w5 =>
  ∃ n3, e4 = Ending.returned (Value.int .i64 n3) ∧
  Calls Try.prog 61 #[(Value.int .i64 n3)] w5 fun e7 w8 =>
  ∃ p6, e7 = Ending.returned (Value.pointer p6) ∧
  V.ptr p6 fun a9 =>
  ∃ A10, ∃ A10l, ∃ A10c, World.cell? w8 (Addr.add a9 1) = some (Value.slice A10 A10l A10c) ∧
  ∃ I11 : Int → World → Prop, ∃ μ12 : Int → World → Nat, I11 0 w8 ∧
  ∀ t15_13 (j14 : Nat → Value) (w15 : World), I11 t15_13 w15 →
  (V.sel (decide (t15_13 < ((A10l : Nat) : Int)))
  (∃ S16 : World → Prop, S16 (World.drew w15) ∧
  V.ptr p6 fun a18 =>
  ∃ A19, ∃ A19l, ∃ A19c, (∀ w17, S16 w17 → World.cell? w17 (Addr.add a18 1) = some (Value.slice A19 A19l A19c)) ∧
  Calls Try.prog 59 #[(Value.pointer live_2), (Value.int .i64 t15_13)] (World.drew w15) fun e21 w22 =>
  ∃ n20, e21 = Ending.returned (Value.int .u64 n20) ∧
  S16 w22 ∧
  Calls Try.prog 59 #[(Value.pointer a_1), (Value.int .i64 t15_13)] w22 fun e24 w25 =>
  ∃ n23, e24 = Ending.returned (Value.int .u64 n23) ∧
  S16 w25 ∧
  V.when (decide ((0 : Int) ≤ t15_13 ∧ (t15_13 : Int) < ((A19l : Nat) : Int))) (V.ptr A19 fun a26 =>
  (∃ u27, World.cell? w25 (Addr.add (Addr.add a26 ((Int.toNat t15_13) * 1)) 0) = some u27) ∧ World.frozen? w25 (Addr.add (Addr.add a26 ((Int.toNat t15_13) * 1)) 0) = false ∧
  I11 (IntKind.wrap .i64 (t15_13 + 1)) (World.setCell w25 (Addr.add (Addr.add a26 ((Int.toNat t15_13) * 1)) 0) (Value.int .u64 (IntKind.wrap .u64 ((BitVec.toNat (BitVec.ofInt 64 n20 &&& ~~~(BitVec.ofInt 64 n23)) : Nat) : Int)))) ∧ μ12 (IntKind.wrap .i64 (t15_13 + 1)) (World.setCell w25 (Addr.add (Addr.add a26 ((Int.toNat t15_13) * 1)) 0) (Value.int .u64 (IntKind.wrap .u64 ((BitVec.toNat (BitVec.ofInt 64 n20 &&& ~~~(BitVec.ofInt 64 n23)) : Nat) : Int)))) < μ12 t15_13 w15))
  (R (Ending.returned (Value.pointer p6)) w15))) :
  Calls Try.prog 32 #[(Value.pointer a_1), (Value.pointer live_2)] w R :=
  V.calls_of_V ⟨V.assoc [(0, [15])], V.assoc [(5, [0, 1, 2, 3, 4, 5, 6, 8, 9, 7, 10, 11, 12, 13])]⟩ Try.func32 rfl (Eq.mp (by kernel_rfl) h)

theorem bitset_Or_nf (a_1 : Option Addr) (b_2 : Option Addr) (w : World) (R : Ending → World → Prop) (h :
  Calls Try.prog 62 #[(Value.pointer a_1), (Value.pointer b_2), (Value.func (.func 63) #[] #[])] w fun e4 w5 =>
  ∃ p3, e4 = Ending.returned (Value.pointer p3) ∧
  R (Ending.returned (Value.pointer p3)) w5) :
  Calls Try.prog 33 #[(Value.pointer a_1), (Value.pointer b_2)] w R :=
  V.calls_of_V ⟨V.assoc [], V.assoc []⟩ Try.func33 rfl (Eq.mp (by kernel_rfl) h)

theorem bitset_And_nf (a_1 : Option Addr) (b_2 : Option Addr) (w : World) (R : Ending → World → Prop) (h :
  Calls Try.prog 62 #[(Value.pointer a_1), (Value.pointer b_2), (Value.func (.func 64) #[] #[])] w fun e4 w5 =>
  ∃ p3, e4 = Ending.returned (Value.pointer p3) ∧
  R (Ending.returned (Value.pointer p3)) w5) :
  Calls Try.prog 34 #[(Value.pointer a_1), (Value.pointer b_2)] w R :=
  V.calls_of_V ⟨V.assoc [], V.assoc []⟩ Try.func34 rfl (Eq.mp (by kernel_rfl) h)

theorem bitset_Xor_nf (a_1 : Option Addr) (b_2 : Option Addr) (w : World) (R : Ending → World → Prop) (h :
  Calls Try.prog 62 #[(Value.pointer a_1), (Value.pointer b_2), (Value.func (.func 65) #[] #[])] w fun e4 w5 =>
  ∃ p3, e4 = Ending.returned (Value.pointer p3) ∧
  R (Ending.returned (Value.pointer p3)) w5) :
  Calls Try.prog 35 #[(Value.pointer a_1), (Value.pointer b_2)] w R :=
  V.calls_of_V ⟨V.assoc [], V.assoc []⟩ Try.func35 rfl (Eq.mp (by kernel_rfl) h)

theorem bitset_AndNot_nf (a_1 : Option Addr) (b_2 : Option Addr) (w : World) (R : Ending → World → Prop) (h :
  Calls Try.prog 62 #[(Value.pointer a_1), (Value.pointer b_2), (Value.func (.func 66) #[] #[])] w fun e4 w5 =>
  ∃ p3, e4 = Ending.returned (Value.pointer p3) ∧
  R (Ending.returned (Value.pointer p3)) w5) :
  Calls Try.prog 36 #[(Value.pointer a_1), (Value.pointer b_2)] w R :=
  V.calls_of_V ⟨V.assoc [], V.assoc []⟩ Try.func36 rfl (Eq.mp (by kernel_rfl) h)

theorem bitset_Meets_nf (a_1 : Option Addr) (b_2 : Option Addr) (w : World) (R : Ending → World → Prop) (h :
  Calls Try.prog 58 #[(Value.pointer a_1), (Value.pointer b_2)] w fun e4 w5 =>
  ∃ n3, e4 = Ending.returned (Value.int .i64 n3) ∧
  ∃ I6 : Int → World → Prop, ∃ μ7 : Int → World → Nat, I6 0 w5 ∧
  ∀ t9_8 (j9 : Nat → Value) (w10 : World), I6 t9_8 w10 →
  (V.sel (decide (t9_8 < n3))
  (Calls Try.prog 59 #[(Value.pointer a_1), (Value.int .i64 t9_8)] w10 fun e12 w13 =>
  ∃ n11, e12 = Ending.returned (Value.int .u64 n11) ∧
  Calls Try.prog 59 #[(Value.pointer b_2), (Value.int .i64 t9_8)] w13 fun e15 w16 =>
  ∃ n14, e15 = Ending.returned (Value.int .u64 n14) ∧
  V.sel ((IntKind.wrap .u64 ((BitVec.toNat (BitVec.ofInt 64 n11 &&& BitVec.ofInt 64 n14) : Nat) : Int)) != 0)
  (R (Ending.returned (Value.bool true)) w16)
  (I6 (IntKind.wrap .i64 (t9_8 + 1)) w16 ∧ μ7 (IntKind.wrap .i64 (t9_8 + 1)) w16 < μ7 t9_8 w10))
  (R (Ending.returned (Value.bool false)) w10))) :
  Calls Try.prog 37 #[(Value.pointer a_1), (Value.pointer b_2)] w R :=
  V.calls_of_V ⟨V.assoc [(0, [9])], V.assoc []⟩ Try.func37 rfl (Eq.mp (by kernel_rfl) h)

theorem bitset_Subset_nf (a_1 : Option Addr) (b_2 : Option Addr) (w : World) (R : Ending → World → Prop) (h :
  Calls Try.prog 58 #[(Value.pointer a_1), (Value.pointer b_2)] w fun e4 w5 =>
  ∃ n3, e4 = Ending.returned (Value.int .i64 n3) ∧
  ∃ I6 : Int → World → Prop, ∃ μ7 : Int → World → Nat, I6 0 w5 ∧
  ∀ t9_8 (j9 : Nat → Value) (w10 : World), I6 t9_8 w10 →
  (V.sel (decide (t9_8 < n3))
  (Calls Try.prog 59 #[(Value.pointer a_1), (Value.int .i64 t9_8)] w10 fun e12 w13 =>
  ∃ n11, e12 = Ending.returned (Value.int .u64 n11) ∧
  Calls Try.prog 59 #[(Value.pointer b_2), (Value.int .i64 t9_8)] w13 fun e15 w16 =>
  ∃ n14, e15 = Ending.returned (Value.int .u64 n14) ∧
  V.sel ((IntKind.wrap .u64 ((BitVec.toNat (BitVec.ofInt 64 n11 &&& ~~~(BitVec.ofInt 64 n14)) : Nat) : Int)) != 0)
  (R (Ending.returned (Value.bool false)) w16)
  (I6 (IntKind.wrap .i64 (t9_8 + 1)) w16 ∧ μ7 (IntKind.wrap .i64 (t9_8 + 1)) w16 < μ7 t9_8 w10))
  (R (Ending.returned (Value.bool true)) w10))) :
  Calls Try.prog 38 #[(Value.pointer a_1), (Value.pointer b_2)] w R :=
  V.calls_of_V ⟨V.assoc [(0, [9])], V.assoc []⟩ Try.func38 rfl (Eq.mp (by kernel_rfl) h)

theorem berthlaw01_counted_nf (x_1 : Int) (x_2 : Option Addr) (x_2l : Nat) (x_2c : Nat) (x_3 : Option Addr) (x_3l : Nat) (x_3c : Nat) (x_4 : Option Addr) (x_4l : Nat) (x_4c : Nat) (a_5 : Option Addr) (w : World) (R : Ending → World → Prop) (h :
  ∃ I6 : Int → Int → World → Prop, ∃ μ7 : Int → Int → World → Nat, I6 0 0 (World.alloc w (.cells #[(Value.int .i64 x_1), (Value.slice x_2 x_2l x_2c), (Value.slice x_3 x_3l x_3c), (Value.slice x_4 x_4l x_4c)] 27)) ∧
  ∀ n_8 i_9 (j10 : Nat → Value) (w11 : World), I6 n_8 i_9 w11 →
  (∃ A12, ∃ A12l, ∃ A12c, World.cell? w11 (Addr.add ⟨Array.size (World.heap w), 0, none⟩ 1) = some (Value.slice A12 A12l A12c) ∧
  V.sel (decide (i_9 < ((A12l : Nat) : Int)))
  (V.sel (decide (i_9 < 300))
  (∃ A13, ∃ A13l, ∃ A13c, World.cell? w11 (Addr.add ⟨Array.size (World.heap w), 0, none⟩ 1) = some (Value.slice A13 A13l A13c) ∧
  V.when (decide ((0 : Int) ≤ i_9 ∧ (i_9 : Int) < ((A13l : Nat) : Int))) (V.ptr A13 fun a14 =>
  ∃ n15, World.cell? w11 (Addr.add a14 ((Int.toNat i_9) * 1)) = some (Value.int .i64 n15) ∧
  V.sel (decide (n15 < 0))
  (∃ I16 : Bool → Int → World → Prop, ∃ μ17 : Bool → Int → World → Nat, I16 true 0 (World.drew w11) ∧
  ∀ seen_18 j_19 (j20 : Nat → Value) (w21 : World), I16 seen_18 j_19 w21 →
  (V.sel (decide (j_19 < i_9))
  (V.sel seen_18
  (I16 true (IntKind.wrap .i64 (j_19 + 1)) (World.drew w21) ∧ μ17 true (IntKind.wrap .i64 (j_19 + 1)) (World.drew w21) < μ17 seen_18 j_19 w21)
  (∃ A22, ∃ A22l, ∃ A22c, World.cell? w21 (Addr.add ⟨Array.size (World.heap w), 0, none⟩ 1) = some (Value.slice A22 A22l A22c) ∧
  V.when (decide ((0 : Int) ≤ j_19 ∧ (j_19 : Int) < ((A22l : Nat) : Int))) (V.ptr A22 fun a23 =>
  ∃ n24, World.cell? w21 (Addr.add a23 ((Int.toNat j_19) * 1)) = some (Value.int .i64 n24) ∧
  ∃ A25, ∃ A25l, ∃ A25c, World.cell? w21 (Addr.add ⟨Array.size (World.heap w), 0, none⟩ 1) = some (Value.slice A25 A25l A25c) ∧
  V.when (decide ((0 : Int) ≤ i_9 ∧ (i_9 : Int) < ((A25l : Nat) : Int))) (V.ptr A25 fun a26 =>
  ∃ n27, World.cell? w21 (Addr.add a26 ((Int.toNat i_9) * 1)) = some (Value.int .i64 n27) ∧
  I16 (n24 == n27) (IntKind.wrap .i64 (j_19 + 1)) (World.drew w21) ∧ μ17 (n24 == n27) (IntKind.wrap .i64 (j_19 + 1)) (World.drew w21) < μ17 seen_18 j_19 w21))))
  (V.sel (!seen_18)
  (∃ A28, ∃ A28l, ∃ A28c, World.cell? w21 (Addr.add ⟨Array.size (World.heap w), 0, none⟩ 1) = some (Value.slice A28 A28l A28c) ∧
  V.when (decide ((0 : Int) ≤ i_9 ∧ (i_9 : Int) < ((A28l : Nat) : Int))) (V.ptr A28 fun a29 =>
  ∃ n30, World.cell? w21 (Addr.add a29 ((Int.toNat i_9) * 1)) = some (Value.int .i64 n30) ∧
  Calls Try.prog 47 #[(Value.pointer a_5), (Value.int .i64 n30)] w21 fun e32 w33 =>
  ∃ b31, e32 = Ending.returned (Value.bool b31) ∧
  V.sel (!b31)
  (R (Ending.returned (Value.bool false)) w33)
  (I6 (IntKind.wrap .i64 (n_8 + 1)) (IntKind.wrap .i64 (i_9 + 1)) w33 ∧ μ7 (IntKind.wrap .i64 (n_8 + 1)) (IntKind.wrap .i64 (i_9 + 1)) w33 < μ7 n_8 i_9 w11)))
  (I6 n_8 (IntKind.wrap .i64 (i_9 + 1)) w21 ∧ μ7 n_8 (IntKind.wrap .i64 (i_9 + 1)) w21 < μ7 n_8 i_9 w11))))
  (∃ A34, ∃ A34l, ∃ A34c, World.cell? w11 (Addr.add ⟨Array.size (World.heap w), 0, none⟩ 1) = some (Value.slice A34 A34l A34c) ∧
  V.when (decide ((0 : Int) ≤ i_9 ∧ (i_9 : Int) < ((A34l : Nat) : Int))) (V.ptr A34 fun a35 =>
  ∃ n36, World.cell? w11 (Addr.add a35 ((Int.toNat i_9) * 1)) = some (Value.int .i64 n36) ∧
  ∃ n37, World.cell? w11 (Addr.add ⟨Array.size (World.heap w), 0, none⟩ 0) = some (Value.int .i64 n37) ∧
  ∃ I38 : Bool → Int → World → Prop, ∃ μ39 : Bool → Int → World → Nat, I38 (decide (n36 ≥ n37)) 0 (World.drew w11) ∧
  ∀ seen_40 j_41 (j42 : Nat → Value) (w43 : World), I38 seen_40 j_41 w43 →
  (V.sel (decide (j_41 < i_9))
  (V.sel seen_40
  (I38 true (IntKind.wrap .i64 (j_41 + 1)) (World.drew w43) ∧ μ39 true (IntKind.wrap .i64 (j_41 + 1)) (World.drew w43) < μ39 seen_40 j_41 w43)
  (∃ A44, ∃ A44l, ∃ A44c, World.cell? w43 (Addr.add ⟨Array.size (World.heap w), 0, none⟩ 1) = some (Value.slice A44 A44l A44c) ∧
  V.when (decide ((0 : Int) ≤ j_41 ∧ (j_41 : Int) < ((A44l : Nat) : Int))) (V.ptr A44 fun a45 =>
  ∃ n46, World.cell? w43 (Addr.add a45 ((Int.toNat j_41) * 1)) = some (Value.int .i64 n46) ∧
  ∃ A47, ∃ A47l, ∃ A47c, World.cell? w43 (Addr.add ⟨Array.size (World.heap w), 0, none⟩ 1) = some (Value.slice A47 A47l A47c) ∧
  V.when (decide ((0 : Int) ≤ i_9 ∧ (i_9 : Int) < ((A47l : Nat) : Int))) (V.ptr A47 fun a48 =>
  ∃ n49, World.cell? w43 (Addr.add a48 ((Int.toNat i_9) * 1)) = some (Value.int .i64 n49) ∧
  I38 (n46 == n49) (IntKind.wrap .i64 (j_41 + 1)) (World.drew w43) ∧ μ39 (n46 == n49) (IntKind.wrap .i64 (j_41 + 1)) (World.drew w43) < μ39 seen_40 j_41 w43))))
  (V.sel (!seen_40)
  (∃ A50, ∃ A50l, ∃ A50c, World.cell? w43 (Addr.add ⟨Array.size (World.heap w), 0, none⟩ 1) = some (Value.slice A50 A50l A50c) ∧
  V.when (decide ((0 : Int) ≤ i_9 ∧ (i_9 : Int) < ((A50l : Nat) : Int))) (V.ptr A50 fun a51 =>
  ∃ n52, World.cell? w43 (Addr.add a51 ((Int.toNat i_9) * 1)) = some (Value.int .i64 n52) ∧
  Calls Try.prog 47 #[(Value.pointer a_5), (Value.int .i64 n52)] w43 fun e54 w55 =>
  ∃ b53, e54 = Ending.returned (Value.bool b53) ∧
  V.sel (!b53)
  (R (Ending.returned (Value.bool false)) w55)
  (I6 (IntKind.wrap .i64 (n_8 + 1)) (IntKind.wrap .i64 (i_9 + 1)) w55 ∧ μ7 (IntKind.wrap .i64 (n_8 + 1)) (IntKind.wrap .i64 (i_9 + 1)) w55 < μ7 n_8 i_9 w11)))
  (I6 n_8 (IntKind.wrap .i64 (i_9 + 1)) w43 ∧ μ7 n_8 (IntKind.wrap .i64 (i_9 + 1)) w43 < μ7 n_8 i_9 w11)))))))
  (∃ A56, ∃ A56l, ∃ A56c, World.cell? w11 (Addr.add ⟨Array.size (World.heap w), 0, none⟩ 1) = some (Value.slice A56 A56l A56c) ∧
  V.sel (decide (((A56l : Nat) : Int) > 300))
  (R (Ending.returned (Value.bool true)) w11)
  (Calls Try.prog 29 #[(Value.pointer a_5)] w11 fun e58 w59 =>
  ∃ n57, e58 = Ending.returned (Value.int .i64 n57) ∧
  R (Ending.returned (Value.bool (n57 == n_8))) w59)))
  (∃ A60, ∃ A60l, ∃ A60c, World.cell? w11 (Addr.add ⟨Array.size (World.heap w), 0, none⟩ 1) = some (Value.slice A60 A60l A60c) ∧
  V.sel (decide (((A60l : Nat) : Int) > 300))
  (R (Ending.returned (Value.bool true)) w11)
  (Calls Try.prog 29 #[(Value.pointer a_5)] w11 fun e62 w63 =>
  ∃ n61, e62 = Ending.returned (Value.int .i64 n61) ∧
  R (Ending.returned (Value.bool (n61 == n_8))) w63)))) :
  Calls Try.prog 39 #[(Value.agg #[(Value.int .i64 x_1), (Value.slice x_2 x_2l x_2c), (Value.slice x_3 x_3l x_3c), (Value.slice x_4 x_4l x_4c)]), (Value.pointer a_5)] w R :=
  V.calls_of_V ⟨V.assoc [(0, [5, 6]), (1, [7, 8])], V.assoc [(5, [0, 1, 2, 3, 4, 5, 6, 7, 8, 9, 10, 11, 12, 13, 14, 15, 16]), (9, [0, 1, 2, 3, 4, 5, 6, 7, 8, 9, 10, 11, 12, 13, 14])]⟩ Try.func39 rfl (Eq.mp (by kernel_rfl) h)

theorem bitset_Set_All_nf (s_1 : Option Addr) (w : World) (R : Ending → World → Prop) (h :
  Calls Try.prog 21 #[(Value.pointer s_1)] w fun e3 w4 =>
  ∃ A2, ∃ A2l, ∃ A2c, e3 = Ending.returned (Value.slice A2 A2l A2c) ∧
  (∃ u5, World.cell? (World.alloc w4 (.cells #[(Value.slice none 0 0)] 25)) (Addr.add ⟨Array.size (World.heap w4), 0, none⟩ 0) = some u5) ∧ World.frozen? (World.alloc w4 (.cells #[(Value.slice none 0 0)] 25)) (Addr.add ⟨Array.size (World.heap w4), 0, none⟩ 0) = false ∧
  R (Ending.returned (Value.func (.func 67) #[] #[(Value.pointer (some ⟨Array.size (World.heap w4), 0, none⟩))])) (World.setCell (World.alloc w4 (.cells #[(Value.slice none 0 0)] 25)) (Addr.add ⟨Array.size (World.heap w4), 0, none⟩ 0) (Value.slice A2 A2l A2c))) :
  Calls Try.prog 40 #[(Value.pointer s_1)] w R :=
  V.calls_of_V ⟨V.assoc [], V.assoc []⟩ Try.func40 rfl (Eq.mp (by kernel_rfl) h)

theorem bitset_Set_Add_nf (s_1 : Option Addr) (i_2 : Int) (w : World) (R : Ending → World → Prop) (h :
  Calls Try.prog 68 #[(Value.pointer s_1), (Value.int .i64 i_2)] w fun e4 w5 =>
  ∃ b3, e4 = Ending.returned (Value.bool b3) ∧
  V.sel (!b3)
  (R (Ending.returned (Value.bool false)) w5)
  (Calls Try.prog 47 #[(Value.pointer s_1), (Value.int .i64 i_2)] w5 fun e7 w8 =>
  ∃ b6, e7 = Ending.returned (Value.bool b6) ∧
  V.sel b6
  (R (Ending.returned (Value.bool false)) w8)
  (V.ptr s_1 fun a9 =>
  ∃ A10, ∃ A10l, ∃ A10c, World.cell? w8 (Addr.add a9 1) = some (Value.slice A10 A10l A10c) ∧
  V.when (decide ((0 : Int) ≤ (IntKind.wrap .i64 (Int.tdiv i_2 64)) ∧ ((IntKind.wrap .i64 (Int.tdiv i_2 64)) : Int) < ((A10l : Nat) : Int))) (V.ptr A10 fun a11 =>
  ∃ n12, World.cell? w8 (Addr.add a11 ((Int.toNat (IntKind.wrap .i64 (Int.tdiv i_2 64))) * 1)) = some (Value.int .u64 n12) ∧
  V.when (decide (0 ≤ (Int.tmod i_2 64))) (V.when (decide ((0 : Int) ≤ (IntKind.wrap .i64 (Int.tdiv i_2 64)) ∧ ((IntKind.wrap .i64 (Int.tdiv i_2 64)) : Int) < ((A10l : Nat) : Int))) (V.ptr A10 fun a13 =>
  (∃ u14, World.cell? (World.drew w8) (Addr.add (Addr.add a13 ((Int.toNat (IntKind.wrap .i64 (Int.tdiv i_2 64))) * 1)) 0) = some u14) ∧ World.frozen? (World.drew w8) (Addr.add (Addr.add a13 ((Int.toNat (IntKind.wrap .i64 (Int.tdiv i_2 64))) * 1)) 0) = false ∧
  R (Ending.returned (Value.bool true)) (World.setCell (World.drew w8) (Addr.add (Addr.add a13 ((Int.toNat (IntKind.wrap .i64 (Int.tdiv i_2 64))) * 1)) 0) (Value.int .u64 (IntKind.wrap .u64 ((BitVec.toNat (BitVec.ofInt 64 n12 ||| BitVec.ofInt 64 (IntKind.wrap .u64 (1 * 2 ^ (min (Int.toNat (Int.tmod i_2 64)) 64)))) : Nat) : Int)))))))))) :
  Calls Try.prog 41 #[(Value.pointer s_1), (Value.int .i64 i_2)] w R :=
  V.calls_of_V ⟨V.assoc [], V.assoc [(3, [0, 1, 2, 3, 4, 5, 6, 7, 8, 9, 10, 11, 12, 13])]⟩ Try.func41 rfl (Eq.mp (by kernel_rfl) h)

theorem bitset_Set_Remove_nf (s_1 : Option Addr) (i_2 : Int) (w : World) (R : Ending → World → Prop) (h :
  Calls Try.prog 47 #[(Value.pointer s_1), (Value.int .i64 i_2)] w fun e4 w5 =>
  ∃ b3, e4 = Ending.returned (Value.bool b3) ∧
  V.sel (!b3)
  (R (Ending.returned (Value.bool false)) w5)
  (V.ptr s_1 fun a6 =>
  ∃ A7, ∃ A7l, ∃ A7c, World.cell? w5 (Addr.add a6 1) = some (Value.slice A7 A7l A7c) ∧
  V.when (decide ((0 : Int) ≤ (IntKind.wrap .i64 (Int.tdiv i_2 64)) ∧ ((IntKind.wrap .i64 (Int.tdiv i_2 64)) : Int) < ((A7l : Nat) : Int))) (V.ptr A7 fun a8 =>
  ∃ n9, World.cell? w5 (Addr.add a8 ((Int.toNat (IntKind.wrap .i64 (Int.tdiv i_2 64))) * 1)) = some (Value.int .u64 n9) ∧
  V.when (decide (0 ≤ (Int.tmod i_2 64))) (V.when (decide ((0 : Int) ≤ (IntKind.wrap .i64 (Int.tdiv i_2 64)) ∧ ((IntKind.wrap .i64 (Int.tdiv i_2 64)) : Int) < ((A7l : Nat) : Int))) (V.ptr A7 fun a10 =>
  (∃ u11, World.cell? (World.drew w5) (Addr.add (Addr.add a10 ((Int.toNat (IntKind.wrap .i64 (Int.tdiv i_2 64))) * 1)) 0) = some u11) ∧ World.frozen? (World.drew w5) (Addr.add (Addr.add a10 ((Int.toNat (IntKind.wrap .i64 (Int.tdiv i_2 64))) * 1)) 0) = false ∧
  R (Ending.returned (Value.bool true)) (World.setCell (World.drew w5) (Addr.add (Addr.add a10 ((Int.toNat (IntKind.wrap .i64 (Int.tdiv i_2 64))) * 1)) 0) (Value.int .u64 (IntKind.wrap .u64 ((BitVec.toNat (BitVec.ofInt 64 n9 &&& ~~~(BitVec.ofInt 64 (IntKind.wrap .u64 (1 * 2 ^ (min (Int.toNat (Int.tmod i_2 64)) 64))))) : Nat) : Int))))))))) :
  Calls Try.prog 42 #[(Value.pointer s_1), (Value.int .i64 i_2)] w R :=
  V.calls_of_V ⟨V.assoc [], V.assoc [(3, [0, 1, 2, 3, 4, 5, 6, 7, 8, 9, 10, 11, 12, 13])]⟩ Try.func42 rfl (Eq.mp (by kernel_rfl) h)

theorem bitset_Set_AndNotWith_nf (s_1 : Option Addr) (t_2 : Option Addr) (w : World) (R : Ending → World → Prop) (h :
  V.sel (Option.isNone s_1)
  (R (Ending.returned undef) w)
  (V.ptr s_1 fun a3 =>
  ∃ A4, ∃ A4l, ∃ A4c, World.cell? w (Addr.add a3 1) = some (Value.slice A4 A4l A4c) ∧
  ∃ I5 : Int → World → Prop, ∃ μ6 : Int → World → Nat, I5 0 w ∧
  ∀ t12_7 (j8 : Nat → Value) (w9 : World), I5 t12_7 w9 →
  (V.sel (decide (t12_7 < ((A4l : Nat) : Int)))
  (∃ S10 : World → Prop, S10 (World.drew w9) ∧
  V.ptr s_1 fun a12 =>
  ∃ A13, ∃ A13l, ∃ A13c, (∀ w11, S10 w11 → World.cell? w11 (Addr.add a12 1) = some (Value.slice A13 A13l A13c)) ∧
  V.when (decide ((0 : Int) ≤ t12_7 ∧ (t12_7 : Int) < ((A13l : Nat) : Int))) (V.ptr A13 fun a14 =>
  ∃ n15, (∀ w11, S10 w11 → World.cell? w11 (Addr.add a14 ((Int.toNat t12_7) * 1)) = some (Value.int .u64 n15)) ∧
  Calls Try.prog 59 #[(Value.pointer t_2), (Value.int .i64 t12_7)] (World.drew w9) fun e17 w18 =>
  ∃ n16, e17 = Ending.returned (Value.int .u64 n16) ∧
  S10 w18 ∧
  V.when (decide ((0 : Int) ≤ t12_7 ∧ (t12_7 : Int) < ((A13l : Nat) : Int))) (V.ptr A13 fun a19 =>
  (∃ u20, World.cell? w18 (Addr.add (Addr.add a19 ((Int.toNat t12_7) * 1)) 0) = some u20) ∧ World.frozen? w18 (Addr.add (Addr.add a19 ((Int.toNat t12_7) * 1)) 0) = false ∧
  I5 (IntKind.wrap .i64 (t12_7 + 1)) (World.setCell w18 (Addr.add (Addr.add a19 ((Int.toNat t12_7) * 1)) 0) (Value.int .u64 (IntKind.wrap .u64 ((BitVec.toNat (BitVec.ofInt 64 n15 &&& ~~~(BitVec.ofInt 64 n16)) : Nat) : Int)))) ∧ μ6 (IntKind.wrap .i64 (t12_7 + 1)) (World.setCell w18 (Addr.add (Addr.add a19 ((Int.toNat t12_7) * 1)) 0) (Value.int .u64 (IntKind.wrap .u64 ((BitVec.toNat (BitVec.ofInt 64 n15 &&& ~~~(BitVec.ofInt 64 n16)) : Nat) : Int)))) < μ6 t12_7 w9)))
  (R (Ending.returned undef) w9)))) :
  Calls Try.prog 43 #[(Value.pointer s_1), (Value.pointer t_2)] w R :=
  V.calls_of_V ⟨V.assoc [(0, [12])], V.assoc [(4, [0, 1, 2, 3, 4, 5, 6, 7, 8, 9, 10, 11, 12])]⟩ Try.func43 rfl (Eq.mp (by kernel_rfl) h)

theorem bitset_Set_Clone_nf (s_1 : Option Addr) (w : World) (R : Ending → World → Prop) (h :
  Calls Try.prog 28 #[(Value.pointer s_1)] w fun e3 w4 =>
  ∃ n2, e3 = Ending.returned (Value.int .i64 n2) ∧
  Calls Try.prog 61 #[(Value.int .i64 n2)] w4 fun e6 w7 =>
  ∃ p5, e6 = Ending.returned (Value.pointer p5) ∧
  V.ptr p5 fun a8 =>
  ∃ A9, ∃ A9l, ∃ A9c, World.cell? w7 (Addr.add a8 1) = some (Value.slice A9 A9l A9c) ∧
  ∃ I10 : Int → World → Prop, ∃ μ11 : Int → World → Nat, I10 0 w7 ∧
  ∀ t13_12 (j13 : Nat → Value) (w14 : World), I10 t13_12 w14 →
  (V.sel (decide (t13_12 < ((A9l : Nat) : Int)))
  (V.ptr p5 fun a15 =>
  ∃ A16, ∃ A16l, ∃ A16c, World.cell? w14 (Addr.add a15 1) = some (Value.slice A16 A16l A16c) ∧
  V.ptr s_1 fun a17 =>
  ∃ A18, ∃ A18l, ∃ A18c, World.cell? w14 (Addr.add a17 1) = some (Value.slice A18 A18l A18c) ∧
  V.when (decide ((0 : Int) ≤ t13_12 ∧ (t13_12 : Int) < ((A18l : Nat) : Int))) (V.ptr A18 fun a19 =>
  ∃ n20, World.cell? w14 (Addr.add a19 ((Int.toNat t13_12) * 1)) = some (Value.int .u64 n20) ∧
  V.when (decide ((0 : Int) ≤ t13_12 ∧ (t13_12 : Int) < ((A16l : Nat) : Int))) (V.ptr A16 fun a21 =>
  (∃ u22, World.cell? (World.drew w14) (Addr.add (Addr.add a21 ((Int.toNat t13_12) * 1)) 0) = some u22) ∧ World.frozen? (World.drew w14) (Addr.add (Addr.add a21 ((Int.toNat t13_12) * 1)) 0) = false ∧
  I10 (IntKind.wrap .i64 (t13_12 + 1)) (World.setCell (World.drew w14) (Addr.add (Addr.add a21 ((Int.toNat t13_12) * 1)) 0) (Value.int .u64 n20)) ∧ μ11 (IntKind.wrap .i64 (t13_12 + 1)) (World.setCell (World.drew w14) (Addr.add (Addr.add a21 ((Int.toNat t13_12) * 1)) 0) (Value.int .u64 n20)) < μ11 t13_12 w14)))
  (R (Ending.returned (Value.pointer p5)) w14))) :
  Calls Try.prog 44 #[(Value.pointer s_1)] w R :=
  V.calls_of_V ⟨V.assoc [(0, [13])], V.assoc [(5, [0, 1, 2, 3, 4, 5, 6, 7, 8, 9, 10, 11, 12, 13])]⟩ Try.func44 rfl (Eq.mp (by kernel_rfl) h)

theorem bitset_Set_Grow_nf (s_1 : Option Addr) (n_2 : Int) (w : World) (R : Ending → World → Prop) (h :
  V.sel (Option.isNone s_1)
  (R (Ending.returned (Value.int .i64 1)) w)
  (V.sel (decide (n_2 < 0))
  (R (Ending.returned (Value.int .i64 11)) w)
  (V.sel (decide (n_2 > 65536))
  (R (Ending.returned (Value.int .i64 11)) w)
  (V.ptr s_1 fun a3 =>
  ∃ n4, World.cell? w (Addr.add a3 0) = some (Value.int .i64 n4) ∧
  V.sel (decide (n_2 < n4))
  (R (Ending.returned (Value.int .i64 13)) w)
  (Calls Try.prog 69 #[(Value.int .i64 n_2)] w fun e6 w7 =>
  ∃ n5, e6 = Ending.returned (Value.int .i64 n5) ∧
  V.when (decide ((0 : Int) ≤ n5 ∧ (n5 : Int) ≤ n5 ∧ (n5 : Int) ≤ 281474976710656 ∧ (8 : Int) * n5 ≤ 281474976710656)) (V.ptr s_1 fun a8 =>
  ∃ A9, ∃ A9l, ∃ A9c, World.cell? (World.alloc w7 (.cells ⟨V.rep (Int.toNat n5) [(Value.int .u64 0)]⟩ 51)) (Addr.add a8 1) = some (Value.slice A9 A9l A9c) ∧
  ∃ n10, ∃ w11, Sem.run Try.prog (Builtin.copy_ #[46, 46] 3 #[(Value.slice (some ⟨Array.size (World.heap w7), 0, none⟩) (Int.toNat n5) (Int.toNat n5)), (Value.slice A9 A9l A9c)]) (World.alloc w7 (.cells ⟨V.rep (Int.toNat n5) [(Value.int .u64 0)]⟩ 51)) = .ok (Value.int .i64 n10) w11 ∧
  V.ptr s_1 fun a12 =>
  (∃ u13, World.cell? w11 (Addr.add (Addr.add a12 1) 0) = some u13) ∧ World.frozen? w11 (Addr.add (Addr.add a12 1) 0) = false ∧
  V.ptr s_1 fun a14 =>
  (∃ u15, World.cell? (World.setCell w11 (Addr.add (Addr.add a12 1) 0) (Value.slice (some ⟨Array.size (World.heap w7), 0, none⟩) (Int.toNat n5) (Int.toNat n5))) (Addr.add (Addr.add a14 0) 0) = some u15) ∧ World.frozen? (World.setCell w11 (Addr.add (Addr.add a12 1) 0) (Value.slice (some ⟨Array.size (World.heap w7), 0, none⟩) (Int.toNat n5) (Int.toNat n5))) (Addr.add (Addr.add a14 0) 0) = false ∧
  R (Ending.returned (Value.int .i64 0)) (World.setCell (World.setCell w11 (Addr.add (Addr.add a12 1) 0) (Value.slice (some ⟨Array.size (World.heap w7), 0, none⟩) (Int.toNat n5) (Int.toNat n5))) (Addr.add (Addr.add a14 0) 0) (Value.int .i64 n_2)))))))) :
  Calls Try.prog 45 #[(Value.pointer s_1), (Value.int .i64 n_2)] w R :=
  V.calls_of_V ⟨V.assoc [], V.assoc []⟩ Try.func45 rfl (Eq.mp (by kernel_rfl) h)

theorem bitset_Set_Has_nf (s_1 : Option Addr) (i_2 : Int) (w : World) (R : Ending → World → Prop) (h :
  Calls Try.prog 68 #[(Value.pointer s_1), (Value.int .i64 i_2)] w fun e4 w5 =>
  ∃ b3, e4 = Ending.returned (Value.bool b3) ∧
  V.sel b3
  (V.ptr s_1 fun a6 =>
  ∃ A7, ∃ A7l, ∃ A7c, World.cell? w5 (Addr.add a6 1) = some (Value.slice A7 A7l A7c) ∧
  V.when (decide ((0 : Int) ≤ (IntKind.wrap .i64 (Int.tdiv i_2 64)) ∧ ((IntKind.wrap .i64 (Int.tdiv i_2 64)) : Int) < ((A7l : Nat) : Int))) (V.ptr A7 fun a8 =>
  ∃ n9, World.cell? w5 (Addr.add a8 ((Int.toNat (IntKind.wrap .i64 (Int.tdiv i_2 64))) * 1)) = some (Value.int .u64 n9) ∧
  V.when (decide (0 ≤ (Int.tmod i_2 64))) (R (Ending.returned (Value.bool ((IntKind.wrap .u64 ((BitVec.toNat (BitVec.ofInt 64 (Int.fdiv n9 (2 ^ (min (Int.toNat (Int.tmod i_2 64)) 64))) &&& BitVec.ofInt 64 1) : Nat) : Int)) == 1))) w5)))
  (R (Ending.returned (Value.bool false)) w5)) :
  Calls Try.prog 47 #[(Value.pointer s_1), (Value.int .i64 i_2)] w R :=
  V.calls_of_V ⟨V.assoc [], V.assoc []⟩ Try.func47 rfl (Eq.mp (by kernel_rfl) h)

theorem berthlaw01_fresh_nf (kind_1 : Int) (a_2 : Option Addr) (b_3 : Option Addr) (i_4 : Int) (w : World) (R : Ending → World → Prop) (h :
  Calls Try.prog 70 #[(Value.int .i64 kind_1), (Value.pointer a_2), (Value.pointer b_3)] w fun e6 w7 =>
  ∃ p5, e6 = Ending.returned (Value.pointer p5) ∧
  Calls Try.prog 70 #[(Value.int .i64 kind_1), (Value.pointer a_2), (Value.pointer b_3)] w7 fun e9 w10 =>
  ∃ p8, e9 = Ending.returned (Value.pointer p8) ∧
  V.sel (Option.isNone p5)
  (R (Ending.returned (Value.bool false)) w10)
  (V.sel (Option.isNone p8)
  (R (Ending.returned (Value.bool false)) w10)
  (Calls Try.prog 27 #[(Value.pointer p5), (Value.pointer p8)] w10 fun e12 w13 =>
  ∃ b11, e12 = Ending.returned (Value.bool b11) ∧
  V.sel (!b11)
  (R (Ending.returned (Value.bool false)) w13)
  (Calls Try.prog 28 #[(Value.pointer p5)] w13 fun e15 w16 =>
  ∃ n14, e15 = Ending.returned (Value.int .i64 n14) ∧
  Calls Try.prog 28 #[(Value.pointer p8)] w16 fun e18 w19 =>
  ∃ n17, e18 = Ending.returned (Value.int .i64 n17) ∧
  V.sel (n14 != n17)
  (R (Ending.returned (Value.bool false)) w19)
  (Calls Try.prog 21 #[(Value.pointer a_2)] w19 fun e21 w22 =>
  ∃ A20, ∃ A20l, ∃ A20c, e21 = Ending.returned (Value.slice A20 A20l A20c) ∧
  Calls Try.prog 21 #[(Value.pointer b_3)] w22 fun e24 w25 =>
  ∃ A23, ∃ A23l, ∃ A23c, e24 = Ending.returned (Value.slice A23 A23l A23c) ∧
  Calls Try.prog 21 #[(Value.pointer p5)] w25 fun e27 w28 =>
  ∃ A26, ∃ A26l, ∃ A26c, e27 = Ending.returned (Value.slice A26 A26l A26c) ∧
  Calls Try.prog 71 #[(Value.pointer p5), (Value.int .i64 i_4)] w28 fun e29 w30 =>
  e29 = Ending.returned undef ∧
  Calls Try.prog 21 #[(Value.pointer a_2)] w30 fun e32 w33 =>
  ∃ A31, ∃ A31l, ∃ A31c, e32 = Ending.returned (Value.slice A31 A31l A31c) ∧
  Calls Try.prog 18 #[(Value.slice A31 A31l A31c), (Value.slice A20 A20l A20c)] w33 fun e35 w36 =>
  ∃ b34, e35 = Ending.returned (Value.bool b34) ∧
  V.sel (!b34)
  (R (Ending.returned (Value.bool false)) w36)
  (Calls Try.prog 21 #[(Value.pointer b_3)] w36 fun e38 w39 =>
  ∃ A37, ∃ A37l, ∃ A37c, e38 = Ending.returned (Value.slice A37 A37l A37c) ∧
  Calls Try.prog 18 #[(Value.slice A37 A37l A37c), (Value.slice A23 A23l A23c)] w39 fun e41 w42 =>
  ∃ b40, e41 = Ending.returned (Value.bool b40) ∧
  V.sel (!b40)
  (R (Ending.returned (Value.bool false)) w42)
  (Calls Try.prog 21 #[(Value.pointer p8)] w42 fun e44 w45 =>
  ∃ A43, ∃ A43l, ∃ A43c, e44 = Ending.returned (Value.slice A43 A43l A43c) ∧
  Calls Try.prog 18 #[(Value.slice A43 A43l A43c), (Value.slice A26 A26l A26c)] w45 fun e47 w48 =>
  ∃ b46, e47 = Ending.returned (Value.bool b46) ∧
  V.sel (!b46)
  (R (Ending.returned (Value.bool false)) w48)
  (Calls Try.prog 71 #[(Value.pointer p5), (Value.int .i64 i_4)] w48 fun e49 w50 =>
  e49 = Ending.returned undef ∧
  Calls Try.prog 71 #[(Value.pointer a_2), (Value.int .i64 i_4)] w50 fun e51 w52 =>
  e51 = Ending.returned undef ∧
  Calls Try.prog 21 #[(Value.pointer p5)] w52 fun e54 w55 =>
  ∃ A53, ∃ A53l, ∃ A53c, e54 = Ending.returned (Value.slice A53 A53l A53c) ∧
  Calls Try.prog 18 #[(Value.slice A53 A53l A53c), (Value.slice A26 A26l A26c)] w55 fun e57 w58 =>
  ∃ b56, e57 = Ending.returned (Value.bool b56) ∧
  V.sel (!b56)
  (R (Ending.returned (Value.bool false)) w58)
  (Calls Try.prog 21 #[(Value.pointer p8)] w58 fun e60 w61 =>
  ∃ A59, ∃ A59l, ∃ A59c, e60 = Ending.returned (Value.slice A59 A59l A59c) ∧
  Calls Try.prog 18 #[(Value.slice A59 A59l A59c), (Value.slice A26 A26l A26c)] w61 fun e63 w64 =>
  ∃ b62, e63 = Ending.returned (Value.bool b62) ∧
  V.sel (!b62)
  (R (Ending.returned (Value.bool false)) w64)
  (Calls Try.prog 71 #[(Value.pointer a_2), (Value.int .i64 i_4)] w64 fun e65 w66 =>
  e65 = Ending.returned undef ∧
  Calls Try.prog 71 #[(Value.pointer b_3), (Value.int .i64 i_4)] w66 fun e67 w68 =>
  e67 = Ending.returned undef ∧
  Calls Try.prog 21 #[(Value.pointer p5)] w68 fun e70 w71 =>
  ∃ A69, ∃ A69l, ∃ A69c, e70 = Ending.returned (Value.slice A69 A69l A69c) ∧
  Calls Try.prog 18 #[(Value.slice A69 A69l A69c), (Value.slice A26 A26l A26c)] w71 fun e73 w74 =>
  ∃ b72, e73 = Ending.returned (Value.bool b72) ∧
  V.sel (!b72)
  (R (Ending.returned (Value.bool false)) w74)
  (Calls Try.prog 21 #[(Value.pointer p8)] w74 fun e76 w77 =>
  ∃ A75, ∃ A75l, ∃ A75c, e76 = Ending.returned (Value.slice A75 A75l A75c) ∧
  Calls Try.prog 18 #[(Value.slice A75 A75l A75c), (Value.slice A26 A26l A26c)] w77 fun e79 w80 =>
  ∃ b78, e79 = Ending.returned (Value.bool b78) ∧
  V.sel (!b78)
  (R (Ending.returned (Value.bool false)) w80)
  (Calls Try.prog 71 #[(Value.pointer b_3), (Value.int .i64 i_4)] w80 fun e81 w82 =>
  e81 = Ending.returned undef ∧
  Calls Try.prog 49 #[(Value.pointer p5), (Value.pointer a_2)] w82 fun e83 w84 =>
  e83 = Ending.returned undef ∧
  Calls Try.prog 49 #[(Value.pointer p5), (Value.pointer b_3)] w84 fun e85 w86 =>
  e85 = Ending.returned undef ∧
  Calls Try.prog 43 #[(Value.pointer p8), (Value.pointer p8)] w86 fun e87 w88 =>
  e87 = Ending.returned undef ∧
  Calls Try.prog 21 #[(Value.pointer a_2)] w88 fun e90 w91 =>
  ∃ A89, ∃ A89l, ∃ A89c, e90 = Ending.returned (Value.slice A89 A89l A89c) ∧
  Calls Try.prog 18 #[(Value.slice A89 A89l A89c), (Value.slice A20 A20l A20c)] w91 fun e93 w94 =>
  ∃ b92, e93 = Ending.returned (Value.bool b92) ∧
  V.sel b92
  (Calls Try.prog 21 #[(Value.pointer b_3)] w94 fun e96 w97 =>
  ∃ A95, ∃ A95l, ∃ A95c, e96 = Ending.returned (Value.slice A95 A95l A95c) ∧
  Calls Try.prog 18 #[(Value.slice A95 A95l A95c), (Value.slice A23 A23l A23c)] w97 fun e99 w100 =>
  ∃ b98, e99 = Ending.returned (Value.bool b98) ∧
  R (Ending.returned (Value.bool b98)) w100)
  (R (Ending.returned (Value.bool false)) w94))))))))))))) :
  Calls Try.prog 48 #[(Value.int .i64 kind_1), (Value.pointer a_2), (Value.pointer b_3), (Value.int .i64 i_4)] w R :=
  V.calls_of_V ⟨V.assoc [], V.assoc []⟩ Try.func48 rfl (Eq.mp (by kernel_rfl) h)

theorem bitset_Set_OrWith_nf (s_1 : Option Addr) (t_2 : Option Addr) (w : World) (R : Ending → World → Prop) (h :
  V.sel (Option.isNone s_1)
  (R (Ending.returned undef) w)
  (V.ptr s_1 fun a3 =>
  ∃ A4, ∃ A4l, ∃ A4c, World.cell? w (Addr.add a3 1) = some (Value.slice A4 A4l A4c) ∧
  ∃ I5 : Int → World → Prop, ∃ μ6 : Int → World → Nat, I5 0 w ∧
  ∀ t13_7 (j8 : Nat → Value) (w9 : World), I5 t13_7 w9 →
  (V.sel (decide (t13_7 < ((A4l : Nat) : Int)))
  (∃ S10 : World → Prop, S10 (World.drew w9) ∧
  V.ptr s_1 fun a12 =>
  ∃ A13, ∃ A13l, ∃ A13c, (∀ w11, S10 w11 → World.cell? w11 (Addr.add a12 1) = some (Value.slice A13 A13l A13c)) ∧
  V.when (decide ((0 : Int) ≤ t13_7 ∧ (t13_7 : Int) < ((A13l : Nat) : Int))) (V.ptr A13 fun a14 =>
  ∃ n15, (∀ w11, S10 w11 → World.cell? w11 (Addr.add a14 ((Int.toNat t13_7) * 1)) = some (Value.int .u64 n15)) ∧
  Calls Try.prog 59 #[(Value.pointer t_2), (Value.int .i64 t13_7)] (World.drew w9) fun e17 w18 =>
  ∃ n16, e17 = Ending.returned (Value.int .u64 n16) ∧
  S10 w18 ∧
  V.when (decide ((0 : Int) ≤ t13_7 ∧ (t13_7 : Int) < ((A13l : Nat) : Int))) (V.ptr A13 fun a19 =>
  (∃ u20, World.cell? w18 (Addr.add (Addr.add a19 ((Int.toNat t13_7) * 1)) 0) = some u20) ∧ World.frozen? w18 (Addr.add (Addr.add a19 ((Int.toNat t13_7) * 1)) 0) = false ∧
  I5 (IntKind.wrap .i64 (t13_7 + 1)) (World.setCell w18 (Addr.add (Addr.add a19 ((Int.toNat t13_7) * 1)) 0) (Value.int .u64 (IntKind.wrap .u64 ((BitVec.toNat (BitVec.ofInt 64 n15 ||| BitVec.ofInt 64 n16) : Nat) : Int)))) ∧ μ6 (IntKind.wrap .i64 (t13_7 + 1)) (World.setCell w18 (Addr.add (Addr.add a19 ((Int.toNat t13_7) * 1)) 0) (Value.int .u64 (IntKind.wrap .u64 ((BitVec.toNat (BitVec.ofInt 64 n15 ||| BitVec.ofInt 64 n16) : Nat) : Int)))) < μ6 t13_7 w9)))
  (V.ptr s_1 fun a21 =>
  ∃ n22, World.cell? w9 (Addr.add a21 0) = some (Value.int .i64 n22) ∧
  V.sel ((Int.tmod n22 64) != 0)
  (V.ptr s_1 fun a23 =>
  ∃ A24, ∃ A24l, ∃ A24c, World.cell? w9 (Addr.add a23 1) = some (Value.slice A24 A24l A24c) ∧
  V.ptr s_1 fun a25 =>
  ∃ A26, ∃ A26l, ∃ A26c, World.cell? w9 (Addr.add a25 1) = some (Value.slice A26 A26l A26c) ∧
  V.when (decide ((0 : Int) ≤ (IntKind.wrap .i64 (((A26l : Nat) : Int) - 1)) ∧ ((IntKind.wrap .i64 (((A26l : Nat) : Int) - 1)) : Int) < ((A24l : Nat) : Int))) (V.ptr A24 fun a27 =>
  ∃ n28, World.cell? w9 (Addr.add a27 ((Int.toNat (IntKind.wrap .i64 (((A26l : Nat) : Int) - 1))) * 1)) = some (Value.int .u64 n28) ∧
  V.when (decide (0 ≤ (Int.tmod n22 64))) (V.when (decide ((0 : Int) ≤ (IntKind.wrap .i64 (((A26l : Nat) : Int) - 1)) ∧ ((IntKind.wrap .i64 (((A26l : Nat) : Int) - 1)) : Int) < ((A24l : Nat) : Int))) (V.ptr A24 fun a29 =>
  (∃ u30, World.cell? (World.drew w9) (Addr.add (Addr.add a29 ((Int.toNat (IntKind.wrap .i64 (((A26l : Nat) : Int) - 1))) * 1)) 0) = some u30) ∧ World.frozen? (World.drew w9) (Addr.add (Addr.add a29 ((Int.toNat (IntKind.wrap .i64 (((A26l : Nat) : Int) - 1))) * 1)) 0) = false ∧
  R (Ending.returned undef) (World.setCell (World.drew w9) (Addr.add (Addr.add a29 ((Int.toNat (IntKind.wrap .i64 (((A26l : Nat) : Int) - 1))) * 1)) 0) (Value.int .u64 (IntKind.wrap .u64 ((BitVec.toNat (BitVec.ofInt 64 n28 &&& BitVec.ofInt 64 (IntKind.wrap .u64 ((IntKind.wrap .u64 (1 * 2 ^ (min (Int.toNat (Int.tmod n22 64)) 64))) - 1))) : Nat) : Int))))))))
  (R (Ending.returned undef) w9))))) :
  Calls Try.prog 49 #[(Value.pointer s_1), (Value.pointer t_2)] w R :=
  V.calls_of_V ⟨V.assoc [(0, [13])], V.assoc [(4, [0, 1, 2, 3, 4, 5, 6, 7, 8, 9, 10, 11, 12]), (8, [0, 1, 2, 3, 4, 5, 6, 7, 8, 9, 10, 11, 12, 13, 14, 15, 16, 17])]⟩ Try.func49 rfl (Eq.mp (by kernel_rfl) h)

theorem bitset_Set_AndWith_nf (s_1 : Option Addr) (t_2 : Option Addr) (w : World) (R : Ending → World → Prop) (h :
  V.sel (Option.isNone s_1)
  (R (Ending.returned undef) w)
  (V.ptr s_1 fun a3 =>
  ∃ A4, ∃ A4l, ∃ A4c, World.cell? w (Addr.add a3 1) = some (Value.slice A4 A4l A4c) ∧
  ∃ I5 : Int → World → Prop, ∃ μ6 : Int → World → Nat, I5 0 w ∧
  ∀ t12_7 (j8 : Nat → Value) (w9 : World), I5 t12_7 w9 →
  (V.sel (decide (t12_7 < ((A4l : Nat) : Int)))
  (∃ S10 : World → Prop, S10 (World.drew w9) ∧
  V.ptr s_1 fun a12 =>
  ∃ A13, ∃ A13l, ∃ A13c, (∀ w11, S10 w11 → World.cell? w11 (Addr.add a12 1) = some (Value.slice A13 A13l A13c)) ∧
  V.when (decide ((0 : Int) ≤ t12_7 ∧ (t12_7 : Int) < ((A13l : Nat) : Int))) (V.ptr A13 fun a14 =>
  ∃ n15, (∀ w11, S10 w11 → World.cell? w11 (Addr.add a14 ((Int.toNat t12_7) * 1)) = some (Value.int .u64 n15)) ∧
  Calls Try.prog 59 #[(Value.pointer t_2), (Value.int .i64 t12_7)] (World.drew w9) fun e17 w18 =>
  ∃ n16, e17 = Ending.returned (Value.int .u64 n16) ∧
  S10 w18 ∧
  V.when (decide ((0 : Int) ≤ t12_7 ∧ (t12_7 : Int) < ((A13l : Nat) : Int))) (V.ptr A13 fun a19 =>
  (∃ u20, World.cell? w18 (Addr.add (Addr.add a19 ((Int.toNat t12_7) * 1)) 0) = some u20) ∧ World.frozen? w18 (Addr.add (Addr.add a19 ((Int.toNat t12_7) * 1)) 0) = false ∧
  I5 (IntKind.wrap .i64 (t12_7 + 1)) (World.setCell w18 (Addr.add (Addr.add a19 ((Int.toNat t12_7) * 1)) 0) (Value.int .u64 (IntKind.wrap .u64 ((BitVec.toNat (BitVec.ofInt 64 n15 &&& BitVec.ofInt 64 n16) : Nat) : Int)))) ∧ μ6 (IntKind.wrap .i64 (t12_7 + 1)) (World.setCell w18 (Addr.add (Addr.add a19 ((Int.toNat t12_7) * 1)) 0) (Value.int .u64 (IntKind.wrap .u64 ((BitVec.toNat (BitVec.ofInt 64 n15 &&& BitVec.ofInt 64 n16) : Nat) : Int)))) < μ6 t12_7 w9)))
  (R (Ending.returned undef) w9)))) :
  Calls Try.prog 50 #[(Value.pointer s_1), (Value.pointer t_2)] w R :=
  V.calls_of_V ⟨V.assoc [(0, [12])], V.assoc [(4, [0, 1, 2, 3, 4, 5, 6, 7, 8, 9, 10, 11, 12])]⟩ Try.func50 rfl (Eq.mp (by kernel_rfl) h)

theorem berthtop_errors1_nf  (w : World) (R : Ending → World → Prop) (h :
  ∃ I1 : Int → World → Prop, ∃ μ2 : Int → World → Nat, I1 0 (World.alloc (World.alloc w (.cells #[(Value.int .i64 0), (Value.int .i64 1), (Value.int .i64 11), (Value.int .i64 12), (Value.int .i64 13), (Value.int .i64 14), (Value.int .i64 20), (Value.int .i64 21), (Value.int .i64 22), (Value.int .i64 23), (Value.int .i64 24), (Value.int .i64 25), (Value.int .i64 26), (Value.int .i64 27), (Value.int .i64 28), (Value.int .i64 29), (Value.int .i64 30), (Value.int .i64 31), (Value.int .i64 32), (Value.int .i64 33), (Value.int .i64 34), (Value.int .i64 35), (Value.int .i64 36), (Value.int .i64 37), (Value.int .i64 38), (Value.int .i64 39), (Value.int .i64 40), (Value.int .i64 41), (Value.int .i64 42), (Value.int .i64 43), (Value.int .i64 44), (Value.int .i64 45), (Value.int .i64 46), (Value.int .i64 47), (Value.int .i64 50), (Value.int .i64 51), (Value.int .i64 52), (Value.int .i64 53), (Value.int .i64 54), (Value.int .i64 60), (Value.int .i64 61), (Value.int .i64 62), (Value.int .i64 63), (Value.int .i64 64), (Value.int .i64 65), (Value.int .i64 66), (Value.int .i64 67), (Value.int .i64 68)] 23)) (.cells #[(Value.int .i64 0), (Value.int .i64 1), (Value.int .i64 11), (Value.int .i64 12), (Value.int .i64 13), (Value.int .i64 14), (Value.int .i64 20), (Value.int .i64 21), (Value.int .i64 22), (Value.int .i64 23), (Value.int .i64 24), (Value.int .i64 25), (Value.int .i64 26), (Value.int .i64 27), (Value.int .i64 28), (Value.int .i64 29), (Value.int .i64 30), (Value.int .i64 31), (Value.int .i64 32), (Value.int .i64 33), (Value.int .i64 34), (Value.int .i64 35), (Value.int .i64 36), (Value.int .i64 37), (Value.int .i64 38), (Value.int .i64 39), (Value.int .i64 40), (Value.int .i64 41), (Value.int .i64 42), (Value.int .i64 43), (Value.int .i64 44), (Value.int .i64 45), (Value.int .i64 46), (Value.int .i64 47), (Value.int .i64 50), (Value.int .i64 51), (Value.int .i64 52), (Value.int .i64 53), (Value.int .i64 54), (Value.int .i64 60), (Value.int .i64 61), (Value.int .i64 62), (Value.int .i64 63), (Value.int .i64 64), (Value.int .i64 65), (Value.int .i64 66), (Value.int .i64 67), (Value.int .i64 68)] 3)) ∧
  ∀ i_3 (j4 : Nat → Value) (w5 : World), I1 i_3 w5 →
  (V.sel (decide (i_3 < 48))
  (V.when (decide ((0 : Int) ≤ i_3 ∧ (i_3 : Int) < 48)) (∃ n6, World.cell? w5 (Addr.add ⟨Array.size (World.heap w), 0, none⟩ ((Int.toNat i_3) * 1)) = some (Value.int .i64 n6) ∧
  V.when (decide ((0 : Int) ≤ i_3 ∧ (i_3 : Int) < 48)) (∃ n7, World.cell? w5 (Addr.add ⟨Array.size (World.heap (World.alloc w (.cells #[(Value.int .i64 0), (Value.int .i64 1), (Value.int .i64 11), (Value.int .i64 12), (Value.int .i64 13), (Value.int .i64 14), (Value.int .i64 20), (Value.int .i64 21), (Value.int .i64 22), (Value.int .i64 23), (Value.int .i64 24), (Value.int .i64 25), (Value.int .i64 26), (Value.int .i64 27), (Value.int .i64 28), (Value.int .i64 29), (Value.int .i64 30), (Value.int .i64 31), (Value.int .i64 32), (Value.int .i64 33), (Value.int .i64 34), (Value.int .i64 35), (Value.int .i64 36), (Value.int .i64 37), (Value.int .i64 38), (Value.int .i64 39), (Value.int .i64 40), (Value.int .i64 41), (Value.int .i64 42), (Value.int .i64 43), (Value.int .i64 44), (Value.int .i64 45), (Value.int .i64 46), (Value.int .i64 47), (Value.int .i64 50), (Value.int .i64 51), (Value.int .i64 52), (Value.int .i64 53), (Value.int .i64 54), (Value.int .i64 60), (Value.int .i64 61), (Value.int .i64 62), (Value.int .i64 63), (Value.int .i64 64), (Value.int .i64 65), (Value.int .i64 66), (Value.int .i64 67), (Value.int .i64 68)] 23))), 0, none⟩ ((Int.toNat i_3) * 1)) = some (Value.int .i64 n7) ∧
  V.sel (n6 != n7)
  (R (Ending.returned (Value.bool false)) (World.drew w5))
  (I1 (IntKind.wrap .i64 (i_3 + 1)) (World.drew w5) ∧ μ2 (IntKind.wrap .i64 (i_3 + 1)) (World.drew w5) < μ2 i_3 w5))))
  (R (Ending.returned (Value.bool true)) w5))) :
  Calls Try.prog 51 #[] w R :=
  V.calls_of_V ⟨V.assoc [(0, [3])], V.assoc [(6, [0, 1, 2, 3, 4, 5, 6, 7, 8])]⟩ Try.func51 rfl (Eq.mp (by kernel_rfl) h)

theorem berthtop_errors2_nf  (w : World) (R : Ending → World → Prop) (h :
  ∃ I1 : Int → World → Prop, ∃ μ2 : Int → World → Nat, I1 0 (World.alloc (World.alloc w (.cells #[(Value.int .i64 69), (Value.int .i64 70), (Value.int .i64 71), (Value.int .i64 72), (Value.int .i64 80), (Value.int .i64 81), (Value.int .i64 82), (Value.int .i64 83), (Value.int .i64 84), (Value.int .i64 90), (Value.int .i64 100), (Value.int .i64 110), (Value.int .i64 111), (Value.int .i64 112), (Value.int .i64 113), (Value.int .i64 114), (Value.int .i64 115), (Value.int .i64 120), (Value.int .i64 121), (Value.int .i64 122), (Value.int .i64 123), (Value.int .i64 124), (Value.int .i64 130), (Value.int .i64 131), (Value.int .i64 140), (Value.int .i64 141), (Value.int .i64 142), (Value.int .i64 143), (Value.int .i64 144), (Value.int .i64 145), (Value.int .i64 146), (Value.int .i64 147), (Value.int .i64 148), (Value.int .i64 149), (Value.int .i64 150), (Value.int .i64 151), (Value.int .i64 170), (Value.int .i64 180), (Value.int .i64 190), (Value.int .i64 191), (Value.int .i64 192), (Value.int .i64 200), (Value.int .i64 201), (Value.int .i64 202), (Value.int .i64 203), (Value.int .i64 204), (Value.int .i64 205), (Value.int .i64 206)] 23)) (.cells #[(Value.int .i64 69), (Value.int .i64 70), (Value.int .i64 71), (Value.int .i64 72), (Value.int .i64 80), (Value.int .i64 81), (Value.int .i64 82), (Value.int .i64 83), (Value.int .i64 84), (Value.int .i64 90), (Value.int .i64 100), (Value.int .i64 110), (Value.int .i64 111), (Value.int .i64 112), (Value.int .i64 113), (Value.int .i64 114), (Value.int .i64 115), (Value.int .i64 120), (Value.int .i64 121), (Value.int .i64 122), (Value.int .i64 123), (Value.int .i64 124), (Value.int .i64 130), (Value.int .i64 131), (Value.int .i64 140), (Value.int .i64 141), (Value.int .i64 142), (Value.int .i64 143), (Value.int .i64 144), (Value.int .i64 145), (Value.int .i64 146), (Value.int .i64 147), (Value.int .i64 148), (Value.int .i64 149), (Value.int .i64 150), (Value.int .i64 151), (Value.int .i64 170), (Value.int .i64 180), (Value.int .i64 190), (Value.int .i64 191), (Value.int .i64 192), (Value.int .i64 200), (Value.int .i64 201), (Value.int .i64 202), (Value.int .i64 203), (Value.int .i64 204), (Value.int .i64 205), (Value.int .i64 206)] 3)) ∧
  ∀ i_3 (j4 : Nat → Value) (w5 : World), I1 i_3 w5 →
  (V.sel (decide (i_3 < 48))
  (V.when (decide ((0 : Int) ≤ i_3 ∧ (i_3 : Int) < 48)) (∃ n6, World.cell? w5 (Addr.add ⟨Array.size (World.heap w), 0, none⟩ ((Int.toNat i_3) * 1)) = some (Value.int .i64 n6) ∧
  V.when (decide ((0 : Int) ≤ i_3 ∧ (i_3 : Int) < 48)) (∃ n7, World.cell? w5 (Addr.add ⟨Array.size (World.heap (World.alloc w (.cells #[(Value.int .i64 69), (Value.int .i64 70), (Value.int .i64 71), (Value.int .i64 72), (Value.int .i64 80), (Value.int .i64 81), (Value.int .i64 82), (Value.int .i64 83), (Value.int .i64 84), (Value.int .i64 90), (Value.int .i64 100), (Value.int .i64 110), (Value.int .i64 111), (Value.int .i64 112), (Value.int .i64 113), (Value.int .i64 114), (Value.int .i64 115), (Value.int .i64 120), (Value.int .i64 121), (Value.int .i64 122), (Value.int .i64 123), (Value.int .i64 124), (Value.int .i64 130), (Value.int .i64 131), (Value.int .i64 140), (Value.int .i64 141), (Value.int .i64 142), (Value.int .i64 143), (Value.int .i64 144), (Value.int .i64 145), (Value.int .i64 146), (Value.int .i64 147), (Value.int .i64 148), (Value.int .i64 149), (Value.int .i64 150), (Value.int .i64 151), (Value.int .i64 170), (Value.int .i64 180), (Value.int .i64 190), (Value.int .i64 191), (Value.int .i64 192), (Value.int .i64 200), (Value.int .i64 201), (Value.int .i64 202), (Value.int .i64 203), (Value.int .i64 204), (Value.int .i64 205), (Value.int .i64 206)] 23))), 0, none⟩ ((Int.toNat i_3) * 1)) = some (Value.int .i64 n7) ∧
  V.sel (n6 != n7)
  (R (Ending.returned (Value.bool false)) (World.drew w5))
  (I1 (IntKind.wrap .i64 (i_3 + 1)) (World.drew w5) ∧ μ2 (IntKind.wrap .i64 (i_3 + 1)) (World.drew w5) < μ2 i_3 w5))))
  (R (Ending.returned (Value.bool true)) w5))) :
  Calls Try.prog 52 #[] w R :=
  V.calls_of_V ⟨V.assoc [(0, [3])], V.assoc [(6, [0, 1, 2, 3, 4, 5, 6, 7, 8])]⟩ Try.func52 rfl (Eq.mp (by kernel_rfl) h)

theorem berthtop_errors3_nf  (w : World) (R : Ending → World → Prop) (h :
  ∃ I1 : Int → World → Prop, ∃ μ2 : Int → World → Nat, I1 0 (World.alloc (World.alloc w (.cells #[(Value.int .i64 207), (Value.int .i64 210), (Value.int .i64 211), (Value.int .i64 212), (Value.int .i64 213), (Value.int .i64 214), (Value.int .i64 215), (Value.int .i64 216), (Value.int .i64 217), (Value.int .i64 218), (Value.int .i64 219), (Value.int .i64 220), (Value.int .i64 230), (Value.int .i64 231), (Value.int .i64 232), (Value.int .i64 233), (Value.int .i64 234), (Value.int .i64 235), (Value.int .i64 240), (Value.int .i64 241), (Value.int .i64 242), (Value.int .i64 250), (Value.int .i64 251), (Value.int .i64 252), (Value.int .i64 253), (Value.int .i64 254), (Value.int .i64 255), (Value.int .i64 260), (Value.int .i64 261), (Value.int .i64 262), (Value.int .i64 263), (Value.int .i64 264), (Value.int .i64 265), (Value.int .i64 270), (Value.int .i64 271), (Value.int .i64 272), (Value.int .i64 273), (Value.int .i64 274), (Value.int .i64 275), (Value.int .i64 276), (Value.int .i64 280), (Value.int .i64 281), (Value.int .i64 282), (Value.int .i64 283), (Value.int .i64 284), (Value.int .i64 285), (Value.int .i64 286)] 23)) (.cells #[(Value.int .i64 207), (Value.int .i64 210), (Value.int .i64 211), (Value.int .i64 212), (Value.int .i64 213), (Value.int .i64 214), (Value.int .i64 215), (Value.int .i64 216), (Value.int .i64 217), (Value.int .i64 218), (Value.int .i64 219), (Value.int .i64 220), (Value.int .i64 230), (Value.int .i64 231), (Value.int .i64 232), (Value.int .i64 233), (Value.int .i64 234), (Value.int .i64 235), (Value.int .i64 240), (Value.int .i64 241), (Value.int .i64 242), (Value.int .i64 250), (Value.int .i64 251), (Value.int .i64 252), (Value.int .i64 253), (Value.int .i64 254), (Value.int .i64 255), (Value.int .i64 260), (Value.int .i64 261), (Value.int .i64 262), (Value.int .i64 263), (Value.int .i64 264), (Value.int .i64 265), (Value.int .i64 270), (Value.int .i64 271), (Value.int .i64 272), (Value.int .i64 273), (Value.int .i64 274), (Value.int .i64 275), (Value.int .i64 276), (Value.int .i64 280), (Value.int .i64 281), (Value.int .i64 282), (Value.int .i64 283), (Value.int .i64 284), (Value.int .i64 285), (Value.int .i64 286)] 3)) ∧
  ∀ i_3 (j4 : Nat → Value) (w5 : World), I1 i_3 w5 →
  (V.sel (decide (i_3 < 47))
  (V.when (decide ((0 : Int) ≤ i_3 ∧ (i_3 : Int) < 47)) (∃ n6, World.cell? w5 (Addr.add ⟨Array.size (World.heap w), 0, none⟩ ((Int.toNat i_3) * 1)) = some (Value.int .i64 n6) ∧
  V.when (decide ((0 : Int) ≤ i_3 ∧ (i_3 : Int) < 47)) (∃ n7, World.cell? w5 (Addr.add ⟨Array.size (World.heap (World.alloc w (.cells #[(Value.int .i64 207), (Value.int .i64 210), (Value.int .i64 211), (Value.int .i64 212), (Value.int .i64 213), (Value.int .i64 214), (Value.int .i64 215), (Value.int .i64 216), (Value.int .i64 217), (Value.int .i64 218), (Value.int .i64 219), (Value.int .i64 220), (Value.int .i64 230), (Value.int .i64 231), (Value.int .i64 232), (Value.int .i64 233), (Value.int .i64 234), (Value.int .i64 235), (Value.int .i64 240), (Value.int .i64 241), (Value.int .i64 242), (Value.int .i64 250), (Value.int .i64 251), (Value.int .i64 252), (Value.int .i64 253), (Value.int .i64 254), (Value.int .i64 255), (Value.int .i64 260), (Value.int .i64 261), (Value.int .i64 262), (Value.int .i64 263), (Value.int .i64 264), (Value.int .i64 265), (Value.int .i64 270), (Value.int .i64 271), (Value.int .i64 272), (Value.int .i64 273), (Value.int .i64 274), (Value.int .i64 275), (Value.int .i64 276), (Value.int .i64 280), (Value.int .i64 281), (Value.int .i64 282), (Value.int .i64 283), (Value.int .i64 284), (Value.int .i64 285), (Value.int .i64 286)] 23))), 0, none⟩ ((Int.toNat i_3) * 1)) = some (Value.int .i64 n7) ∧
  V.sel (n6 != n7)
  (R (Ending.returned (Value.bool false)) (World.drew w5))
  (I1 (IntKind.wrap .i64 (i_3 + 1)) (World.drew w5) ∧ μ2 (IntKind.wrap .i64 (i_3 + 1)) (World.drew w5) < μ2 i_3 w5))))
  (R (Ending.returned (Value.bool true)) w5))) :
  Calls Try.prog 53 #[] w R :=
  V.calls_of_V ⟨V.assoc [(0, [3])], V.assoc [(6, [0, 1, 2, 3, 4, 5, 6, 7, 8])]⟩ Try.func53 rfl (Eq.mp (by kernel_rfl) h)

theorem berthtop_limits_nf  (w : World) (R : Ending → World → Prop) (h :
  ∃ I1 : Int → World → Prop, ∃ μ2 : Int → World → Nat, I1 0 (World.alloc (World.alloc w (.cells #[(Value.int .i64 65536), (Value.int .i64 9223372036854775807), (Value.int .i64 16), (Value.int .i64 32), (Value.int .i64 32), (Value.int .i64 1024), (Value.int .i64 63), (Value.int .i64 127), (Value.int .i64 63), (Value.int .i64 32), (Value.int .i64 8192), (Value.int .i64 15), (Value.int .i64 18), (Value.int .i64 16), (Value.int .i64 256), (Value.int .i64 16), (Value.int .i64 512), (Value.int .i64 2048), (Value.int .i64 2048), (Value.int .i64 4096), (Value.int .i64 127), (Value.int .i64 32), (Value.int .i64 1000), (Value.int .i64 64), (Value.int .i64 2000), (Value.int .i64 128), (Value.int .i64 32768), (Value.int .i64 4096), (Value.int .i64 1024), (Value.int .i64 8), (Value.int .i64 8), (Value.int .i64 100), (Value.int .i64 1000000), (Value.int .i64 1099511627776), (Value.int .i64 64), (Value.int .i64 16777216), (Value.int .i64 1048576)] 3)) (.cells #[(Value.int .i64 65536), (Value.int .i64 9223372036854775807), (Value.int .i64 16), (Value.int .i64 32), (Value.int .i64 32), (Value.int .i64 1024), (Value.int .i64 63), (Value.int .i64 127), (Value.int .i64 63), (Value.int .i64 32), (Value.int .i64 8192), (Value.int .i64 15), (Value.int .i64 18), (Value.int .i64 16), (Value.int .i64 256), (Value.int .i64 16), (Value.int .i64 512), (Value.int .i64 2048), (Value.int .i64 2048), (Value.int .i64 4096), (Value.int .i64 127), (Value.int .i64 32), (Value.int .i64 1000), (Value.int .i64 64), (Value.int .i64 2000), (Value.int .i64 128), (Value.int .i64 32768), (Value.int .i64 4096), (Value.int .i64 1024), (Value.int .i64 8), (Value.int .i64 8), (Value.int .i64 100), (Value.int .i64 1000000), (Value.int .i64 1099511627776), (Value.int .i64 64), (Value.int .i64 16777216), (Value.int .i64 1048576)] 3)) ∧
  ∀ i_3 (j4 : Nat → Value) (w5 : World), I1 i_3 w5 →
  (V.sel (decide (i_3 < 37))
  (V.when (decide ((0 : Int) ≤ i_3 ∧ (i_3 : Int) < 37)) (∃ n6, World.cell? w5 (Addr.add ⟨Array.size (World.heap w), 0, none⟩ ((Int.toNat i_3) * 1)) = some (Value.int .i64 n6) ∧
  V.when (decide ((0 : Int) ≤ i_3 ∧ (i_3 : Int) < 37)) (∃ n7, World.cell? w5 (Addr.add ⟨Array.size (World.heap (World.alloc w (.cells #[(Value.int .i64 65536), (Value.int .i64 9223372036854775807), (Value.int .i64 16), (Value.int .i64 32), (Value.int .i64 32), (Value.int .i64 1024), (Value.int .i64 63), (Value.int .i64 127), (Value.int .i64 63), (Value.int .i64 32), (Value.int .i64 8192), (Value.int .i64 15), (Value.int .i64 18), (Value.int .i64 16), (Value.int .i64 256), (Value.int .i64 16), (Value.int .i64 512), (Value.int .i64 2048), (Value.int .i64 2048), (Value.int .i64 4096), (Value.int .i64 127), (Value.int .i64 32), (Value.int .i64 1000), (Value.int .i64 64), (Value.int .i64 2000), (Value.int .i64 128), (Value.int .i64 32768), (Value.int .i64 4096), (Value.int .i64 1024), (Value.int .i64 8), (Value.int .i64 8), (Value.int .i64 100), (Value.int .i64 1000000), (Value.int .i64 1099511627776), (Value.int .i64 64), (Value.int .i64 16777216), (Value.int .i64 1048576)] 3))), 0, none⟩ ((Int.toNat i_3) * 1)) = some (Value.int .i64 n7) ∧
  V.sel (n6 != n7)
  (R (Ending.returned (Value.bool false)) (World.drew w5))
  (I1 (IntKind.wrap .i64 (i_3 + 1)) (World.drew w5) ∧ μ2 (IntKind.wrap .i64 (i_3 + 1)) (World.drew w5) < μ2 i_3 w5))))
  (R (Ending.returned (Value.bool true)) w5))) :
  Calls Try.prog 54 #[] w R :=
  V.calls_of_V ⟨V.assoc [(0, [3])], V.assoc [(6, [0, 1, 2, 3, 4, 5, 6, 7, 8])]⟩ Try.func54 rfl (Eq.mp (by kernel_rfl) h)

theorem berthref01_From_nf (n_1 : Int) (places_2 : Option Addr) (places_2l : Nat) (places_2c : Nat) (w : World) (R : Ending → World → Prop) (h :
  Calls Try.prog 72 #[(Value.int .i64 n_1)] (World.alloc w (.cells #[(Value.int .i64 0), (Value.slice none 0 0)] 38)) fun e6 w7 =>
  ∃ n3, ∃ A4, ∃ A4l, ∃ A4c, ∃ n5, e6 = Ending.returned (Value.tuple #[(Value.agg #[(Value.int .i64 n3), (Value.slice A4 A4l A4c)]), (Value.int .i64 n5)]) ∧
  (∃ u8, World.cell? (World.alloc w7 (.cells #[(Value.int .i64 0), (Value.slice none 0 0)] 38)) (Addr.add ⟨Array.size (World.heap w7), 0, none⟩ 0) = some u8) ∧ World.frozen? (World.alloc w7 (.cells #[(Value.int .i64 0), (Value.slice none 0 0)] 38)) (Addr.add ⟨Array.size (World.heap w7), 0, none⟩ 0) = false ∧
  (∃ u9, World.cell? (World.setCell (World.alloc w7 (.cells #[(Value.int .i64 0), (Value.slice none 0 0)] 38)) (Addr.add ⟨Array.size (World.heap w7), 0, none⟩ 0) (Value.int .i64 n3)) (Addr.add ⟨Array.size (World.heap w7), 0, none⟩ 1) = some u9) ∧ World.frozen? (World.setCell (World.alloc w7 (.cells #[(Value.int .i64 0), (Value.slice none 0 0)] 38)) (Addr.add ⟨Array.size (World.heap w7), 0, none⟩ 0) (Value.int .i64 n3)) (Addr.add ⟨Array.size (World.heap w7), 0, none⟩ 1) = false ∧
  V.sel (n5 != 0)
  (∃ n10, World.cell? (World.setCell (World.setCell (World.alloc w7 (.cells #[(Value.int .i64 0), (Value.slice none 0 0)] 38)) (Addr.add ⟨Array.size (World.heap w7), 0, none⟩ 0) (Value.int .i64 n3)) (Addr.add ⟨Array.size (World.heap w7), 0, none⟩ 1) (Value.slice A4 A4l A4c)) (Addr.add ⟨Array.size (World.heap w7), 0, none⟩ 0) = some (Value.int .i64 n10) ∧
  ∃ A11, ∃ A11l, ∃ A11c, World.cell? (World.setCell (World.setCell (World.alloc w7 (.cells #[(Value.int .i64 0), (Value.slice none 0 0)] 38)) (Addr.add ⟨Array.size (World.heap w7), 0, none⟩ 0) (Value.int .i64 n3)) (Addr.add ⟨Array.size (World.heap w7), 0, none⟩ 1) (Value.slice A4 A4l A4c)) (Addr.add ⟨Array.size (World.heap w7), 0, none⟩ 1) = some (Value.slice A11 A11l A11c) ∧
  (∃ u12, World.cell? (World.setCell (World.setCell (World.alloc w7 (.cells #[(Value.int .i64 0), (Value.slice none 0 0)] 38)) (Addr.add ⟨Array.size (World.heap w7), 0, none⟩ 0) (Value.int .i64 n3)) (Addr.add ⟨Array.size (World.heap w7), 0, none⟩ 1) (Value.slice A4 A4l A4c)) (Addr.add ⟨Array.size (World.heap w), 0, none⟩ 0) = some u12) ∧ World.frozen? (World.setCell (World.setCell (World.alloc w7 (.cells #[(Value.int .i64 0), (Value.slice none 0 0)] 38)) (Addr.add ⟨Array.size (World.heap w7), 0, none⟩ 0) (Value.int .i64 n3)) (Addr.add ⟨Array.size (World.heap w7), 0, none⟩ 1) (Value.slice A4 A4l A4c)) (Addr.add ⟨Array.size (World.heap w), 0, none⟩ 0) = false ∧
  (∃ u13, World.cell? (World.setCell (World.setCell (World.setCell (World.alloc w7 (.cells #[(Value.int .i64 0), (Value.slice none 0 0)] 38)) (Addr.add ⟨Array.size (World.heap w7), 0, none⟩ 0) (Value.int .i64 n3)) (Addr.add ⟨Array.size (World.heap w7), 0, none⟩ 1) (Value.slice A4 A4l A4c)) (Addr.add ⟨Array.size (World.heap w), 0, none⟩ 0) (Value.int .i64 n10)) (Addr.add ⟨Array.size (World.heap w), 0, none⟩ 1) = some u13) ∧ World.frozen? (World.setCell (World.setCell (World.setCell (World.alloc w7 (.cells #[(Value.int .i64 0), (Value.slice none 0 0)] 38)) (Addr.add ⟨Array.size (World.heap w7), 0, none⟩ 0) (Value.int .i64 n3)) (Addr.add ⟨Array.size (World.heap w7), 0, none⟩ 1) (Value.slice A4 A4l A4c)) (Addr.add ⟨Array.size (World.heap w), 0, none⟩ 0) (Value.int .i64 n10)) (Addr.add ⟨Array.size (World.heap w), 0, none⟩ 1) = false ∧
  ∃ n14, World.cell? (World.setCell (World.setCell (World.setCell (World.setCell (World.alloc w7 (.cells #[(Value.int .i64 0), (Value.slice none 0 0)] 38)) (Addr.add ⟨Array.size (World.heap w7), 0, none⟩ 0) (Value.int .i64 n3)) (Addr.add ⟨Array.size (World.heap w7), 0, none⟩ 1) (Value.slice A4 A4l A4c)) (Addr.add ⟨Array.size (World.heap w), 0, none⟩ 0) (Value.int .i64 n10)) (Addr.add ⟨Array.size (World.heap w), 0, none⟩ 1) (Value.slice A11 A11l A11c)) (Addr.add ⟨Array.size (World.heap w), 0, none⟩ 0) = some (Value.int .i64 n14) ∧
  ∃ A15, ∃ A15l, ∃ A15c, World.cell? (World.setCell (World.setCell (World.setCell (World.setCell (World.alloc w7 (.cells #[(Value.int .i64 0), (Value.slice none 0 0)] 38)) (Addr.add ⟨Array.size (World.heap w7), 0, none⟩ 0) (Value.int .i64 n3)) (Addr.add ⟨Array.size (World.heap w7), 0, none⟩ 1) (Value.slice A4 A4l A4c)) (Addr.add ⟨Array.size (World.heap w), 0, none⟩ 0) (Value.int .i64 n10)) (Addr.add ⟨Array.size (World.heap w), 0, none⟩ 1) (Value.slice A11 A11l A11c)) (Addr.add ⟨Array.size (World.heap w), 0, none⟩ 1) = some (Value.slice A15 A15l A15c) ∧
  R (Ending.returned (Value.tuple #[(Value.agg #[(Value.int .i64 n14), (Value.slice A15 A15l A15c)]), (Value.int .i64 n5)])) (World.setCell (World.setCell (World.setCell (World.setCell (World.alloc w7 (.cells #[(Value.int .i64 0), (Value.slice none 0 0)] 38)) (Addr.add ⟨Array.size (World.heap w7), 0, none⟩ 0) (Value.int .i64 n3)) (Addr.add ⟨Array.size (World.heap w7), 0, none⟩ 1) (Value.slice A4 A4l A4c)) (Addr.add ⟨Array.size (World.heap w), 0, none⟩ 0) (Value.int .i64 n10)) (Addr.add ⟨Array.size (World.heap w), 0, none⟩ 1) (Value.slice A11 A11l A11c)))
  (∃ I16 : Int → World → Prop, ∃ μ17 : Int → World → Nat, I16 0 (World.setCell (World.setCell (World.alloc w7 (.cells #[(Value.int .i64 0), (Value.slice none 0 0)] 38)) (Addr.add ⟨Array.size (World.heap w7), 0, none⟩ 0) (Value.int .i64 n3)) (Addr.add ⟨Array.size (World.heap w7), 0, none⟩ 1) (Value.slice A4 A4l A4c)) ∧
  ∀ i_18 (j19 : Nat → Value) (w20 : World), I16 i_18 w20 →
  (V.sel (decide (i_18 < ((places_2l : Nat) : Int)))
  (V.when (decide ((0 : Int) ≤ i_18 ∧ (i_18 : Int) < ((places_2l : Nat) : Int))) (V.ptr places_2 fun a21 =>
  ∃ n22, World.cell? w20 (Addr.add a21 ((Int.toNat i_18) * 1)) = some (Value.int .i64 n22) ∧
  V.sel (decide (n22 < 0))
  ((∃ u23, World.cell? w20 (Addr.add ⟨Array.size (World.heap w), 0, none⟩ 0) = some u23) ∧ World.frozen? w20 (Addr.add ⟨Array.size (World.heap w), 0, none⟩ 0) = false ∧
  (∃ u24, World.cell? (World.setCell w20 (Addr.add ⟨Array.size (World.heap w), 0, none⟩ 0) (Value.int .i64 0)) (Addr.add ⟨Array.size (World.heap w), 0, none⟩ 1) = some u24) ∧ World.frozen? (World.setCell w20 (Addr.add ⟨Array.size (World.heap w), 0, none⟩ 0) (Value.int .i64 0)) (Addr.add ⟨Array.size (World.heap w), 0, none⟩ 1) = false ∧
  ∃ n25, World.cell? (World.setCell (World.setCell w20 (Addr.add ⟨Array.size (World.heap w), 0, none⟩ 0) (Value.int .i64 0)) (Addr.add ⟨Array.size (World.heap w), 0, none⟩ 1) (Value.slice none 0 0)) (Addr.add ⟨Array.size (World.heap w), 0, none⟩ 0) = some (Value.int .i64 n25) ∧
  ∃ A26, ∃ A26l, ∃ A26c, World.cell? (World.setCell (World.setCell w20 (Addr.add ⟨Array.size (World.heap w), 0, none⟩ 0) (Value.int .i64 0)) (Addr.add ⟨Array.size (World.heap w), 0, none⟩ 1) (Value.slice none 0 0)) (Addr.add ⟨Array.size (World.heap w), 0, none⟩ 1) = some (Value.slice A26 A26l A26c) ∧
  R (Ending.returned (Value.tuple #[(Value.agg #[(Value.int .i64 n25), (Value.slice A26 A26l A26c)]), (Value.int .i64 12)])) (World.setCell (World.setCell w20 (Addr.add ⟨Array.size (World.heap w), 0, none⟩ 0) (Value.int .i64 0)) (Addr.add ⟨Array.size (World.heap w), 0, none⟩ 1) (Value.slice none 0 0)))
  (V.when (decide ((0 : Int) ≤ i_18 ∧ (i_18 : Int) < ((places_2l : Nat) : Int))) (V.ptr places_2 fun a27 =>
  ∃ n28, World.cell? w20 (Addr.add a27 ((Int.toNat i_18) * 1)) = some (Value.int .i64 n28) ∧
  V.sel (decide (n28 ≥ n_1))
  ((∃ u29, World.cell? w20 (Addr.add ⟨Array.size (World.heap w), 0, none⟩ 0) = some u29) ∧ World.frozen? w20 (Addr.add ⟨Array.size (World.heap w), 0, none⟩ 0) = false ∧
  (∃ u30, World.cell? (World.setCell w20 (Addr.add ⟨Array.size (World.heap w), 0, none⟩ 0) (Value.int .i64 0)) (Addr.add ⟨Array.size (World.heap w), 0, none⟩ 1) = some u30) ∧ World.frozen? (World.setCell w20 (Addr.add ⟨Array.size (World.heap w), 0, none⟩ 0) (Value.int .i64 0)) (Addr.add ⟨Array.size (World.heap w), 0, none⟩ 1) = false ∧
  ∃ n31, World.cell? (World.setCell (World.setCell w20 (Addr.add ⟨Array.size (World.heap w), 0, none⟩ 0) (Value.int .i64 0)) (Addr.add ⟨Array.size (World.heap w), 0, none⟩ 1) (Value.slice none 0 0)) (Addr.add ⟨Array.size (World.heap w), 0, none⟩ 0) = some (Value.int .i64 n31) ∧
  ∃ A32, ∃ A32l, ∃ A32c, World.cell? (World.setCell (World.setCell w20 (Addr.add ⟨Array.size (World.heap w), 0, none⟩ 0) (Value.int .i64 0)) (Addr.add ⟨Array.size (World.heap w), 0, none⟩ 1) (Value.slice none 0 0)) (Addr.add ⟨Array.size (World.heap w), 0, none⟩ 1) = some (Value.slice A32 A32l A32c) ∧
  R (Ending.returned (Value.tuple #[(Value.agg #[(Value.int .i64 n31), (Value.slice A32 A32l A32c)]), (Value.int .i64 12)])) (World.setCell (World.setCell w20 (Addr.add ⟨Array.size (World.heap w), 0, none⟩ 0) (Value.int .i64 0)) (Addr.add ⟨Array.size (World.heap w), 0, none⟩ 1) (Value.slice none 0 0)))
  (I16 (IntKind.wrap .i64 (i_18 + 1)) w20 ∧ μ17 (IntKind.wrap .i64 (i_18 + 1)) w20 < μ17 i_18 w20)))))
  (V.when (decide ((0 : Int) ≤ n_1 ∧ (n_1 : Int) ≤ n_1 ∧ (n_1 : Int) ≤ 281474976710656 ∧ (1 : Int) * n_1 ≤ 281474976710656)) (∃ I33 : Int → World → Prop, ∃ μ34 : Int → World → Nat, I33 0 (World.alloc w20 (.cells ⟨V.rep (Int.toNat n_1) [(Value.bool false)]⟩ 4)) ∧
  ∀ i_35 (j36 : Nat → Value) (w37 : World), I33 i_35 w37 →
  (V.sel (decide (i_35 < ((places_2l : Nat) : Int)))
  (V.when (decide ((0 : Int) ≤ i_35 ∧ (i_35 : Int) < ((places_2l : Nat) : Int))) (V.ptr places_2 fun a38 =>
  ∃ n39, World.cell? w37 (Addr.add a38 ((Int.toNat i_35) * 1)) = some (Value.int .i64 n39) ∧
  V.when (decide ((0 : Int) ≤ n39 ∧ (n39 : Int) < (((Int.toNat n_1) : Nat) : Int))) ((∃ u40, World.cell? w37 (Addr.add (Addr.add ⟨Array.size (World.heap w20), 0, none⟩ ((Int.toNat n39) * 1)) 0) = some u40) ∧ World.frozen? w37 (Addr.add (Addr.add ⟨Array.size (World.heap w20), 0, none⟩ ((Int.toNat n39) * 1)) 0) = false ∧
  I33 (IntKind.wrap .i64 (i_35 + 1)) (World.setCell w37 (Addr.add (Addr.add ⟨Array.size (World.heap w20), 0, none⟩ ((Int.toNat n39) * 1)) 0) (Value.bool true)) ∧ μ34 (IntKind.wrap .i64 (i_35 + 1)) (World.setCell w37 (Addr.add (Addr.add ⟨Array.size (World.heap w20), 0, none⟩ ((Int.toNat n39) * 1)) 0) (Value.bool true)) < μ34 i_35 w37)))
  (∃ I41 : Int → World → Prop, ∃ μ42 : Int → World → Nat, I41 0 w37 ∧
  ∀ i_43 (j44 : Nat → Value) (w45 : World), I41 i_43 w45 →
  (V.sel (decide (i_43 < n_1))
  (V.when (decide ((0 : Int) ≤ i_43 ∧ (i_43 : Int) < (((Int.toNat n_1) : Nat) : Int))) (∃ b46, World.cell? w45 (Addr.add ⟨Array.size (World.heap w20), 0, none⟩ ((Int.toNat i_43) * 1)) = some (Value.bool b46) ∧
  V.sel b46
  (∃ A47, ∃ A47l, ∃ A47c, World.cell? w45 (Addr.add ⟨Array.size (World.heap w7), 0, none⟩ 1) = some (Value.slice A47 A47l A47c) ∧
  ∃ A48, ∃ A48l, ∃ A48c, ∃ w49, Sem.run Try.prog (Builtin.append_ #[25, 25] 25 #[(Value.slice A47 A47l A47c), (Value.slice (some ⟨Array.size (World.heap w45), 0, none⟩) 1 1)]) (World.alloc w45 (.cells #[(Value.int .i64 i_43)] 3)) = .ok (Value.slice A48 A48l A48c) w49 ∧
  (∃ u50, World.cell? w49 (Addr.add (Addr.add ⟨Array.size (World.heap w7), 0, none⟩ 1) 0) = some u50) ∧ World.frozen? w49 (Addr.add (Addr.add ⟨Array.size (World.heap w7), 0, none⟩ 1) 0) = false ∧
  I41 (IntKind.wrap .i64 (i_43 + 1)) (World.setCell w49 (Addr.add (Addr.add ⟨Array.size (World.heap w7), 0, none⟩ 1) 0) (Value.slice A48 A48l A48c)) ∧ μ42 (IntKind.wrap .i64 (i_43 + 1)) (World.setCell w49 (Addr.add (Addr.add ⟨Array.size (World.heap w7), 0, none⟩ 1) 0) (Value.slice A48 A48l A48c)) < μ42 i_43 w45)
  (I41 (IntKind.wrap .i64 (i_43 + 1)) w45 ∧ μ42 (IntKind.wrap .i64 (i_43 + 1)) w45 < μ42 i_43 w45)))
  (∃ n51, World.cell? w45 (Addr.add ⟨Array.size (World.heap w7), 0, none⟩ 0) = some (Value.int .i64 n51) ∧
  ∃ A52, ∃ A52l, ∃ A52c, World.cell? w45 (Addr.add ⟨Array.size (World.heap w7), 0, none⟩ 1) = some (Value.slice A52 A52l A52c) ∧
  (∃ u53, World.cell? w45 (Addr.add ⟨Array.size (World.heap w), 0, none⟩ 0) = some u53) ∧ World.frozen? w45 (Addr.add ⟨Array.size (World.heap w), 0, none⟩ 0) = false ∧
  (∃ u54, World.cell? (World.setCell w45 (Addr.add ⟨Array.size (World.heap w), 0, none⟩ 0) (Value.int .i64 n51)) (Addr.add ⟨Array.size (World.heap w), 0, none⟩ 1) = some u54) ∧ World.frozen? (World.setCell w45 (Addr.add ⟨Array.size (World.heap w), 0, none⟩ 0) (Value.int .i64 n51)) (Addr.add ⟨Array.size (World.heap w), 0, none⟩ 1) = false ∧
  ∃ n55, World.cell? (World.setCell (World.setCell w45 (Addr.add ⟨Array.size (World.heap w), 0, none⟩ 0) (Value.int .i64 n51)) (Addr.add ⟨Array.size (World.heap w), 0, none⟩ 1) (Value.slice A52 A52l A52c)) (Addr.add ⟨Array.size (World.heap w), 0, none⟩ 0) = some (Value.int .i64 n55) ∧
  ∃ A56, ∃ A56l, ∃ A56c, World.cell? (World.setCell (World.setCell w45 (Addr.add ⟨Array.size (World.heap w), 0, none⟩ 0) (Value.int .i64 n51)) (Addr.add ⟨Array.size (World.heap w), 0, none⟩ 1) (Value.slice A52 A52l A52c)) (Addr.add ⟨Array.size (World.heap w), 0, none⟩ 1) = some (Value.slice A56 A56l A56c) ∧
  R (Ending.returned (Value.tuple #[(Value.agg #[(Value.int .i64 n55), (Value.slice A56 A56l A56c)]), (Value.int .i64 0)])) (World.setCell (World.setCell w45 (Addr.add ⟨Array.size (World.heap w), 0, none⟩ 0) (Value.int .i64 n51)) (Addr.add ⟨Array.size (World.heap w), 0, none⟩ 1) (Value.slice A52 A52l A52c))))))))))) :
  Calls Try.prog 55 #[(Value.int .i64 n_1), (Value.slice places_2 places_2l places_2c)] w R :=
  V.calls_of_V ⟨V.assoc [(0, [8]), (1, [10]), (2, [11])], V.assoc []⟩ Try.func55 rfl (Eq.mp (by kernel_rfl) h)

theorem berthref01_SameWords_nf (a_1 : Option Addr) (a_1l : Nat) (a_1c : Nat) (b_2 : Option Addr) (b_2l : Nat) (b_2c : Nat) (w : World) (R : Ending → World → Prop) (h :
  V.sel (((a_1l : Nat) : Int) != ((b_2l : Nat) : Int))
  (R (Ending.returned (Value.bool false)) w)
  (∃ I3 : Int → World → Prop, ∃ μ4 : Int → World → Nat, I3 0 w ∧
  ∀ i_5 (j6 : Nat → Value) (w7 : World), I3 i_5 w7 →
  (V.sel (decide (i_5 < ((a_1l : Nat) : Int)))
  (V.when (decide ((0 : Int) ≤ i_5 ∧ (i_5 : Int) < ((a_1l : Nat) : Int))) (V.ptr a_1 fun a8 =>
  ∃ n9, World.cell? w7 (Addr.add a8 ((Int.toNat i_5) * 1)) = some (Value.int .u64 n9) ∧
  V.when (decide ((0 : Int) ≤ i_5 ∧ (i_5 : Int) < ((b_2l : Nat) : Int))) (V.ptr b_2 fun a10 =>
  ∃ n11, World.cell? w7 (Addr.add a10 ((Int.toNat i_5) * 1)) = some (Value.int .u64 n11) ∧
  V.sel (n9 != n11)
  (R (Ending.returned (Value.bool false)) (World.drew w7))
  (I3 (IntKind.wrap .i64 (i_5 + 1)) (World.drew w7) ∧ μ4 (IntKind.wrap .i64 (i_5 + 1)) (World.drew w7) < μ4 i_5 w7))))
  (R (Ending.returned (Value.bool true)) w7)))) :
  Calls Try.prog 56 #[(Value.slice a_1 a_1l a_1c), (Value.slice b_2 b_2l b_2c)] w R :=
  V.calls_of_V ⟨V.assoc [(0, [5])], V.assoc [(6, [0, 1, 2, 3, 4, 5, 6, 7, 8])]⟩ Try.func56 rfl (Eq.mp (by kernel_rfl) h)

theorem berthlaw01_apartWords_nf (ls_1 : Option Addr) (ls_1l : Nat) (ls_1c : Nat) (w : World) (R : Ending → World → Prop) (h :
  V.when (decide ((0 : Int) ≤ ((ls_1l : Nat) : Int) ∧ (((ls_1l : Nat) : Int) : Int) ≤ ((ls_1l : Nat) : Int) ∧ (((ls_1l : Nat) : Int) : Int) ≤ 281474976710656 ∧ (24 : Int) * ((ls_1l : Nat) : Int) ≤ 281474976710656)) (∃ I2 : Int → World → Prop, ∃ μ3 : Int → World → Nat, I2 0 (World.alloc w (.cells ⟨V.rep (ls_1l : Nat) [(Value.slice none 0 0)]⟩ 46)) ∧
  ∀ i_4 (j5 : Nat → Value) (w6 : World), I2 i_4 w6 →
  (V.sel (decide (i_4 < ((ls_1l : Nat) : Int)))
  (∃ I7 : Int → World → Prop, ∃ μ8 : Int → World → Nat, I7 0 w6 ∧
  ∀ k_9 (j10 : Nat → Value) (w11 : World), I7 k_9 w11 →
  (V.when (decide ((0 : Int) ≤ i_4 ∧ (i_4 : Int) < ((ls_1l : Nat) : Int))) (V.ptr ls_1 fun a12 =>
  ∃ A13, ∃ A13l, ∃ A13c, World.cell? w11 (Addr.add a12 ((Int.toNat i_4) * 1)) = some (Value.slice A13 A13l A13c) ∧
  V.sel (decide (k_9 < ((A13l : Nat) : Int)))
  (V.when (decide ((0 : Int) ≤ i_4 ∧ (i_4 : Int) < ((ls_1l : Nat) : Int))) (V.ptr ls_1 fun a14 =>
  ∃ A15, ∃ A15l, ∃ A15c, World.cell? w11 (Addr.add a14 ((Int.toNat i_4) * 1)) = some (Value.slice A15 A15l A15c) ∧
  V.when (decide ((0 : Int) ≤ k_9 ∧ (k_9 : Int) < ((A15l : Nat) : Int))) (V.ptr A15 fun a16 =>
  (∃ u17, World.cell? w11 (Addr.add (Addr.add a16 ((Int.toNat k_9) * 1)) 0) = some u17) ∧ World.frozen? w11 (Addr.add (Addr.add a16 ((Int.toNat k_9) * 1)) 0) = false ∧
  I7 (IntKind.wrap .i64 (k_9 + 1)) (World.setCell w11 (Addr.add (Addr.add a16 ((Int.toNat k_9) * 1)) 0) (Value.int .u64 (IntKind.wrap .u64 ((IntKind.wrap .i64 ((IntKind.wrap .i64 (1000 * (IntKind.wrap .i64 (i_4 + 1)))) + (Int.tmod k_9 7))))))) ∧ μ8 (IntKind.wrap .i64 (k_9 + 1)) (World.setCell w11 (Addr.add (Addr.add a16 ((Int.toNat k_9) * 1)) 0) (Value.int .u64 (IntKind.wrap .u64 ((IntKind.wrap .i64 ((IntKind.wrap .i64 (1000 * (IntKind.wrap .i64 (i_4 + 1)))) + (Int.tmod k_9 7))))))) < μ8 k_9 w11)))
  (I2 (IntKind.wrap .i64 (i_4 + 1)) w11 ∧ μ3 (IntKind.wrap .i64 (i_4 + 1)) w11 < μ3 i_4 w6))))
  (∃ I18 : Int → World → Prop, ∃ μ19 : Int → World → Nat, I18 0 w6 ∧
  ∀ i_20 (j21 : Nat → Value) (w22 : World), I18 i_20 w22 →
  (V.sel (decide (i_20 < ((ls_1l : Nat) : Int)))
  (V.when (decide ((0 : Int) ≤ i_20 ∧ (i_20 : Int) < ((ls_1l : Nat) : Int))) (V.ptr ls_1 fun a23 =>
  ∃ A24, ∃ A24l, ∃ A24c, World.cell? w22 (Addr.add a23 ((Int.toNat i_20) * 1)) = some (Value.slice A24 A24l A24c) ∧
  ∃ I25 : Option Addr → Nat → Nat → Int → World → Prop, ∃ μ26 : Option Addr → Nat → Nat → Int → World → Nat, I25 A24 A24l A24c 0 w22 ∧
  ∀ g_27 g_27l g_27c k_28 (j29 : Nat → Value) (w30 : World), I25 g_27 g_27l g_27c k_28 w30 →
  (V.sel (decide (k_28 < 40))
  (∃ A31, ∃ A31l, ∃ A31c, ∃ w32, Sem.run Try.prog (Builtin.append_ #[46, 46] 46 #[(Value.slice g_27 g_27l g_27c), (Value.slice (some ⟨Array.size (World.heap w30), 0, none⟩) 1 1)]) (World.alloc w30 (.cells #[(Value.int .u64 (IntKind.wrap .u64 ((IntKind.wrap .i64 ((IntKind.wrap .i64 (1000000 * (IntKind.wrap .i64 (i_20 + 1)))) + k_28)))))] 51)) = .ok (Value.slice A31 A31l A31c) w32 ∧
  I25 A31 A31l A31c (IntKind.wrap .i64 (k_28 + 1)) w32 ∧ μ26 A31 A31l A31c (IntKind.wrap .i64 (k_28 + 1)) w32 < μ26 g_27 g_27l g_27c k_28 w30)
  (V.when (decide ((0 : Int) ≤ i_20 ∧ (i_20 : Int) < (((ls_1l : Nat) : Nat) : Int))) ((∃ u33, World.cell? w30 (Addr.add (Addr.add ⟨Array.size (World.heap w), 0, none⟩ ((Int.toNat i_20) * 1)) 0) = some u33) ∧ World.frozen? w30 (Addr.add (Addr.add ⟨Array.size (World.heap w), 0, none⟩ ((Int.toNat i_20) * 1)) 0) = false ∧
  I18 (IntKind.wrap .i64 (i_20 + 1)) (World.setCell w30 (Addr.add (Addr.add ⟨Array.size (World.heap w), 0, none⟩ ((Int.toNat i_20) * 1)) 0) (Value.slice g_27 g_27l g_27c)) ∧ μ19 (IntKind.wrap .i64 (i_20 + 1)) (World.setCell w30 (Addr.add (Addr.add ⟨Array.size (World.heap w), 0, none⟩ ((Int.toNat i_20) * 1)) 0) (Value.slice g_27 g_27l g_27c)) < μ19 i_20 w22)))))
  (∃ I34 : Int → World → Prop, ∃ μ35 : Int → World → Nat, I34 0 w22 ∧
  ∀ i_36 (j37 : Nat → Value) (w38 : World), I34 i_36 w38 →
  (V.sel (decide (i_36 < ((ls_1l : Nat) : Int)))
  (∃ I39 : Int → World → Prop, ∃ μ40 : Int → World → Nat, I39 0 w38 ∧
  ∀ k_41 (j42 : Nat → Value) (w43 : World), I39 k_41 w43 →
  (V.when (decide ((0 : Int) ≤ i_36 ∧ (i_36 : Int) < ((ls_1l : Nat) : Int))) (V.ptr ls_1 fun a44 =>
  ∃ A45, ∃ A45l, ∃ A45c, World.cell? w43 (Addr.add a44 ((Int.toNat i_36) * 1)) = some (Value.slice A45 A45l A45c) ∧
  V.sel (decide (k_41 < ((A45l : Nat) : Int)))
  (V.when (decide ((0 : Int) ≤ i_36 ∧ (i_36 : Int) < ((ls_1l : Nat) : Int))) (V.ptr ls_1 fun a46 =>
  ∃ A47, ∃ A47l, ∃ A47c, World.cell? w43 (Addr.add a46 ((Int.toNat i_36) * 1)) = some (Value.slice A47 A47l A47c) ∧
  V.when (decide ((0 : Int) ≤ k_41 ∧ (k_41 : Int) < ((A47l : Nat) : Int))) (V.ptr A47 fun a48 =>
  ∃ n49, World.cell? w43 (Addr.add a48 ((Int.toNat k_41) * 1)) = some (Value.int .u64 n49) ∧
  V.sel (n49 != (IntKind.wrap .u64 ((IntKind.wrap .i64 ((IntKind.wrap .i64 (1000 * (IntKind.wrap .i64 (i_36 + 1)))) + (Int.tmod k_41 7))))))
  (R (Ending.returned (Value.bool false)) w43)
  (I39 (IntKind.wrap .i64 (k_41 + 1)) w43 ∧ μ40 (IntKind.wrap .i64 (k_41 + 1)) w43 < μ40 k_41 w43))))
  (∃ I50 : Int → World → Prop, ∃ μ51 : Int → World → Nat, I50 0 w43 ∧
  ∀ k_52 (j53 : Nat → Value) (w54 : World), I50 k_52 w54 →
  (V.sel (decide (k_52 < 40))
  (V.when (decide ((0 : Int) ≤ i_36 ∧ (i_36 : Int) < (((ls_1l : Nat) : Nat) : Int))) (∃ A55, ∃ A55l, ∃ A55c, World.cell? w54 (Addr.add ⟨Array.size (World.heap w), 0, none⟩ ((Int.toNat i_36) * 1)) = some (Value.slice A55 A55l A55c) ∧
  V.when (decide ((0 : Int) ≤ i_36 ∧ (i_36 : Int) < ((ls_1l : Nat) : Int))) (V.ptr ls_1 fun a56 =>
  ∃ A57, ∃ A57l, ∃ A57c, World.cell? w54 (Addr.add a56 ((Int.toNat i_36) * 1)) = some (Value.slice A57 A57l A57c) ∧
  V.when (decide ((0 : Int) ≤ (IntKind.wrap .i64 (((A57l : Nat) : Int) + k_52)) ∧ ((IntKind.wrap .i64 (((A57l : Nat) : Int) + k_52)) : Int) < ((A55l : Nat) : Int))) (V.ptr A55 fun a58 =>
  ∃ n59, World.cell? w54 (Addr.add a58 ((Int.toNat (IntKind.wrap .i64 (((A57l : Nat) : Int) + k_52))) * 1)) = some (Value.int .u64 n59) ∧
  V.sel (n59 != (IntKind.wrap .u64 ((IntKind.wrap .i64 ((IntKind.wrap .i64 (1000000 * (IntKind.wrap .i64 (i_36 + 1)))) + k_52)))))
  (R (Ending.returned (Value.bool false)) (World.drew w54))
  (I50 (IntKind.wrap .i64 (k_52 + 1)) (World.drew w54) ∧ μ51 (IntKind.wrap .i64 (k_52 + 1)) (World.drew w54) < μ51 k_52 w54)))))
  (I34 (IntKind.wrap .i64 (i_36 + 1)) w54 ∧ μ35 (IntKind.wrap .i64 (i_36 + 1)) w54 < μ35 i_36 w38))))))
  (R (Ending.returned (Value.bool true)) w38)))))))) :
  Calls Try.prog 57 #[(Value.slice ls_1 ls_1l ls_1c)] w R :=
  V.calls_of_V ⟨V.assoc [(0, [4]), (1, [5]), (2, [6]), (3, [7, 8]), (4, [9]), (5, [10]), (6, [11])], V.assoc [(29, [0, 1, 2, 3, 4, 5, 6, 7, 8, 9, 10, 11, 12, 13, 14, 15, 16, 17, 18, 19])]⟩ Try.func57 rfl (Eq.mp (by kernel_rfl) h)

theorem bitset_spanOf_nf (a_1 : Option Addr) (b_2 : Option Addr) (w : World) (R : Ending → World → Prop) (h :
  Calls Try.prog 28 #[(Value.pointer a_1)] w fun e4 w5 =>
  ∃ n3, e4 = Ending.returned (Value.int .i64 n3) ∧
  Calls Try.prog 28 #[(Value.pointer b_2)] w5 fun e7 w8 =>
  ∃ n6, e7 = Ending.returned (Value.int .i64 n6) ∧
  Calls Try.prog 69 #[(Value.int .i64 (if n6 > n3 then n6 else n3))] w8 fun e10 w11 =>
  ∃ n9, e10 = Ending.returned (Value.int .i64 n9) ∧
  R (Ending.returned (Value.int .i64 n9)) w11) :
  Calls Try.prog 58 #[(Value.pointer a_1), (Value.pointer b_2)] w R :=
  V.calls_of_V ⟨V.assoc [], V.assoc []⟩ Try.func58 rfl (Eq.mp (by kernel_rfl) h)

theorem bitset_Set_word_nf (s_1 : Option Addr) (w_2 : Int) (w : World) (R : Ending → World → Prop) (h :
  V.sel (Option.isNone s_1)
  (R (Ending.returned (Value.int .u64 0)) w)
  (V.ptr s_1 fun a3 =>
  ∃ A4, ∃ A4l, ∃ A4c, World.cell? w (Addr.add a3 1) = some (Value.slice A4 A4l A4c) ∧
  V.sel (decide (w_2 ≥ ((A4l : Nat) : Int)))
  (R (Ending.returned (Value.int .u64 0)) w)
  (V.ptr s_1 fun a5 =>
  ∃ A6, ∃ A6l, ∃ A6c, World.cell? w (Addr.add a5 1) = some (Value.slice A6 A6l A6c) ∧
  V.when (decide ((0 : Int) ≤ w_2 ∧ (w_2 : Int) < ((A6l : Nat) : Int))) (V.ptr A6 fun a7 =>
  ∃ n8, World.cell? w (Addr.add a7 ((Int.toNat w_2) * 1)) = some (Value.int .u64 n8) ∧
  R (Ending.returned (Value.int .u64 n8)) w)))) :
  Calls Try.prog 59 #[(Value.pointer s_1), (Value.int .i64 w_2)] w R :=
  V.calls_of_V ⟨V.assoc [], V.assoc []⟩ Try.func59 rfl (Eq.mp (by kernel_rfl) h)

theorem bitset_Set_Rank_nf (s_1 : Option Addr) (i_2 : Int) (w : World) (R : Ending → World → Prop) (h :
  Calls Try.prog 28 #[(Value.pointer s_1)] w fun e4 w5 =>
  ∃ n3, e4 = Ending.returned (Value.int .i64 n3) ∧
  V.sel (decide ((if n3 < i_2 then n3 else i_2) ≤ 0))
  (R (Ending.returned (Value.int .i64 0)) w5)
  (∃ I6 : Int → Int → World → Prop, ∃ μ7 : Int → Int → World → Nat, I6 0 0 w5 ∧
  ∀ n_8 t15_9 (j10 : Nat → Value) (w11 : World), I6 n_8 t15_9 w11 →
  (V.sel (decide (t15_9 < (IntKind.wrap .i64 (Int.tdiv (if n3 < i_2 then n3 else i_2) 64))))
  (V.ptr s_1 fun a12 =>
  ∃ A13, ∃ A13l, ∃ A13c, World.cell? w11 (Addr.add a12 1) = some (Value.slice A13 A13l A13c) ∧
  V.when (decide ((0 : Int) ≤ t15_9 ∧ (t15_9 : Int) < ((A13l : Nat) : Int))) (V.ptr A13 fun a14 =>
  ∃ n15, World.cell? w11 (Addr.add a14 ((Int.toNat t15_9) * 1)) = some (Value.int .u64 n15) ∧
  Calls Try.prog 73 #[(Value.int .u64 n15)] w11 fun e17 w18 =>
  ∃ n16, e17 = Ending.returned (Value.int .i64 n16) ∧
  I6 (IntKind.wrap .i64 (n_8 + n16)) (IntKind.wrap .i64 (t15_9 + 1)) w18 ∧ μ7 (IntKind.wrap .i64 (n_8 + n16)) (IntKind.wrap .i64 (t15_9 + 1)) w18 < μ7 n_8 t15_9 w11))
  (V.sel ((Int.tmod (if n3 < i_2 then n3 else i_2) 64) != 0)
  (V.ptr s_1 fun a19 =>
  ∃ A20, ∃ A20l, ∃ A20c, World.cell? w11 (Addr.add a19 1) = some (Value.slice A20 A20l A20c) ∧
  V.when (decide ((0 : Int) ≤ (IntKind.wrap .i64 (Int.tdiv (if n3 < i_2 then n3 else i_2) 64)) ∧ ((IntKind.wrap .i64 (Int.tdiv (if n3 < i_2 then n3 else i_2) 64)) : Int) < ((A20l : Nat) : Int))) (V.ptr A20 fun a21 =>
  ∃ n22, World.cell? w11 (Addr.add a21 ((Int.toNat (IntKind.wrap .i64 (Int.tdiv (if n3 < i_2 then n3 else i_2) 64))) * 1)) = some (Value.int .u64 n22) ∧
  V.when (decide (0 ≤ (IntKind.wrap .i64 (64 - (Int.tmod (if n3 < i_2 then n3 else i_2) 64))))) (Calls Try.prog 73 #[(Value.int .u64 (IntKind.wrap .u64 (n22 * 2 ^ (min (Int.toNat (IntKind.wrap .i64 (64 - (Int.tmod (if n3 < i_2 then n3 else i_2) 64)))) 64))))] w11 fun e24 w25 =>
  ∃ n23, e24 = Ending.returned (Value.int .i64 n23) ∧
  R (Ending.returned (Value.int .i64 (IntKind.wrap .i64 (n_8 + n23)))) w25)))
  (R (Ending.returned (Value.int .i64 n_8)) w11))))) :
  Calls Try.prog 60 #[(Value.pointer s_1), (Value.int .i64 i_2)] w R :=
  V.calls_of_V ⟨V.assoc [(0, [5, 15])], V.assoc []⟩ Try.func60 rfl (Eq.mp (by kernel_rfl) h)

theorem bitset_blank_nf (n_1 : Int) (w : World) (R : Ending → World → Prop) (h :
  Calls Try.prog 69 #[(Value.int .i64 n_1)] w fun e3 w4 =>
  ∃ n2, e3 = Ending.returned (Value.int .i64 n2) ∧
  V.when (decide ((0 : Int) ≤ n2 ∧ (n2 : Int) ≤ n2 ∧ (n2 : Int) ≤ 281474976710656 ∧ (8 : Int) * n2 ≤ 281474976710656)) (R (Ending.returned (Value.pointer (some ⟨Array.size (World.heap (World.alloc w4 (.cells ⟨V.rep (Int.toNat n2) [(Value.int .u64 0)]⟩ 51))), 0, none⟩))) (World.alloc (World.alloc w4 (.cells ⟨V.rep (Int.toNat n2) [(Value.int .u64 0)]⟩ 51)) (.cells #[(Value.int .i64 n_1), (Value.slice (some ⟨Array.size (World.heap w4), 0, none⟩) (Int.toNat n2) (Int.toNat n2))] 66)))) :
  Calls Try.prog 61 #[(Value.int .i64 n_1)] w R :=
  V.calls_of_V ⟨V.assoc [], V.assoc []⟩ Try.func61 rfl (Eq.mp (by kernel_rfl) h)

theorem bitset_joined_nf (a_1 : Option Addr) (b_2 : Option Addr) (one_f3 : Nat) (one_c4 : Array Value) (w : World) (R : Ending → World → Prop) (h :
  Calls Try.prog 28 #[(Value.pointer a_1)] w fun e6 w7 =>
  ∃ n5, e6 = Ending.returned (Value.int .i64 n5) ∧
  Calls Try.prog 28 #[(Value.pointer b_2)] w7 fun e9 w10 =>
  ∃ n8, e9 = Ending.returned (Value.int .i64 n8) ∧
  Calls Try.prog 61 #[(Value.int .i64 (if n8 > n5 then n8 else n5))] w10 fun e12 w13 =>
  ∃ p11, e12 = Ending.returned (Value.pointer p11) ∧
  V.ptr p11 fun a14 =>
  ∃ A15, ∃ A15l, ∃ A15c, World.cell? w13 (Addr.add a14 1) = some (Value.slice A15 A15l A15c) ∧
  ∃ I16 : Int → World → Prop, ∃ μ17 : Int → World → Nat, I16 0 w13 ∧
  ∀ t20_18 (j19 : Nat → Value) (w20 : World), I16 t20_18 w20 →
  (V.sel (decide (t20_18 < ((A15l : Nat) : Int)))
  (∃ S21 : World → Prop, S21 (World.drew w20) ∧
  V.ptr p11 fun a23 =>
  ∃ A24, ∃ A24l, ∃ A24c, (∀ w22, S21 w22 → World.cell? w22 (Addr.add a23 1) = some (Value.slice A24 A24l A24c)) ∧
  Calls Try.prog 59 #[(Value.pointer a_1), (Value.int .i64 t20_18)] (World.drew w20) fun e26 w27 =>
  ∃ n25, e26 = Ending.returned (Value.int .u64 n25) ∧
  S21 w27 ∧
  Calls Try.prog 59 #[(Value.pointer b_2), (Value.int .i64 t20_18)] w27 fun e29 w30 =>
  ∃ n28, e29 = Ending.returned (Value.int .u64 n28) ∧
  S21 w30 ∧
  V.when (V.hasB Try.prog one_f3) (Calls Try.prog one_f3 ⟨[(Value.int .u64 n25), (Value.int .u64 n28)] ++ Array.toList one_c4⟩ w30 fun e32 w33 =>
  ∃ n31, e32 = Ending.returned (Value.int .u64 n31) ∧
  S21 w33 ∧
  V.when (decide ((0 : Int) ≤ t20_18 ∧ (t20_18 : Int) < ((A24l : Nat) : Int))) (V.ptr A24 fun a34 =>
  (∃ u35, World.cell? w33 (Addr.add (Addr.add a34 ((Int.toNat t20_18) * 1)) 0) = some u35) ∧ World.frozen? w33 (Addr.add (Addr.add a34 ((Int.toNat t20_18) * 1)) 0) = false ∧
  I16 (IntKind.wrap .i64 (t20_18 + 1)) (World.setCell w33 (Addr.add (Addr.add a34 ((Int.toNat t20_18) * 1)) 0) (Value.int .u64 n31)) ∧ μ17 (IntKind.wrap .i64 (t20_18 + 1)) (World.setCell w33 (Addr.add (Addr.add a34 ((Int.toNat t20_18) * 1)) 0) (Value.int .u64 n31)) < μ17 t20_18 w20)))
  (R (Ending.returned (Value.pointer p11)) w20))) :
  Calls Try.prog 62 #[(Value.pointer a_1), (Value.pointer b_2), (Value.func (.func one_f3) #[] one_c4)] w R :=
  V.calls_of_V ⟨V.assoc [(0, [20])], V.assoc [(5, [0, 1, 2, 3, 4, 5, 6, 7, 9, 10, 8, 11, 12, 13, 14])]⟩ Try.func62 rfl (Eq.mp (by kernel_rfl) h)

theorem bitset_Or_l1_nf (x_1 : Int) (y_2 : Int) (w : World) (R : Ending → World → Prop) (h :
  V.lt (IntKind.wrap .u64 ((BitVec.toNat (BitVec.ofInt 64 x_1 ||| BitVec.ofInt 64 y_2) : Nat) : Int)) fun x3 =>
  R (Ending.returned (Value.int .u64 x3)) w) :
  Calls Try.prog 63 #[(Value.int .u64 x_1), (Value.int .u64 y_2)] w R :=
  V.calls_of_V ⟨V.assoc [], V.assoc []⟩ Try.func63 rfl (Eq.mp (by kernel_rfl) h)

theorem bitset_And_l1_nf (x_1 : Int) (y_2 : Int) (w : World) (R : Ending → World → Prop) (h :
  V.lt (IntKind.wrap .u64 ((BitVec.toNat (BitVec.ofInt 64 x_1 &&& BitVec.ofInt 64 y_2) : Nat) : Int)) fun x3 =>
  R (Ending.returned (Value.int .u64 x3)) w) :
  Calls Try.prog 64 #[(Value.int .u64 x_1), (Value.int .u64 y_2)] w R :=
  V.calls_of_V ⟨V.assoc [], V.assoc []⟩ Try.func64 rfl (Eq.mp (by kernel_rfl) h)

theorem bitset_Xor_l1_nf (x_1 : Int) (y_2 : Int) (w : World) (R : Ending → World → Prop) (h :
  V.lt (IntKind.wrap .u64 ((BitVec.toNat (BitVec.ofInt 64 x_1 ^^^ BitVec.ofInt 64 y_2) : Nat) : Int)) fun x3 =>
  R (Ending.returned (Value.int .u64 x3)) w) :
  Calls Try.prog 65 #[(Value.int .u64 x_1), (Value.int .u64 y_2)] w R :=
  V.calls_of_V ⟨V.assoc [], V.assoc []⟩ Try.func65 rfl (Eq.mp (by kernel_rfl) h)

theorem bitset_AndNot_l1_nf (x_1 : Int) (y_2 : Int) (w : World) (R : Ending → World → Prop) (h :
  V.lt (IntKind.wrap .u64 ((BitVec.toNat (BitVec.ofInt 64 x_1 &&& ~~~(BitVec.ofInt 64 y_2)) : Nat) : Int)) fun x3 =>
  R (Ending.returned (Value.int .u64 x3)) w) :
  Calls Try.prog 66 #[(Value.int .u64 x_1), (Value.int .u64 y_2)] w R :=
  V.calls_of_V ⟨V.assoc [], V.assoc []⟩ Try.func66 rfl (Eq.mp (by kernel_rfl) h)

theorem bitset_Set_All_l1_nf (yield_f1 : Nat) (yield_c2 : Array Value) (free0_3 : Option Addr) (w : World) (R : Ending → World → Prop) (h :
  V.ptr free0_3 fun a4 =>
  ∃ A5, ∃ A5l, ∃ A5c, World.cell? w a4 = some (Value.slice A5 A5l A5c) ∧
  ∃ I6 : Int → World → Prop, ∃ μ7 : Int → World → Nat, I6 0 w ∧
  ∀ t7_8 (j9 : Nat → Value) (w10 : World), I6 t7_8 w10 →
  (V.sel (decide (t7_8 < ((A5l : Nat) : Int)))
  (V.when (decide ((0 : Int) ≤ t7_8 ∧ (t7_8 : Int) < ((A5l : Nat) : Int))) (V.ptr A5 fun a11 =>
  ∃ n12, World.cell? w10 (Addr.add a11 ((Int.toNat t7_8) * 1)) = some (Value.int .i64 n12) ∧
  V.when (V.hasB Try.prog yield_f1) (Calls Try.prog yield_f1 ⟨[(Value.int .i64 n12)] ++ Array.toList yield_c2⟩ w10 fun e14 w15 =>
  ∃ b13, e14 = Ending.returned (Value.bool b13) ∧
  V.sel (!b13)
  (R (Ending.returned undef) w15)
  (I6 (IntKind.wrap .i64 (t7_8 + 1)) w15 ∧ μ7 (IntKind.wrap .i64 (t7_8 + 1)) w15 < μ7 t7_8 w10))))
  (R (Ending.returned undef) w10))) :
  Calls Try.prog 67 #[(Value.func (.func yield_f1) #[] yield_c2), (Value.pointer free0_3)] w R :=
  V.calls_of_V ⟨V.assoc [(0, [7])], V.assoc []⟩ Try.func67 rfl (Eq.mp (by kernel_rfl) h)

theorem bitset_Set_inside_nf (s_1 : Option Addr) (i_2 : Int) (w : World) (R : Ending → World → Prop) (h :
  V.sel (decide (i_2 ≥ 0))
  (Calls Try.prog 28 #[(Value.pointer s_1)] w fun e4 w5 =>
  ∃ n3, e4 = Ending.returned (Value.int .i64 n3) ∧
  R (Ending.returned (Value.bool (decide (i_2 < n3)))) w5)
  (R (Ending.returned (Value.bool false)) w)) :
  Calls Try.prog 68 #[(Value.pointer s_1), (Value.int .i64 i_2)] w R :=
  V.calls_of_V ⟨V.assoc [], V.assoc []⟩ Try.func68 rfl (Eq.mp (by kernel_rfl) h)

theorem bitset_wordCount_nf (n_1 : Int) (w : World) (R : Ending → World → Prop) (h :
  V.lt (IntKind.wrap .i64 (Int.tdiv (IntKind.wrap .i64 (n_1 + 63)) 64)) fun x2 =>
  R (Ending.returned (Value.int .i64 x2)) w) :
  Calls Try.prog 69 #[(Value.int .i64 n_1)] w R :=
  V.calls_of_V ⟨V.assoc [], V.assoc []⟩ Try.func69 rfl (Eq.mp (by kernel_rfl) h)

theorem berthlaw01_two_nf (kind_1 : Int) (a_2 : Option Addr) (b_3 : Option Addr) (w : World) (R : Ending → World → Prop) (h :
  V.sel (kind_1 == 0)
  (Calls Try.prog 34 #[(Value.pointer a_2), (Value.pointer b_3)] w fun e5 w6 =>
  ∃ p4, e5 = Ending.returned (Value.pointer p4) ∧
  R (Ending.returned (Value.pointer p4)) w6)
  (V.sel (kind_1 == 1)
  (Calls Try.prog 33 #[(Value.pointer a_2), (Value.pointer b_3)] w fun e8 w9 =>
  ∃ p7, e8 = Ending.returned (Value.pointer p7) ∧
  R (Ending.returned (Value.pointer p7)) w9)
  (V.sel (kind_1 == 2)
  (Calls Try.prog 36 #[(Value.pointer a_2), (Value.pointer b_3)] w fun e11 w12 =>
  ∃ p10, e11 = Ending.returned (Value.pointer p10) ∧
  R (Ending.returned (Value.pointer p10)) w12)
  (V.sel (kind_1 == 3)
  (Calls Try.prog 35 #[(Value.pointer a_2), (Value.pointer b_3)] w fun e14 w15 =>
  ∃ p13, e14 = Ending.returned (Value.pointer p13) ∧
  R (Ending.returned (Value.pointer p13)) w15)
  (V.sel (kind_1 == 4)
  (Calls Try.prog 32 #[(Value.pointer a_2), (Value.pointer b_3)] w fun e17 w18 =>
  ∃ p16, e17 = Ending.returned (Value.pointer p16) ∧
  R (Ending.returned (Value.pointer p16)) w18)
  (Calls Try.prog 44 #[(Value.pointer a_2)] w fun e20 w21 =>
  ∃ p19, e20 = Ending.returned (Value.pointer p19) ∧
  R (Ending.returned (Value.pointer p19)) w21)))))) :
  Calls Try.prog 70 #[(Value.int .i64 kind_1), (Value.pointer a_2), (Value.pointer b_3)] w R :=
  V.calls_of_V ⟨V.assoc [], V.assoc []⟩ Try.func70 rfl (Eq.mp (by kernel_rfl) h)

theorem berthlaw01_turn_nf (s_1 : Option Addr) (i_2 : Int) (w : World) (R : Ending → World → Prop) (h :
  Calls Try.prog 41 #[(Value.pointer s_1), (Value.int .i64 i_2)] w fun e4 w5 =>
  ∃ b3, e4 = Ending.returned (Value.bool b3) ∧
  V.sel (!b3)
  (Calls Try.prog 42 #[(Value.pointer s_1), (Value.int .i64 i_2)] w5 fun e7 w8 =>
  ∃ b6, e7 = Ending.returned (Value.bool b6) ∧
  R (Ending.returned undef) w8)
  (R (Ending.returned undef) w5)) :
  Calls Try.prog 71 #[(Value.pointer s_1), (Value.int .i64 i_2)] w R :=
  V.calls_of_V ⟨V.assoc [], V.assoc []⟩ Try.func71 rfl (Eq.mp (by kernel_rfl) h)

theorem berthref01_New_nf (n_1 : Int) (w : World) (R : Ending → World → Prop) (h :
  V.sel (decide (n_1 < 0))
  ((∃ u2, World.cell? (World.alloc w (.cells #[(Value.int .i64 0), (Value.slice none 0 0)] 38)) (Addr.add ⟨Array.size (World.heap w), 0, none⟩ 0) = some u2) ∧ World.frozen? (World.alloc w (.cells #[(Value.int .i64 0), (Value.slice none 0 0)] 38)) (Addr.add ⟨Array.size (World.heap w), 0, none⟩ 0) = false ∧
  (∃ u3, World.cell? (World.setCell (World.alloc w (.cells #[(Value.int .i64 0), (Value.slice none 0 0)] 38)) (Addr.add ⟨Array.size (World.heap w), 0, none⟩ 0) (Value.int .i64 0)) (Addr.add ⟨Array.size (World.heap w), 0, none⟩ 1) = some u3) ∧ World.frozen? (World.setCell (World.alloc w (.cells #[(Value.int .i64 0), (Value.slice none 0 0)] 38)) (Addr.add ⟨Array.size (World.heap w), 0, none⟩ 0) (Value.int .i64 0)) (Addr.add ⟨Array.size (World.heap w), 0, none⟩ 1) = false ∧
  ∃ n4, World.cell? (World.setCell (World.setCell (World.alloc w (.cells #[(Value.int .i64 0), (Value.slice none 0 0)] 38)) (Addr.add ⟨Array.size (World.heap w), 0, none⟩ 0) (Value.int .i64 0)) (Addr.add ⟨Array.size (World.heap w), 0, none⟩ 1) (Value.slice none 0 0)) (Addr.add ⟨Array.size (World.heap w), 0, none⟩ 0) = some (Value.int .i64 n4) ∧
  ∃ A5, ∃ A5l, ∃ A5c, World.cell? (World.setCell (World.setCell (World.alloc w (.cells #[(Value.int .i64 0), (Value.slice none 0 0)] 38)) (Addr.add ⟨Array.size (World.heap w), 0, none⟩ 0) (Value.int .i64 0)) (Addr.add ⟨Array.size (World.heap w), 0, none⟩ 1) (Value.slice none 0 0)) (Addr.add ⟨Array.size (World.heap w), 0, none⟩ 1) = some (Value.slice A5 A5l A5c) ∧
  R (Ending.returned (Value.tuple #[(Value.agg #[(Value.int .i64 n4), (Value.slice A5 A5l A5c)]), (Value.int .i64 11)])) (World.setCell (World.setCell (World.alloc w (.cells #[(Value.int .i64 0), (Value.slice none 0 0)] 38)) (Addr.add ⟨Array.size (World.heap w), 0, none⟩ 0) (Value.int .i64 0)) (Addr.add ⟨Array.size (World.heap w), 0, none⟩ 1) (Value.slice none 0 0)))
  (V.sel (decide (n_1 > 65536))
  ((∃ u6, World.cell? (World.alloc w (.cells #[(Value.int .i64 0), (Value.slice none 0 0)] 38)) (Addr.add ⟨Array.size (World.heap w), 0, none⟩ 0) = some u6) ∧ World.frozen? (World.alloc w (.cells #[(Value.int .i64 0), (Value.slice none 0 0)] 38)) (Addr.add ⟨Array.size (World.heap w), 0, none⟩ 0) = false ∧
  (∃ u7, World.cell? (World.setCell (World.alloc w (.cells #[(Value.int .i64 0), (Value.slice none 0 0)] 38)) (Addr.add ⟨Array.size (World.heap w), 0, none⟩ 0) (Value.int .i64 0)) (Addr.add ⟨Array.size (World.heap w), 0, none⟩ 1) = some u7) ∧ World.frozen? (World.setCell (World.alloc w (.cells #[(Value.int .i64 0), (Value.slice none 0 0)] 38)) (Addr.add ⟨Array.size (World.heap w), 0, none⟩ 0) (Value.int .i64 0)) (Addr.add ⟨Array.size (World.heap w), 0, none⟩ 1) = false ∧
  ∃ n8, World.cell? (World.setCell (World.setCell (World.alloc w (.cells #[(Value.int .i64 0), (Value.slice none 0 0)] 38)) (Addr.add ⟨Array.size (World.heap w), 0, none⟩ 0) (Value.int .i64 0)) (Addr.add ⟨Array.size (World.heap w), 0, none⟩ 1) (Value.slice none 0 0)) (Addr.add ⟨Array.size (World.heap w), 0, none⟩ 0) = some (Value.int .i64 n8) ∧
  ∃ A9, ∃ A9l, ∃ A9c, World.cell? (World.setCell (World.setCell (World.alloc w (.cells #[(Value.int .i64 0), (Value.slice none 0 0)] 38)) (Addr.add ⟨Array.size (World.heap w), 0, none⟩ 0) (Value.int .i64 0)) (Addr.add ⟨Array.size (World.heap w), 0, none⟩ 1) (Value.slice none 0 0)) (Addr.add ⟨Array.size (World.heap w), 0, none⟩ 1) = some (Value.slice A9 A9l A9c) ∧
  R (Ending.returned (Value.tuple #[(Value.agg #[(Value.int .i64 n8), (Value.slice A9 A9l A9c)]), (Value.int .i64 11)])) (World.setCell (World.setCell (World.alloc w (.cells #[(Value.int .i64 0), (Value.slice none 0 0)] 38)) (Addr.add ⟨Array.size (World.heap w), 0, none⟩ 0) (Value.int .i64 0)) (Addr.add ⟨Array.size (World.heap w), 0, none⟩ 1) (Value.slice none 0 0)))
  ((∃ u10, World.cell? (World.alloc w (.cells #[(Value.int .i64 0), (Value.slice none 0 0)] 38)) (Addr.add ⟨Array.size (World.heap w), 0, none⟩ 0) = some u10) ∧ World.frozen? (World.alloc w (.cells #[(Value.int .i64 0), (Value.slice none 0 0)] 38)) (Addr.add ⟨Array.size (World.heap w), 0, none⟩ 0) = false ∧
  (∃ u11, World.cell? (World.setCell (World.alloc w (.cells #[(Value.int .i64 0), (Value.slice none 0 0)] 38)) (Addr.add ⟨Array.size (World.heap w), 0, none⟩ 0) (Value.int .i64 n_1)) (Addr.add ⟨Array.size (World.heap w), 0, none⟩ 1) = some u11) ∧ World.frozen? (World.setCell (World.alloc w (.cells #[(Value.int .i64 0), (Value.slice none 0 0)] 38)) (Addr.add ⟨Array.size (World.heap w), 0, none⟩ 0) (Value.int .i64 n_1)) (Addr.add ⟨Array.size (World.heap w), 0, none⟩ 1) = false ∧
  ∃ n12, World.cell? (World.setCell (World.setCell (World.alloc w (.cells #[(Value.int .i64 0), (Value.slice none 0 0)] 38)) (Addr.add ⟨Array.size (World.heap w), 0, none⟩ 0) (Value.int .i64 n_1)) (Addr.add ⟨Array.size (World.heap w), 0, none⟩ 1) (Value.slice none 0 0)) (Addr.add ⟨Array.size (World.heap w), 0, none⟩ 0) = some (Value.int .i64 n12) ∧
  ∃ A13, ∃ A13l, ∃ A13c, World.cell? (World.setCell (World.setCell (World.alloc w (.cells #[(Value.int .i64 0), (Value.slice none 0 0)] 38)) (Addr.add ⟨Array.size (World.heap w), 0, none⟩ 0) (Value.int .i64 n_1)) (Addr.add ⟨Array.size (World.heap w), 0, none⟩ 1) (Value.slice none 0 0)) (Addr.add ⟨Array.size (World.heap w), 0, none⟩ 1) = some (Value.slice A13 A13l A13c) ∧
  R (Ending.returned (Value.tuple #[(Value.agg #[(Value.int .i64 n12), (Value.slice A13 A13l A13c)]), (Value.int .i64 0)])) (World.setCell (World.setCell (World.alloc w (.cells #[(Value.int .i64 0), (Value.slice none 0 0)] 38)) (Addr.add ⟨Array.size (World.heap w), 0, none⟩ 0) (Value.int .i64 n_1)) (Addr.add ⟨Array.size (World.heap w), 0, none⟩ 1) (Value.slice none 0 0))))) :
  Calls Try.prog 72 #[(Value.int .i64 n_1)] w R :=
  V.calls_of_V ⟨V.assoc [], V.assoc []⟩ Try.func72 rfl (Eq.mp (by kernel_rfl) h)

theorem math_bits_OnesCount64_nf (x_1 : Int) (w : World) (R : Ending → World → Prop) (h :
  V.lt (IntKind.wrap .u64 ((IntKind.wrap .u64 ((BitVec.toNat (BitVec.ofInt 64 (Int.fdiv x_1 (2 ^ 1)) &&& BitVec.ofInt 64 6148914691236517205) : Nat) : Int)) + (IntKind.wrap .u64 ((BitVec.toNat (BitVec.ofInt 64 x_1 &&& BitVec.ofInt 64 6148914691236517205) : Nat) : Int)))) fun x2 =>
  V.lt (IntKind.wrap .u64 ((IntKind.wrap .u64 ((BitVec.toNat (BitVec.ofInt 64 (Int.fdiv x2 (2 ^ 2)) &&& BitVec.ofInt 64 3689348814741910323) : Nat) : Int)) + (IntKind.wrap .u64 ((BitVec.toNat (BitVec.ofInt 64 x2 &&& BitVec.ofInt 64 3689348814741910323) : Nat) : Int)))) fun x3 =>
  V.lt (IntKind.wrap .u64 ((BitVec.toNat (BitVec.ofInt 64 (IntKind.wrap .u64 ((Int.fdiv x3 (2 ^ 4)) + x3)) &&& BitVec.ofInt 64 1085102592571150095) : Nat) : Int)) fun x4 =>
  V.lt (IntKind.wrap .u64 (x4 + (Int.fdiv x4 (2 ^ 8)))) fun x5 =>
  V.lt (IntKind.wrap .u64 (x5 + (Int.fdiv x5 (2 ^ 16)))) fun x6 =>
  V.lt (IntKind.wrap .u64 (x6 + (Int.fdiv x6 (2 ^ 32)))) fun x7 =>
  V.lt (IntKind.wrap .i64 ((BitVec.toNat (BitVec.ofInt 64 (IntKind.wrap .i64 (x7)) &&& BitVec.ofInt 64 127) : Nat) : Int)) fun x8 =>
  R (Ending.returned (Value.int .i64 x8)) w) :
  Calls Try.prog 73 #[(Value.int .u64 x_1)] w R :=
  V.calls_of_V ⟨V.assoc [], V.assoc []⟩ Try.func73 rfl (Eq.mp (by kernel_rfl) h)

end Go.Proofs.Ytbaglnffgbnekaa
