/- Normal forms of the program's functions, printed by a program of mine; the kernel checks each. -/
import Derived.Test.YtbaglnffgbnekaaProg
import Derived.Test.YtbaglnffgbnekaaV2
set_option linter.unusedVariables false
set_option maxRecDepth 100000
namespace Go.Proofs.Ytbaglnffgbnekaa
open Go

theorem berthlaw01_BitsetNames_nf  (w : World) (R : Ending → World → Prop) (h :
  Calls Try.prog 11 #[(Value.int .i64 1)] w fun e2 w3 =>
  ∃ n1, e2 = Ending.returned (Value.int .i64 n1) ∧
  V.sel (n1 != 1)
  (R (Ending.returned (Value.bool false)) w3)
  (Calls Try.prog 11 #[(Value.int .i64 11)] w3 fun e5 w6 =>
  ∃ n4, e5 = Ending.returned (Value.int .i64 n4) ∧
  V.sel (n4 != 11)
  (R (Ending.returned (Value.bool false)) w6)
  (Calls Try.prog 11 #[(Value.int .i64 12)] w6 fun e8 w9 =>
  ∃ n7, e8 = Ending.returned (Value.int .i64 n7) ∧
  V.sel (n7 != 12)
  (R (Ending.returned (Value.bool false)) w9)
  (Calls Try.prog 11 #[(Value.int .i64 13)] w9 fun e11 w12 =>
  ∃ n10, e11 = Ending.returned (Value.int .i64 n10) ∧
  V.sel (n10 != 13)
  (R (Ending.returned (Value.bool false)) w12)
  (Calls Try.prog 11 #[(Value.int .i64 14)] w12 fun e14 w15 =>
  ∃ n13, e14 = Ending.returned (Value.int .i64 n13) ∧
  V.sel (n13 != 14)
  (R (Ending.returned (Value.bool false)) w15)
  (R (Ending.returned (Value.bool true)) w15)))))) :
  Calls Try.prog 3 #[] w R :=
  V.calls_of_R ⟨V.assoc [], V.assocP [], V.assocC [], V.assocS [], ⟨[], false⟩⟩ Try.func3 rfl (Eq.mp (by kernel_rfl) h)

theorem berthlaw01_BitsetLists_nf (x_1 : Int) (x_2 : Option Addr) (x_2l : Nat) (x_2c : Nat) (x_3 : Option Addr) (x_3l : Nat) (x_3c : Nat) (x_4 : Option Addr) (x_4l : Nat) (x_4c : Nat) (w : World) (R : Ending → World → Prop) (h :
  Calls Try.prog 12 #[] (World.alloc w (.cells #[(Value.int .i64 x_1), (Value.slice x_2 x_2l x_2c), (Value.slice x_3 x_3l x_3c), (Value.slice x_4 x_4l x_4c)] 27)) fun e6 w7 =>
  ∃ b5, e6 = Ending.returned (Value.bool b5) ∧
  V.sel (!b5)
  (Calls Try.prog 12 #[] w7 fun e9 w10 =>
  ∃ b8, e9 = Ending.returned (Value.bool b8) ∧
  R (Ending.returned (Value.bool b8)) w10)
  (∃ n11, World.cell? w7 (Addr.add ⟨Array.size (World.heap w), 0, none⟩ 0) = some (Value.int .i64 n11) ∧
  Calls Try.prog 13 #[(Value.int .i64 n11)] w7 fun e13 w14 =>
  ∃ b12, e13 = Ending.returned (Value.bool b12) ∧
  V.sel (!b12)
  (Calls Try.prog 12 #[] w14 fun e16 w17 =>
  ∃ b15, e16 = Ending.returned (Value.bool b15) ∧
  R (Ending.returned (Value.bool b15)) w17)
  (∃ A18, ∃ A18l, ∃ A18c, World.cell? w14 (Addr.add ⟨Array.size (World.heap w), 0, none⟩ 1) = some (Value.slice A18 A18l A18c) ∧
  V.when (decide ((0 : Int) ≤ 0 ∧ (0 : Int) ≤ (IntKind.wrap .i64 (((A18l : Nat) : Int) + 9)) ∧ ((IntKind.wrap .i64 (((A18l : Nat) : Int) + 9)) : Int) ≤ 281474976710656 ∧ (8 : Int) * (IntKind.wrap .i64 (((A18l : Nat) : Int) + 9)) ≤ 281474976710656)) (∃ I19 : Option Addr → Nat → Nat → Int → World → Prop, ∃ μ20 : Option Addr → Nat → Nat → Int → World → Nat, I19 (some ⟨Array.size (World.heap w14), 0, none⟩) 0 (Int.toNat (IntKind.wrap .i64 (((A18l : Nat) : Int) + 9))) 0 (World.alloc w14 (.cells ⟨V.rep (Int.toNat (IntKind.wrap .i64 (((A18l : Nat) : Int) + 9))) [(Value.int .i64 0)]⟩ 3)) ∧
  ∀ full_21 full_21l full_21c i_22 (j23 : Nat → Value) (w24 : World), I19 full_21 full_21l full_21c i_22 w24 →
  (∃ A25, ∃ A25l, ∃ A25c, World.cell? w24 (Addr.add ⟨Array.size (World.heap w), 0, none⟩ 1) = some (Value.slice A25 A25l A25c) ∧
  V.sel (decide (i_22 < ((A25l : Nat) : Int)))
  (∃ A26, ∃ A26l, ∃ A26c, World.cell? w24 (Addr.add ⟨Array.size (World.heap w), 0, none⟩ 1) = some (Value.slice A26 A26l A26c) ∧
  V.when (decide ((0 : Int) ≤ i_22 ∧ (i_22 : Int) < ((A26l : Nat) : Int))) (V.ptr A26 fun a27 =>
  ∃ n28, World.cell? w24 (Addr.add a27 ((Int.toNat i_22) * 1)) = some (Value.int .i64 n28) ∧
  V.sel (decide (n28 ≥ 0))
  (∃ A29, ∃ A29l, ∃ A29c, World.cell? w24 (Addr.add ⟨Array.size (World.heap w), 0, none⟩ 1) = some (Value.slice A29 A29l A29c) ∧
  V.when (decide ((0 : Int) ≤ i_22 ∧ (i_22 : Int) < ((A29l : Nat) : Int))) (V.ptr A29 fun a30 =>
  ∃ n31, World.cell? w24 (Addr.add a30 ((Int.toNat i_22) * 1)) = some (Value.int .i64 n31) ∧
  ∃ n32, World.cell? w24 (Addr.add ⟨Array.size (World.heap w), 0, none⟩ 0) = some (Value.int .i64 n32) ∧
  V.sel (decide (n31 < n32))
  (∃ A33, ∃ A33l, ∃ A33c, World.cell? (World.drew w24) (Addr.add ⟨Array.size (World.heap w), 0, none⟩ 1) = some (Value.slice A33 A33l A33c) ∧
  V.when (decide ((0 : Int) ≤ i_22 ∧ (i_22 : Int) < ((A33l : Nat) : Int))) (V.ptr A33 fun a34 =>
  ∃ n35, World.cell? (World.drew w24) (Addr.add a34 ((Int.toNat i_22) * 1)) = some (Value.int .i64 n35) ∧
  ∃ A36, ∃ A36l, ∃ A36c, ∃ w37, Sem.run Try.prog (Builtin.append_ #[25, 25] 25 #[(Value.slice full_21 full_21l full_21c), (Value.slice (some ⟨Array.size (World.heap (World.drew w24)), 0, none⟩) 1 1)]) (World.alloc (World.drew w24) (.cells #[(Value.int .i64 n35)] 3)) = .ok (Value.slice A36 A36l A36c) w37 ∧
  I19 A36 A36l A36c (IntKind.wrap .i64 (i_22 + 1)) w37 ∧ μ20 A36 A36l A36c (IntKind.wrap .i64 (i_22 + 1)) w37 < μ20 full_21 full_21l full_21c i_22 w24))
  (I19 full_21 full_21l full_21c (IntKind.wrap .i64 (i_22 + 1)) (World.drew w24) ∧ μ20 full_21 full_21l full_21c (IntKind.wrap .i64 (i_22 + 1)) (World.drew w24) < μ20 full_21 full_21l full_21c i_22 w24)))
  (I19 full_21 full_21l full_21c (IntKind.wrap .i64 (i_22 + 1)) (World.drew w24) ∧ μ20 full_21 full_21l full_21c (IntKind.wrap .i64 (i_22 + 1)) (World.drew w24) < μ20 full_21 full_21l full_21c i_22 w24)))
  (∃ I38 : Option Addr → Nat → Nat → Int → World → Prop, ∃ μ39 : Option Addr → Nat → Nat → Int → World → Nat, I38 full_21 full_21l full_21c 0 w24 ∧
  ∀ full_40 full_40l full_40c k_41 (j42 : Nat → Value) (w43 : World), I38 full_40 full_40l full_40c k_41 w43 →
  (V.sel (decide (k_41 < 9))
  (∃ A44, ∃ A44l, ∃ A44c, ∃ w45, Sem.run Try.prog (Builtin.append_ #[25, 25] 25 #[(Value.slice full_40 full_40l full_40c), (Value.slice (some ⟨Array.size (World.heap w43), 0, none⟩) 1 1)]) (World.alloc w43 (.cells #[(Value.int .i64 (IntKind.wrap .i64 ((-7) - k_41)))] 3)) = .ok (Value.slice A44 A44l A44c) w45 ∧
  I38 A44 A44l A44c (IntKind.wrap .i64 (k_41 + 1)) w45 ∧ μ39 A44 A44l A44c (IntKind.wrap .i64 (k_41 + 1)) w45 < μ39 full_40 full_40l full_40c k_41 w43)
  (Calls Try.prog 14 #[(Value.slice full_40 full_40l full_40c)] w43 fun e47 w48 =>
  ∃ A46, ∃ A46l, ∃ A46c, e47 = Ending.returned (Value.slice A46 A46l A46c) ∧
  ∃ S49 : World → Prop, S49 (World.drew w48) ∧
  ∃ n51, (∀ w50, S49 w50 → World.cell? w50 (Addr.add ⟨Array.size (World.heap w), 0, none⟩ 0) = some (Value.int .i64 n51)) ∧
  V.when (decide ((0 : Int) ≤ ((full_21l : Nat) : Int) ∧ (((full_21l : Nat) : Int) : Int) ≤ ((full_40c : Nat) : Int))) (Calls Try.prog 15 #[(Value.int .i64 n51), (Value.slice (V.cut full_40 full_40c 0 1) ((full_21l : Nat) - 0) (full_40c - 0))] (World.drew w48) fun e54 w55 =>
  ∃ p52, ∃ n53, e54 = Ending.returned (Value.tuple #[(Value.pointer p52), (Value.int .i64 n53)]) ∧
  S49 w55 ∧
  ∃ S56 : World → Prop, S56 (World.drew w55) ∧
  ∃ n58, (∀ w57, S56 w57 → World.cell? w57 (Addr.add ⟨Array.size (World.heap w), 0, none⟩ 0) = some (Value.int .i64 n58)) ∧
  V.when (decide ((0 : Int) ≤ ((full_21l : Nat) : Int) ∧ (((full_21l : Nat) : Int) : Int) ≤ ((full_40c : Nat) : Int))) (Calls Try.prog 15 #[(Value.int .i64 n58), (Value.slice (V.cut full_40 full_40c 0 1) ((full_21l : Nat) - 0) (full_40c - 0))] (World.drew w55) fun e61 w62 =>
  ∃ p59, ∃ n60, e61 = Ending.returned (Value.tuple #[(Value.pointer p59), (Value.int .i64 n60)]) ∧
  S56 w62 ∧
  ∃ n63, World.cell? w62 (Addr.add ⟨Array.size (World.heap w), 0, none⟩ 0) = some (Value.int .i64 n63) ∧
  ∃ A64, ∃ A64l, ∃ A64c, World.cell? w62 (Addr.add ⟨Array.size (World.heap w), 0, none⟩ 2) = some (Value.slice A64 A64l A64c) ∧
  Calls Try.prog 16 #[(Value.int .i64 n63), (Value.slice A64 A64l A64c)] w62 fun e66 w67 =>
  ∃ p65, e66 = Ending.returned (Value.pointer p65) ∧
  Calls Try.prog 17 #[(Value.slice (some ⟨Array.size (World.heap w67), 0, none⟩) 3 3)] (World.alloc w67 (.cells #[(Value.pointer p52), (Value.pointer p59), (Value.pointer p65)] 30)) fun e69 w70 =>
  ∃ b68, e69 = Ending.returned (Value.bool b68) ∧
  V.sel (!b68)
  (R (Ending.returned (Value.bool false)) w70)
  (Calls Try.prog 18 #[(Value.slice full_40 full_40l full_40c), (Value.slice A46 A46l A46c)] w70 fun e72 w73 =>
  ∃ b71, e72 = Ending.returned (Value.bool b71) ∧
  V.sel (!b71)
  (R (Ending.returned (Value.bool false)) w73)
  (∃ S74 : World → Prop, S74 (World.drew w73) ∧
  ∃ n76, (∀ w75, S74 w75 → World.cell? w75 (Addr.add ⟨Array.size (World.heap w), 0, none⟩ 0) = some (Value.int .i64 n76)) ∧
  V.when (decide ((0 : Int) ≤ ((full_21l : Nat) : Int) ∧ (((full_21l : Nat) : Int) : Int) ≤ ((full_40c : Nat) : Int))) (Calls Try.prog 20 #[(Value.int .i64 n76), (Value.slice (V.cut full_40 full_40c 0 1) ((full_21l : Nat) - 0) (full_40c - 0))] (World.drew w73) fun e79 w80 =>
  ∃ n77, ∃ A78, ∃ A78l, ∃ A78c, e79 = Ending.returned (Value.agg #[(Value.int .i64 n77), (Value.slice A78 A78l A78c)]) ∧
  S74 w80 ∧
  Calls Try.prog 19 #[(Value.agg #[(Value.int .i64 n77), (Value.slice A78 A78l A78c)])] w80 fun e82 w83 =>
  ∃ A81, ∃ A81l, ∃ A81c, e82 = Ending.returned (Value.slice A81 A81l A81c) ∧
  S74 w83 ∧
  Calls Try.prog 21 #[(Value.pointer p65)] w83 fun e85 w86 =>
  ∃ A84, ∃ A84l, ∃ A84c, e85 = Ending.returned (Value.slice A84 A84l A84c) ∧
  S74 w86 ∧
  ∃ I87 : Int → World → Prop, ∃ μ88 : Int → World → Nat, I87 0 w86 ∧
  ∀ i_89 (j90 : Nat → Value) (w91 : World), I87 i_89 w91 →
  (V.sel (decide (i_89 < ((full_40l : Nat) : Int)))
  (V.when (decide ((0 : Int) ≤ i_89 ∧ (i_89 : Int) < ((full_40l : Nat) : Int))) (V.ptr full_40 fun a92 =>
  (∃ u93, World.cell? w91 (Addr.add (Addr.add a92 ((Int.toNat i_89) * 1)) 0) = some u93) ∧ World.frozen? w91 (Addr.add (Addr.add a92 ((Int.toNat i_89) * 1)) 0) = false ∧
  I87 (IntKind.wrap .i64 (i_89 + 1)) (World.setCell w91 (Addr.add (Addr.add a92 ((Int.toNat i_89) * 1)) 0) (Value.int .i64 0)) ∧ μ88 (IntKind.wrap .i64 (i_89 + 1)) (World.setCell w91 (Addr.add (Addr.add a92 ((Int.toNat i_89) * 1)) 0) (Value.int .i64 0)) < μ88 i_89 w91))
  (Calls Try.prog 21 #[(Value.pointer p52)] w91 fun e95 w96 =>
  ∃ A94, ∃ A94l, ∃ A94c, e95 = Ending.returned (Value.slice A94 A94l A94c) ∧
  Calls Try.prog 21 #[(Value.pointer p52)] w96 fun e98 w99 =>
  ∃ A97, ∃ A97l, ∃ A97c, e98 = Ending.returned (Value.slice A97 A97l A97c) ∧
  Calls Try.prog 21 #[(Value.pointer p59)] w99 fun e101 w102 =>
  ∃ A100, ∃ A100l, ∃ A100c, e101 = Ending.returned (Value.slice A100 A100l A100c) ∧
  Calls Try.prog 21 #[(Value.pointer p65)] w102 fun e104 w105 =>
  ∃ A103, ∃ A103l, ∃ A103c, e104 = Ending.returned (Value.slice A103 A103l A103c) ∧
  Calls Try.prog 18 #[(Value.slice A94 A94l A94c), (Value.slice A81 A81l A81c)] w105 fun e107 w108 =>
  ∃ b106, e107 = Ending.returned (Value.bool b106) ∧
  V.sel (!b106)
  (R (Ending.returned (Value.bool false)) w108)
  (Calls Try.prog 18 #[(Value.slice A97 A97l A97c), (Value.slice A81 A81l A81c)] w108 fun e110 w111 =>
  ∃ b109, e110 = Ending.returned (Value.bool b109) ∧
  V.sel (!b109)
  (R (Ending.returned (Value.bool false)) w111)
  (Calls Try.prog 18 #[(Value.slice A100 A100l A100c), (Value.slice A81 A81l A81c)] w111 fun e113 w114 =>
  ∃ b112, e113 = Ending.returned (Value.bool b112) ∧
  V.sel (!b112)
  (R (Ending.returned (Value.bool false)) w114)
  (Calls Try.prog 18 #[(Value.slice A103 A103l A103c), (Value.slice A84 A84l A84c)] w114 fun e116 w117 =>
  ∃ b115, e116 = Ending.returned (Value.bool b115) ∧
  V.sel (!b115)
  (R (Ending.returned (Value.bool false)) w117)
  (Calls Try.prog 22 #[(Value.slice (some ⟨Array.size (World.heap w117), 0, none⟩) 5 5)] (World.alloc w117 (.cells #[(Value.slice A94 A94l A94c), (Value.slice A97 A97l A97c), (Value.slice A84 A84l A84c), (Value.slice A100 A100l A100c), (Value.slice A103 A103l A103c)] 25)) fun e119 w120 =>
  ∃ b118, e119 = Ending.returned (Value.bool b118) ∧
  V.sel (!b118)
  (R (Ending.returned (Value.bool false)) w120)
  (Calls Try.prog 21 #[(Value.pointer p52)] w120 fun e122 w123 =>
  ∃ A121, ∃ A121l, ∃ A121c, e122 = Ending.returned (Value.slice A121 A121l A121c) ∧
  Calls Try.prog 18 #[(Value.slice A121 A121l A121c), (Value.slice A81 A81l A81c)] w123 fun e125 w126 =>
  ∃ b124, e125 = Ending.returned (Value.bool b124) ∧
  V.sel b124
  (∃ n127, World.cell? w126 (Addr.add ⟨Array.size (World.heap w), 0, none⟩ 0) = some (Value.int .i64 n127) ∧
  Calls Try.prog 23 #[(Value.pointer p52), (Value.int .i64 n127)] w126 fun e129 w130 =>
  ∃ b128, e129 = Ending.returned (Value.bool b128) ∧
  R (Ending.returned (Value.bool b128)) w130)
  (R (Ending.returned (Value.bool false)) w126))))))))))))))))))))) :
  Calls Try.prog 4 #[(Value.agg #[(Value.int .i64 x_1), (Value.slice x_2 x_2l x_2c), (Value.slice x_3 x_3l x_3c), (Value.slice x_4 x_4l x_4c)])] w R :=
  V.calls_of_R ⟨V.assoc [(0, [3, 4]), (1, [3, 6]), (2, [15])], V.assocP [(7, V.line [0, 1, 2, 3, 4, 5, 6, 7, 8, 9, 10, 11, 12, 13, 14, 15]), (15, V.line [0, 1, 2, 3, 4, 5, 6, 7, 8, 9, 10]), (16, V.line [0, 1, 2, 3, 4, 5, 6, 7, 8, 9, 10]), (20, V.line [0, 1, 2, 3, 4, 7, 5, 6, 8, 9, 10])], V.assocC [], V.assocS [], ⟨[], false⟩⟩ Try.func4 rfl (Eq.mp (by kernel_rfl) h)

theorem berthlaw01_BitsetWords_nf (x_1 : Int) (x_2 : Option Addr) (x_2l : Nat) (x_2c : Nat) (x_3 : Option Addr) (x_3l : Nat) (x_3c : Nat) (x_4 : Option Addr) (x_4l : Nat) (x_4c : Nat) (w : World) (R : Ending → World → Prop) (h :
  Calls Try.prog 12 #[] (World.alloc w (.cells #[(Value.int .i64 x_1), (Value.slice x_2 x_2l x_2c), (Value.slice x_3 x_3l x_3c), (Value.slice x_4 x_4l x_4c)] 27)) fun e6 w7 =>
  ∃ b5, e6 = Ending.returned (Value.bool b5) ∧
  V.sel (!b5)
  (R (Ending.returned (Value.bool false)) w7)
  (∃ n8, World.cell? w7 (Addr.add ⟨Array.size (World.heap w), 0, none⟩ 0) = some (Value.int .i64 n8) ∧
  Calls Try.prog 13 #[(Value.int .i64 n8)] w7 fun e10 w11 =>
  ∃ b9, e10 = Ending.returned (Value.bool b9) ∧
  V.sel (!b9)
  (∃ n12, World.cell? w11 (Addr.add ⟨Array.size (World.heap w), 0, none⟩ 0) = some (Value.int .i64 n12) ∧
  Calls Try.prog 24 #[(Value.int .i64 n12), (Value.slice none 0 0)] w11 fun e15 w16 =>
  ∃ p13, ∃ n14, e15 = Ending.returned (Value.tuple #[(Value.pointer p13), (Value.int .i64 n14)]) ∧
  Calls Try.prog 11 #[(Value.int .i64 n14)] w16 fun e18 w19 =>
  ∃ n17, e18 = Ending.returned (Value.int .i64 n17) ∧
  R (Ending.returned (Value.bool (n17 == 11))) w19)
  (∃ n20, World.cell? w11 (Addr.add ⟨Array.size (World.heap w), 0, none⟩ 0) = some (Value.int .i64 n20) ∧
  ∃ A21, ∃ A21l, ∃ A21c, World.cell? w11 (Addr.add ⟨Array.size (World.heap w), 0, none⟩ 1) = some (Value.slice A21 A21l A21c) ∧
  Calls Try.prog 16 #[(Value.int .i64 n20), (Value.slice A21 A21l A21c)] w11 fun e23 w24 =>
  ∃ p22, e23 = Ending.returned (Value.pointer p22) ∧
  V.sel (Option.isNone p22)
  (R (Ending.returned (Value.bool false)) w24)
  (Calls Try.prog 25 #[(Value.pointer p22)] w24 fun e26 w27 =>
  ∃ A25, ∃ A25l, ∃ A25c, e26 = Ending.returned (Value.slice A25 A25l A25c) ∧
  ∃ S28 : World → Prop, S28 (World.drew w27) ∧
  ∃ n30, (∀ w29, S28 w29 → World.cell? w29 (Addr.add ⟨Array.size (World.heap w), 0, none⟩ 0) = some (Value.int .i64 n30)) ∧
  Calls Try.prog 26 #[(Value.slice A25 A25l A25c)] (World.drew w27) fun e32 w33 =>
  ∃ A31, ∃ A31l, ∃ A31c, e32 = Ending.returned (Value.slice A31 A31l A31c) ∧
  S28 w33 ∧
  Calls Try.prog 24 #[(Value.int .i64 n30), (Value.slice A31 A31l A31c)] w33 fun e36 w37 =>
  ∃ p34, ∃ n35, e36 = Ending.returned (Value.tuple #[(Value.pointer p34), (Value.int .i64 n35)]) ∧
  S28 w37 ∧
  ∃ S38 : World → Prop, S38 (World.drew w37) ∧
  Calls Try.prog 11 #[(Value.int .i64 n35)] (World.drew w37) fun e41 w42 =>
  ∃ n40, e41 = Ending.returned (Value.int .i64 n40) ∧
  S38 w42 ∧
  V.sel (n40 != 0)
  (R (Ending.returned (Value.bool false)) w42)
  (V.sel (Option.isNone p34)
  (R (Ending.returned (Value.bool false)) w42)
  (Calls Try.prog 27 #[(Value.pointer p22), (Value.pointer p34)] w42 fun e44 w45 =>
  ∃ b43, e44 = Ending.returned (Value.bool b43) ∧
  S38 w45 ∧
  V.sel (!b43)
  (R (Ending.returned (Value.bool false)) w45)
  (∃ n46, (∀ w39, S38 w39 → World.cell? w39 (Addr.add ⟨Array.size (World.heap w), 0, none⟩ 0) = some (Value.int .i64 n46)) ∧
  Calls Try.prog 28 #[(Value.pointer p34)] w45 fun e48 w49 =>
  ∃ n47, e48 = Ending.returned (Value.int .i64 n47) ∧
  S38 w49 ∧
  V.sel (n47 != n46)
  (R (Ending.returned (Value.bool false)) w49)
  (∃ n50, (∀ w39, S38 w39 → World.cell? w39 (Addr.add ⟨Array.size (World.heap w), 0, none⟩ 0) = some (Value.int .i64 n50)) ∧
  V.sel (((A25l : Nat) : Int) != (IntKind.wrap .i64 (Int.tdiv (IntKind.wrap .i64 (n50 + 63)) 64)))
  (R (Ending.returned (Value.bool false)) w49)
  (∃ I51 : Int → Int → World → Prop, ∃ μ52 : Int → Int → World → Nat, I51 0 0 w49 ∧
  ∀ n_53 i_54 (j55 : Nat → Value) (w56 : World), I51 n_53 i_54 w56 →
  (V.sel (decide (i_54 < ((A25l : Nat) : Int)))
  (V.when (decide ((0 : Int) ≤ i_54 ∧ (i_54 : Int) < ((A25l : Nat) : Int))) (V.ptr A25 fun a57 =>
  ∃ n58, World.cell? w56 (Addr.add a57 ((Int.toNat i_54) * 1)) = some (Value.int .u64 n58) ∧
  ∃ I59 : Int → Int → World → Prop, ∃ μ60 : Int → Int → World → Nat, I59 n_53 n58 w56 ∧
  ∀ n_61 v_62 (j63 : Nat → Value) (w64 : World), I59 n_61 v_62 w64 →
  (V.sel (v_62 != 0)
  (V.lt (IntKind.wrap .u64 ((BitVec.toNat (BitVec.ofInt 64 v_62 &&& BitVec.ofInt 64 (IntKind.wrap .u64 (v_62 - 1))) : Nat) : Int)) fun x65 =>
  I59 (IntKind.wrap .i64 (n_61 + 1)) x65 w64 ∧ μ60 (IntKind.wrap .i64 (n_61 + 1)) x65 w64 < μ60 n_61 v_62 w64)
  (I51 n_61 (IntKind.wrap .i64 (i_54 + 1)) w64 ∧ μ52 n_61 (IntKind.wrap .i64 (i_54 + 1)) w64 < μ52 n_53 i_54 w56))))
  (Calls Try.prog 29 #[(Value.pointer p22)] w56 fun e67 w68 =>
  ∃ n66, e67 = Ending.returned (Value.int .i64 n66) ∧
  V.sel (n_53 != n66)
  (R (Ending.returned (Value.bool false)) w68)
  (Calls Try.prog 21 #[(Value.pointer p22)] w68 fun e70 w71 =>
  ∃ A69, ∃ A69l, ∃ A69c, e70 = Ending.returned (Value.slice A69 A69l A69c) ∧
  ∃ I72 : Int → World → Prop, ∃ μ73 : Int → World → Nat, I72 0 w71 ∧
  ∀ i_74 (j75 : Nat → Value) (w76 : World), I72 i_74 w76 →
  (V.sel (decide (i_74 < ((A69l : Nat) : Int)))
  (V.when (decide ((0 : Int) ≤ i_74 ∧ (i_74 : Int) < ((A69l : Nat) : Int))) (V.ptr A69 fun a77 =>
  ∃ n78, World.cell? w76 (Addr.add a77 ((Int.toNat i_74) * 1)) = some (Value.int .i64 n78) ∧
  V.sel (decide (n78 < 0))
  (R (Ending.returned (Value.bool false)) (World.drew w76))
  (V.when (decide ((0 : Int) ≤ i_74 ∧ (i_74 : Int) < ((A69l : Nat) : Int))) (V.ptr A69 fun a79 =>
  ∃ n80, World.cell? w76 (Addr.add a79 ((Int.toNat i_74) * 1)) = some (Value.int .i64 n80) ∧
  ∃ n81, World.cell? w76 (Addr.add ⟨Array.size (World.heap w), 0, none⟩ 0) = some (Value.int .i64 n81) ∧
  V.sel (decide (n80 ≥ n81))
  (R (Ending.returned (Value.bool false)) (World.drew w76))
  (V.when (decide ((0 : Int) ≤ i_74 ∧ (i_74 : Int) < ((A69l : Nat) : Int))) (V.ptr A69 fun a82 =>
  ∃ n83, World.cell? w76 (Addr.add a82 ((Int.toNat i_74) * 1)) = some (Value.int .i64 n83) ∧
  V.when (decide ((0 : Int) ≤ (IntKind.wrap .i64 (Int.tdiv n83 64)) ∧ ((IntKind.wrap .i64 (Int.tdiv n83 64)) : Int) < ((A25l : Nat) : Int))) (V.ptr A25 fun a84 =>
  ∃ n85, World.cell? w76 (Addr.add a84 ((Int.toNat (IntKind.wrap .i64 (Int.tdiv n83 64))) * 1)) = some (Value.int .u64 n85) ∧
  V.when (decide ((0 : Int) ≤ i_74 ∧ (i_74 : Int) < ((A69l : Nat) : Int))) (V.ptr A69 fun a86 =>
  ∃ n87, World.cell? w76 (Addr.add a86 ((Int.toNat i_74) * 1)) = some (Value.int .i64 n87) ∧
  V.when (decide (0 ≤ (IntKind.wrap .u64 ((Int.tmod n87 64))))) (V.sel ((IntKind.wrap .u64 ((BitVec.toNat (BitVec.ofInt 64 (Int.fdiv n85 (2 ^ (min (Int.toNat (IntKind.wrap .u64 ((Int.tmod n87 64)))) 64))) &&& BitVec.ofInt 64 1) : Nat) : Int)) != 1)
  (R (Ending.returned (Value.bool false)) (World.drew w76))
  (I72 (IntKind.wrap .i64 (i_74 + 1)) (World.drew w76) ∧ μ73 (IntKind.wrap .i64 (i_74 + 1)) (World.drew w76) < μ73 i_74 w76))))))))))
  (∃ n88, World.cell? w76 (Addr.add ⟨Array.size (World.heap w), 0, none⟩ 0) = some (Value.int .i64 n88) ∧
  Calls Try.prog 30 #[(Value.int .i64 n88), (Value.slice A25 A25l A25c)] w76 fun e90 w91 =>
  ∃ b89, e90 = Ending.returned (Value.bool b89) ∧
  R (Ending.returned (Value.bool b89)) w91)))))))))))))) :
  Calls Try.prog 5 #[(Value.agg #[(Value.int .i64 x_1), (Value.slice x_2 x_2l x_2c), (Value.slice x_3 x_3l x_3c), (Value.slice x_4 x_4l x_4c)])] w R :=
  V.calls_of_R ⟨V.assoc [(0, [9, 10]), (1, [9, 11]), (2, [13])], V.assocP [(10, V.line [0, 1, 2, 3, 4, 5, 6, 7, 8, 9]), (11, V.line [0, 1, 2, 3, 4, 5, 6, 7, 8, 9, 10, 11, 12, 13, 14, 16, 17, 15, 18, 19, 20, 21, 22, 23, 24, 25, 26, 27, 28]), (27, V.line [0, 1, 2, 3, 4, 5, 6, 7, 8, 9, 10, 11, 12, 13, 14, 15, 16, 17, 18, 19, 20, 21, 22, 23, 24, 25, 26, 27, 28, 29, 30, 31, 32])], V.assocC [], V.assocS [], ⟨[], false⟩⟩ Try.func5 rfl (Eq.mp (by kernel_rfl) h)

theorem berthlaw01_BitsetAlgebra_nf (x_1 : Int) (x_2 : Option Addr) (x_2l : Nat) (x_2c : Nat) (x_3 : Option Addr) (x_3l : Nat) (x_3c : Nat) (x_4 : Option Addr) (x_4l : Nat) (x_4c : Nat) (w : World) (R : Ending → World → Prop) (h :
  Calls Try.prog 12 #[] (World.alloc w (.cells #[(Value.int .i64 x_1), (Value.slice x_2 x_2l x_2c), (Value.slice x_3 x_3l x_3c), (Value.slice x_4 x_4l x_4c)] 27)) fun e6 w7 =>
  ∃ b5, e6 = Ending.returned (Value.bool b5) ∧
  V.sel (!b5)
  (R (Ending.returned (Value.bool false)) w7)
  (∃ n8, World.cell? w7 (Addr.add ⟨Array.size (World.heap w), 0, none⟩ 0) = some (Value.int .i64 n8) ∧
  Calls Try.prog 13 #[(Value.int .i64 n8)] w7 fun e10 w11 =>
  ∃ b9, e10 = Ending.returned (Value.bool b9) ∧
  V.sel (!b9)
  (∃ n12, World.cell? w11 (Addr.add ⟨Array.size (World.heap w), 0, none⟩ 0) = some (Value.int .i64 n12) ∧
  Calls Try.prog 31 #[(Value.int .i64 n12)] w11 fun e15 w16 =>
  ∃ p13, ∃ n14, e15 = Ending.returned (Value.tuple #[(Value.pointer p13), (Value.int .i64 n14)]) ∧
  Calls Try.prog 11 #[(Value.int .i64 n14)] w16 fun e18 w19 =>
  ∃ n17, e18 = Ending.returned (Value.int .i64 n17) ∧
  R (Ending.returned (Value.bool (n17 == 11))) w19)
  (∃ S20 : World → Prop, S20 (World.drew w11) ∧
  ∃ n22, (∀ w21, S20 w21 → World.cell? w21 (Addr.add ⟨Array.size (World.heap w), 0, none⟩ 0) = some (Value.int .i64 n22)) ∧
  ∃ A23, ∃ A23l, ∃ A23c, (∀ w21, S20 w21 → World.cell? w21 (Addr.add ⟨Array.size (World.heap w), 0, none⟩ 1) = some (Value.slice A23 A23l A23c)) ∧
  ∃ n24, (∀ w21, S20 w21 → World.cell? w21 (Addr.add ⟨Array.size (World.heap w), 0, none⟩ 0) = some (Value.int .i64 n24)) ∧
  ∃ A25, ∃ A25l, ∃ A25c, (∀ w21, S20 w21 → World.cell? w21 (Addr.add ⟨Array.size (World.heap w), 0, none⟩ 2) = some (Value.slice A25 A25l A25c)) ∧
  ∃ n26, (∀ w21, S20 w21 → World.cell? w21 (Addr.add ⟨Array.size (World.heap w), 0, none⟩ 0) = some (Value.int .i64 n26)) ∧
  ∃ A27, ∃ A27l, ∃ A27c, (∀ w21, S20 w21 → World.cell? w21 (Addr.add ⟨Array.size (World.heap w), 0, none⟩ 3) = some (Value.slice A27 A27l A27c)) ∧
  Calls Try.prog 16 #[(Value.int .i64 n22), (Value.slice A23 A23l A23c)] (World.drew w11) fun e29 w30 =>
  ∃ p28, e29 = Ending.returned (Value.pointer p28) ∧
  S20 w30 ∧
  Calls Try.prog 16 #[(Value.int .i64 n24), (Value.slice A25 A25l A25c)] w30 fun e32 w33 =>
  ∃ p31, e32 = Ending.returned (Value.pointer p31) ∧
  S20 w33 ∧
  Calls Try.prog 16 #[(Value.int .i64 n26), (Value.slice A27 A27l A27c)] w33 fun e35 w36 =>
  ∃ p34, e35 = Ending.returned (Value.pointer p34) ∧
  S20 w36 ∧
  Calls Try.prog 17 #[(Value.slice (some ⟨Array.size (World.heap w36), 0, none⟩) 3 3)] (World.alloc w36 (.cells #[(Value.pointer p28), (Value.pointer p31), (Value.pointer p34)] 30)) fun e38 w39 =>
  ∃ b37, e38 = Ending.returned (Value.bool b37) ∧
  V.sel (!b37)
  (R (Ending.returned (Value.bool false)) w39)
  (Calls Try.prog 33 #[(Value.pointer p28), (Value.pointer p31)] w39 fun e41 w42 =>
  ∃ p40, e41 = Ending.returned (Value.pointer p40) ∧
  Calls Try.prog 32 #[(Value.pointer p40), (Value.pointer p34)] w42 fun e44 w45 =>
  ∃ p43, e44 = Ending.returned (Value.pointer p43) ∧
  Calls Try.prog 32 #[(Value.pointer p28), (Value.pointer p34)] w45 fun e47 w48 =>
  ∃ p46, e47 = Ending.returned (Value.pointer p46) ∧
  Calls Try.prog 32 #[(Value.pointer p31), (Value.pointer p34)] w48 fun e50 w51 =>
  ∃ p49, e50 = Ending.returned (Value.pointer p49) ∧
  Calls Try.prog 34 #[(Value.pointer p46), (Value.pointer p49)] w51 fun e53 w54 =>
  ∃ p52, e53 = Ending.returned (Value.pointer p52) ∧
  Calls Try.prog 27 #[(Value.pointer p43), (Value.pointer p52)] w54 fun e56 w57 =>
  ∃ b55, e56 = Ending.returned (Value.bool b55) ∧
  V.sel (!b55)
  (R (Ending.returned (Value.bool false)) w57)
  (Calls Try.prog 34 #[(Value.pointer p28), (Value.pointer p31)] w57 fun e59 w60 =>
  ∃ p58, e59 = Ending.returned (Value.pointer p58) ∧
  Calls Try.prog 32 #[(Value.pointer p58), (Value.pointer p34)] w60 fun e62 w63 =>
  ∃ p61, e62 = Ending.returned (Value.pointer p61) ∧
  Calls Try.prog 32 #[(Value.pointer p28), (Value.pointer p34)] w63 fun e65 w66 =>
  ∃ p64, e65 = Ending.returned (Value.pointer p64) ∧
  Calls Try.prog 32 #[(Value.pointer p31), (Value.pointer p34)] w66 fun e68 w69 =>
  ∃ p67, e68 = Ending.returned (Value.pointer p67) ∧
  Calls Try.prog 33 #[(Value.pointer p64), (Value.pointer p67)] w69 fun e71 w72 =>
  ∃ p70, e71 = Ending.returned (Value.pointer p70) ∧
  Calls Try.prog 27 #[(Value.pointer p61), (Value.pointer p70)] w72 fun e74 w75 =>
  ∃ b73, e74 = Ending.returned (Value.bool b73) ∧
  V.sel (!b73)
  (R (Ending.returned (Value.bool false)) w75)
  (Calls Try.prog 33 #[(Value.pointer p31), (Value.pointer p34)] w75 fun e77 w78 =>
  ∃ p76, e77 = Ending.returned (Value.pointer p76) ∧
  Calls Try.prog 34 #[(Value.pointer p28), (Value.pointer p76)] w78 fun e80 w81 =>
  ∃ p79, e80 = Ending.returned (Value.pointer p79) ∧
  Calls Try.prog 34 #[(Value.pointer p28), (Value.pointer p31)] w81 fun e83 w84 =>
  ∃ p82, e83 = Ending.returned (Value.pointer p82) ∧
  Calls Try.prog 34 #[(Value.pointer p28), (Value.pointer p34)] w84 fun e86 w87 =>
  ∃ p85, e86 = Ending.returned (Value.pointer p85) ∧
  Calls Try.prog 33 #[(Value.pointer p82), (Value.pointer p85)] w87 fun e89 w90 =>
  ∃ p88, e89 = Ending.returned (Value.pointer p88) ∧
  Calls Try.prog 27 #[(Value.pointer p79), (Value.pointer p88)] w90 fun e92 w93 =>
  ∃ b91, e92 = Ending.returned (Value.bool b91) ∧
  V.sel (!b91)
  (R (Ending.returned (Value.bool false)) w93)
  (Calls Try.prog 35 #[(Value.pointer p28), (Value.pointer p31)] w93 fun e95 w96 =>
  ∃ p94, e95 = Ending.returned (Value.pointer p94) ∧
  Calls Try.prog 33 #[(Value.pointer p28), (Value.pointer p31)] w96 fun e98 w99 =>
  ∃ p97, e98 = Ending.returned (Value.pointer p97) ∧
  Calls Try.prog 34 #[(Value.pointer p28), (Value.pointer p31)] w99 fun e101 w102 =>
  ∃ p100, e101 = Ending.returned (Value.pointer p100) ∧
  Calls Try.prog 36 #[(Value.pointer p97), (Value.pointer p100)] w102 fun e104 w105 =>
  ∃ p103, e104 = Ending.returned (Value.pointer p103) ∧
  Calls Try.prog 27 #[(Value.pointer p94), (Value.pointer p103)] w105 fun e107 w108 =>
  ∃ b106, e107 = Ending.returned (Value.bool b106) ∧
  V.sel (!b106)
  (R (Ending.returned (Value.bool false)) w108)
  (Calls Try.prog 32 #[(Value.pointer p28), (Value.pointer p34)] w108 fun e110 w111 =>
  ∃ p109, e110 = Ending.returned (Value.pointer p109) ∧
  Calls Try.prog 32 #[(Value.pointer p109), (Value.pointer p34)] w111 fun e113 w114 =>
  ∃ p112, e113 = Ending.returned (Value.pointer p112) ∧
  Calls Try.prog 34 #[(Value.pointer p28), (Value.pointer p34)] w114 fun e116 w117 =>
  ∃ p115, e116 = Ending.returned (Value.pointer p115) ∧
  Calls Try.prog 27 #[(Value.pointer p112), (Value.pointer p115)] w117 fun e119 w120 =>
  ∃ b118, e119 = Ending.returned (Value.bool b118) ∧
  V.sel (!b118)
  (R (Ending.returned (Value.bool false)) w120)
  (Calls Try.prog 36 #[(Value.pointer p28), (Value.pointer p31)] w120 fun e122 w123 =>
  ∃ p121, e122 = Ending.returned (Value.pointer p121) ∧
  Calls Try.prog 37 #[(Value.pointer p121), (Value.pointer p31)] w123 fun e125 w126 =>
  ∃ b124, e125 = Ending.returned (Value.bool b124) ∧
  V.sel b124
  (R (Ending.returned (Value.bool false)) w126)
  (Calls Try.prog 33 #[(Value.pointer p28), (Value.pointer p31)] w126 fun e128 w129 =>
  ∃ p127, e128 = Ending.returned (Value.pointer p127) ∧
  Calls Try.prog 29 #[(Value.pointer p127)] w129 fun e131 w132 =>
  ∃ n130, e131 = Ending.returned (Value.int .i64 n130) ∧
  Calls Try.prog 34 #[(Value.pointer p28), (Value.pointer p31)] w132 fun e134 w135 =>
  ∃ p133, e134 = Ending.returned (Value.pointer p133) ∧
  Calls Try.prog 29 #[(Value.pointer p133)] w135 fun e137 w138 =>
  ∃ n136, e137 = Ending.returned (Value.int .i64 n136) ∧
  Calls Try.prog 29 #[(Value.pointer p28)] w138 fun e140 w141 =>
  ∃ n139, e140 = Ending.returned (Value.int .i64 n139) ∧
  Calls Try.prog 29 #[(Value.pointer p31)] w141 fun e143 w144 =>
  ∃ n142, e143 = Ending.returned (Value.int .i64 n142) ∧
  V.sel ((IntKind.wrap .i64 (n130 + n136)) != (IntKind.wrap .i64 (n139 + n142)))
  (R (Ending.returned (Value.bool false)) w144)
  (Calls Try.prog 38 #[(Value.pointer p28), (Value.pointer p31)] w144 fun e146 w147 =>
  ∃ b145, e146 = Ending.returned (Value.bool b145) ∧
  Calls Try.prog 34 #[(Value.pointer p28), (Value.pointer p31)] w147 fun e149 w150 =>
  ∃ p148, e149 = Ending.returned (Value.pointer p148) ∧
  Calls Try.prog 27 #[(Value.pointer p148), (Value.pointer p28)] w150 fun e152 w153 =>
  ∃ b151, e152 = Ending.returned (Value.bool b151) ∧
  V.sel (!(b145 == b151))
  (R (Ending.returned (Value.bool false)) w153)
  (Calls Try.prog 37 #[(Value.pointer p28), (Value.pointer p31)] w153 fun e155 w156 =>
  ∃ b154, e155 = Ending.returned (Value.bool b154) ∧
  Calls Try.prog 34 #[(Value.pointer p28), (Value.pointer p31)] w156 fun e158 w159 =>
  ∃ p157, e158 = Ending.returned (Value.pointer p157) ∧
  Calls Try.prog 29 #[(Value.pointer p157)] w159 fun e161 w162 =>
  ∃ n160, e161 = Ending.returned (Value.int .i64 n160) ∧
  V.sel (!(b154 == (decide (n160 > 0))))
  (R (Ending.returned (Value.bool false)) w162)
  (Calls Try.prog 27 #[(Value.pointer p28), (Value.pointer p31)] w162 fun e164 w165 =>
  ∃ b163, e164 = Ending.returned (Value.bool b163) ∧
  Calls Try.prog 38 #[(Value.pointer p28), (Value.pointer p31)] w165 fun e167 w168 =>
  ∃ b166, e167 = Ending.returned (Value.bool b166) ∧
  V.sel b166
  (Calls Try.prog 38 #[(Value.pointer p31), (Value.pointer p28)] w168 fun e170 w171 =>
  ∃ b169, e170 = Ending.returned (Value.bool b169) ∧
  V.sel (b163 == b169)
  (∃ n172, World.cell? w171 (Addr.add ⟨Array.size (World.heap w), 0, none⟩ 0) = some (Value.int .i64 n172) ∧
  ∃ A173, ∃ A173l, ∃ A173c, World.cell? w171 (Addr.add ⟨Array.size (World.heap w), 0, none⟩ 1) = some (Value.slice A173 A173l A173c) ∧
  ∃ A174, ∃ A174l, ∃ A174c, World.cell? w171 (Addr.add ⟨Array.size (World.heap w), 0, none⟩ 2) = some (Value.slice A174 A174l A174c) ∧
  ∃ A175, ∃ A175l, ∃ A175c, World.cell? w171 (Addr.add ⟨Array.size (World.heap w), 0, none⟩ 3) = some (Value.slice A175 A175l A175c) ∧
  Calls Try.prog 39 #[(Value.agg #[(Value.int .i64 n172), (Value.slice A173 A173l A173c), (Value.slice A174 A174l A174c), (Value.slice A175 A175l A175c)]), (Value.pointer p28)] w171 fun e177 w178 =>
  ∃ b176, e177 = Ending.returned (Value.bool b176) ∧
  R (Ending.returned (Value.bool b176)) w178)
  (R (Ending.returned (Value.bool false)) w171))
  (V.sel (b163 == false)
  (∃ n179, World.cell? w168 (Addr.add ⟨Array.size (World.heap w), 0, none⟩ 0) = some (Value.int .i64 n179) ∧
  ∃ A180, ∃ A180l, ∃ A180c, World.cell? w168 (Addr.add ⟨Array.size (World.heap w), 0, none⟩ 1) = some (Value.slice A180 A180l A180c) ∧
  ∃ A181, ∃ A181l, ∃ A181c, World.cell? w168 (Addr.add ⟨Array.size (World.heap w), 0, none⟩ 2) = some (Value.slice A181 A181l A181c) ∧
  ∃ A182, ∃ A182l, ∃ A182c, World.cell? w168 (Addr.add ⟨Array.size (World.heap w), 0, none⟩ 3) = some (Value.slice A182 A182l A182c) ∧
  Calls Try.prog 39 #[(Value.agg #[(Value.int .i64 n179), (Value.slice A180 A180l A180c), (Value.slice A181 A181l A181c), (Value.slice A182 A182l A182c)]), (Value.pointer p28)] w168 fun e184 w185 =>
  ∃ b183, e184 = Ending.returned (Value.bool b183) ∧
  R (Ending.returned (Value.bool b183)) w185)
  (R (Ending.returned (Value.bool false)) w168))))))))))))))) :
  Calls Try.prog 6 #[(Value.agg #[(Value.int .i64 x_1), (Value.slice x_2 x_2l x_2c), (Value.slice x_3 x_3l x_3c), (Value.slice x_4 x_4l x_4c)])] w R :=
  V.calls_of_R ⟨V.assoc [], V.assocP [(6, V.line [0, 1, 2, 3, 5, 6, 7, 8, 10, 11, 12, 13, 4, 9, 14, 15, 16, 17])], V.assocC [], V.assocS [], ⟨[], false⟩⟩ Try.func6 rfl (Eq.mp (by kernel_rfl) h)

theorem berthlaw01_BitsetFresh_nf (x_1 : Int) (x_2 : Option Addr) (x_2l : Nat) (x_2c : Nat) (x_3 : Option Addr) (x_3l : Nat) (x_3c : Nat) (x_4 : Option Addr) (x_4l : Nat) (x_4c : Nat) (w : World) (R : Ending → World → Prop) (h :
  Calls Try.prog 12 #[] (World.alloc w (.cells #[(Value.int .i64 x_1), (Value.slice x_2 x_2l x_2c), (Value.slice x_3 x_3l x_3c), (Value.slice x_4 x_4l x_4c)] 27)) fun e6 w7 =>
  ∃ b5, e6 = Ending.returned (Value.bool b5) ∧
  V.sel (!b5)
  (Calls Try.prog 12 #[] w7 fun e9 w10 =>
  ∃ b8, e9 = Ending.returned (Value.bool b8) ∧
  R (Ending.returned (Value.bool b8)) w10)
  (∃ n11, World.cell? w7 (Addr.add ⟨Array.size (World.heap w), 0, none⟩ 0) = some (Value.int .i64 n11) ∧
  Calls Try.prog 13 #[(Value.int .i64 n11)] w7 fun e13 w14 =>
  ∃ b12, e13 = Ending.returned (Value.bool b12) ∧
  V.sel (!b12)
  (Calls Try.prog 12 #[] w14 fun e16 w17 =>
  ∃ b15, e16 = Ending.returned (Value.bool b15) ∧
  R (Ending.returned (Value.bool b15)) w17)
  (∃ S18 : World → Prop, S18 (World.drew w14) ∧
  ∃ n20, (∀ w19, S18 w19 → World.cell? w19 (Addr.add ⟨Array.size (World.heap w), 0, none⟩ 0) = some (Value.int .i64 n20)) ∧
  ∃ A21, ∃ A21l, ∃ A21c, (∀ w19, S18 w19 → World.cell? w19 (Addr.add ⟨Array.size (World.heap w), 0, none⟩ 1) = some (Value.slice A21 A21l A21c)) ∧
  ∃ n22, (∀ w19, S18 w19 → World.cell? w19 (Addr.add ⟨Array.size (World.heap w), 0, none⟩ 0) = some (Value.int .i64 n22)) ∧
  ∃ A23, ∃ A23l, ∃ A23c, (∀ w19, S18 w19 → World.cell? w19 (Addr.add ⟨Array.size (World.heap w), 0, none⟩ 2) = some (Value.slice A23 A23l A23c)) ∧
  ∃ n24, (∀ w19, S18 w19 → World.cell? w19 (Addr.add ⟨Array.size (World.heap w), 0, none⟩ 0) = some (Value.int .i64 n24)) ∧
  Calls Try.prog 16 #[(Value.int .i64 n20), (Value.slice A21 A21l A21c)] (World.drew w14) fun e26 w27 =>
  ∃ p25, e26 = Ending.returned (Value.pointer p25) ∧
  S18 w27 ∧
  Calls Try.prog 16 #[(Value.int .i64 n22), (Value.slice A23 A23l A23c)] w27 fun e29 w30 =>
  ∃ p28, e29 = Ending.returned (Value.pointer p28) ∧
  S18 w30 ∧
  Calls Try.prog 16 #[(Value.int .i64 n24), (Value.slice none 0 0)] w30 fun e32 w33 =>
  ∃ p31, e32 = Ending.returned (Value.pointer p31) ∧
  S18 w33 ∧
  Calls Try.prog 16 #[(Value.int .i64 0), (Value.slice none 0 0)] w33 fun e35 w36 =>
  ∃ p34, e35 = Ending.returned (Value.pointer p34) ∧
  S18 w36 ∧
  Calls Try.prog 17 #[(Value.slice (some ⟨Array.size (World.heap w36), 0, none⟩) 4 4)] (World.alloc w36 (.cells #[(Value.pointer p25), (Value.pointer p28), (Value.pointer p31), (Value.pointer p34)] 30)) fun e38 w39 =>
  ∃ b37, e38 = Ending.returned (Value.bool b37) ∧
  V.sel (!b37)
  (R (Ending.returned (Value.bool false)) w39)
  (∃ I40 : Int → World → Prop, ∃ μ41 : Int → World → Nat, I40 0 w39 ∧
  ∀ kind_42 (j43 : Nat → Value) (w44 : World), I40 kind_42 w44 →
  (V.sel (decide (kind_42 < 6))
  (∃ A45, ∃ A45l, ∃ A45c, World.cell? w44 (Addr.add ⟨Array.size (World.heap w), 0, none⟩ 3) = some (Value.slice A45 A45l A45c) ∧
  V.sel (decide (((A45l : Nat) : Int) > 0))
  (∃ A46, ∃ A46l, ∃ A46c, World.cell? w44 (Addr.add ⟨Array.size (World.heap w), 0, none⟩ 3) = some (Value.slice A46 A46l A46c) ∧
  ∃ A47, ∃ A47l, ∃ A47c, World.cell? w44 (Addr.add ⟨Array.size (World.heap w), 0, none⟩ 3) = some (Value.slice A47 A47l A47c) ∧
  V.when (decide (((A47l : Nat) : Int) ≠ 0)) (V.when (decide ((0 : Int) ≤ (Int.tmod kind_42 ((A47l : Nat) : Int)) ∧ ((Int.tmod kind_42 ((A47l : Nat) : Int)) : Int) < ((A46l : Nat) : Int))) (V.ptr A46 fun a48 =>
  ∃ n49, World.cell? w44 (Addr.add a48 ((Int.toNat (Int.tmod kind_42 ((A47l : Nat) : Int))) * 1)) = some (Value.int .i64 n49) ∧
  Calls Try.prog 48 #[(Value.int .i64 kind_42), (Value.pointer p25), (Value.pointer p28), (Value.int .i64 n49)] (World.drew w44) fun e51 w52 =>
  ∃ b50, e51 = Ending.returned (Value.bool b50) ∧
  V.sel (!b50)
  (R (Ending.returned (Value.bool false)) w52)
  (Calls Try.prog 48 #[(Value.int .i64 kind_42), (Value.pointer p25), (Value.pointer p25), (Value.int .i64 n49)] w52 fun e54 w55 =>
  ∃ b53, e54 = Ending.returned (Value.bool b53) ∧
  V.sel (!b53)
  (R (Ending.returned (Value.bool false)) w55)
  (Calls Try.prog 48 #[(Value.int .i64 kind_42), (Value.pointer p25), (Value.pointer p31), (Value.int .i64 n49)] w55 fun e57 w58 =>
  ∃ b56, e57 = Ending.returned (Value.bool b56) ∧
  V.sel (!b56)
  (R (Ending.returned (Value.bool false)) w58)
  (Calls Try.prog 48 #[(Value.int .i64 kind_42), (Value.pointer p31), (Value.pointer p25), (Value.int .i64 n49)] w58 fun e60 w61 =>
  ∃ b59, e60 = Ending.returned (Value.bool b59) ∧
  V.sel (!b59)
  (R (Ending.returned (Value.bool false)) w61)
  (Calls Try.prog 48 #[(Value.int .i64 kind_42), (Value.pointer p25), (Value.pointer p34), (Value.int .i64 n49)] w61 fun e63 w64 =>
  ∃ b62, e63 = Ending.returned (Value.bool b62) ∧
  V.sel (!b62)
  (R (Ending.returned (Value.bool false)) w64)
  (Calls Try.prog 48 #[(Value.int .i64 kind_42), (Value.pointer p34), (Value.pointer p25), (Value.int .i64 n49)] w64 fun e66 w67 =>
  ∃ b65, e66 = Ending.returned (Value.bool b65) ∧
  V.sel (!b65)
  (R (Ending.returned (Value.bool false)) w67)
  (Calls Try.prog 48 #[(Value.int .i64 kind_42), (Value.pointer p25), (Value.pointer none), (Value.int .i64 n49)] w67 fun e69 w70 =>
  ∃ b68, e69 = Ending.returned (Value.bool b68) ∧
  V.sel (!b68)
  (R (Ending.returned (Value.bool false)) w70)
  (Calls Try.prog 48 #[(Value.int .i64 kind_42), (Value.pointer none), (Value.pointer p28), (Value.int .i64 n49)] w70 fun e72 w73 =>
  ∃ b71, e72 = Ending.returned (Value.bool b71) ∧
  V.sel (!b71)
  (R (Ending.returned (Value.bool false)) w73)
  (I40 (IntKind.wrap .i64 (kind_42 + 1)) w73 ∧ μ41 (IntKind.wrap .i64 (kind_42 + 1)) w73 < μ41 kind_42 w44)))))))))))
  (Calls Try.prog 48 #[(Value.int .i64 kind_42), (Value.pointer p25), (Value.pointer p28), (Value.int .i64 0)] w44 fun e75 w76 =>
  ∃ b74, e75 = Ending.returned (Value.bool b74) ∧
  V.sel (!b74)
  (R (Ending.returned (Value.bool false)) w76)
  (Calls Try.prog 48 #[(Value.int .i64 kind_42), (Value.pointer p25), (Value.pointer p25), (Value.int .i64 0)] w76 fun e78 w79 =>
  ∃ b77, e78 = Ending.returned (Value.bool b77) ∧
  V.sel (!b77)
  (R (Ending.returned (Value.bool false)) w79)
  (Calls Try.prog 48 #[(Value.int .i64 kind_42), (Value.pointer p25), (Value.pointer p31), (Value.int .i64 0)] w79 fun e81 w82 =>
  ∃ b80, e81 = Ending.returned (Value.bool b80) ∧
  V.sel (!b80)
  (R (Ending.returned (Value.bool false)) w82)
  (Calls Try.prog 48 #[(Value.int .i64 kind_42), (Value.pointer p31), (Value.pointer p25), (Value.int .i64 0)] w82 fun e84 w85 =>
  ∃ b83, e84 = Ending.returned (Value.bool b83) ∧
  V.sel (!b83)
  (R (Ending.returned (Value.bool false)) w85)
  (Calls Try.prog 48 #[(Value.int .i64 kind_42), (Value.pointer p25), (Value.pointer p34), (Value.int .i64 0)] w85 fun e87 w88 =>
  ∃ b86, e87 = Ending.returned (Value.bool b86) ∧
  V.sel (!b86)
  (R (Ending.returned (Value.bool false)) w88)
  (Calls Try.prog 48 #[(Value.int .i64 kind_42), (Value.pointer p34), (Value.pointer p25), (Value.int .i64 0)] w88 fun e90 w91 =>
  ∃ b89, e90 = Ending.returned (Value.bool b89) ∧
  V.sel (!b89)
  (R (Ending.returned (Value.bool false)) w91)
  (Calls Try.prog 48 #[(Value.int .i64 kind_42), (Value.pointer p25), (Value.pointer none), (Value.int .i64 0)] w91 fun e93 w94 =>
  ∃ b92, e93 = Ending.returned (Value.bool b92) ∧
  V.sel (!b92)
  (R (Ending.returned (Value.bool false)) w94)
  (Calls Try.prog 48 #[(Value.int .i64 kind_42), (Value.pointer none), (Value.pointer p28), (Value.int .i64 0)] w94 fun e96 w97 =>
  ∃ b95, e96 = Ending.returned (Value.bool b95) ∧
  V.sel (!b95)
  (R (Ending.returned (Value.bool false)) w97)
  (I40 (IntKind.wrap .i64 (kind_42 + 1)) w97 ∧ μ41 (IntKind.wrap .i64 (kind_42 + 1)) w97 < μ41 kind_42 w44))))))))))
  (R (Ending.returned (Value.bool true)) w44)))))) :
  Calls Try.prog 8 #[(Value.agg #[(Value.int .i64 x_1), (Value.slice x_2 x_2l x_2c), (Value.slice x_3 x_3l x_3c), (Value.slice x_4 x_4l x_4c)])] w R :=
  V.calls_of_R ⟨V.assoc [(0, [7])], V.assocP [(3, V.line [0, 1, 2, 3, 5, 6, 7, 8, 10, 11, 4, 9, 12, 13, 14, 15, 16, 17]), (11, V.line [0, 1, 2, 3, 4, 5, 6, 7, 8, 9])], V.assocC [], V.assocS [], ⟨[], false⟩⟩ Try.func8 rfl (Eq.mp (by kernel_rfl) h)

theorem berthlaw01_BitsetPlace_nf (x_1 : Int) (x_2 : Option Addr) (x_2l : Nat) (x_2c : Nat) (x_3 : Option Addr) (x_3l : Nat) (x_3c : Nat) (x_4 : Option Addr) (x_4l : Nat) (x_4c : Nat) (w : World) (R : Ending → World → Prop) (h :
  Calls Try.prog 12 #[] (World.alloc w (.cells #[(Value.int .i64 x_1), (Value.slice x_2 x_2l x_2c), (Value.slice x_3 x_3l x_3c), (Value.slice x_4 x_4l x_4c)] 27)) fun e6 w7 =>
  ∃ b5, e6 = Ending.returned (Value.bool b5) ∧
  V.sel (!b5)
  (R (Ending.returned (Value.bool false)) w7)
  (∃ n8, World.cell? w7 (Addr.add ⟨Array.size (World.heap w), 0, none⟩ 0) = some (Value.int .i64 n8) ∧
  Calls Try.prog 13 #[(Value.int .i64 n8)] w7 fun e10 w11 =>
  ∃ b9, e10 = Ending.returned (Value.bool b9) ∧
  V.sel (!b9)
  (R (Ending.returned (Value.bool true)) w11)
  (∃ n12, World.cell? w11 (Addr.add ⟨Array.size (World.heap w), 0, none⟩ 0) = some (Value.int .i64 n12) ∧
  ∃ S13 : World → Prop, S13 (World.drew w11) ∧
  ∃ n15, (∀ w14, S13 w14 → World.cell? w14 (Addr.add ⟨Array.size (World.heap w), 0, none⟩ 0) = some (Value.int .i64 n15)) ∧
  ∃ A16, ∃ A16l, ∃ A16c, (∀ w14, S13 w14 → World.cell? w14 (Addr.add ⟨Array.size (World.heap w), 0, none⟩ 1) = some (Value.slice A16 A16l A16c)) ∧
  ∃ n17, (∀ w14, S13 w14 → World.cell? w14 (Addr.add ⟨Array.size (World.heap w), 0, none⟩ 0) = some (Value.int .i64 n17)) ∧
  ∃ A18, ∃ A18l, ∃ A18c, (∀ w14, S13 w14 → World.cell? w14 (Addr.add ⟨Array.size (World.heap w), 0, none⟩ 2) = some (Value.slice A18 A18l A18c)) ∧
  Calls Try.prog 16 #[(Value.int .i64 n15), (Value.slice A16 A16l A16c)] (World.drew w11) fun e20 w21 =>
  ∃ p19, e20 = Ending.returned (Value.pointer p19) ∧
  S13 w21 ∧
  Calls Try.prog 16 #[(Value.int .i64 n17), (Value.slice A18 A18l A18c)] w21 fun e23 w24 =>
  ∃ p22, e23 = Ending.returned (Value.pointer p22) ∧
  S13 w24 ∧
  ∃ A25, ∃ A25l, ∃ A25c, World.cell? w24 (Addr.add ⟨Array.size (World.heap w), 0, none⟩ 1) = some (Value.slice A25 A25l A25c) ∧
  Calls Try.prog 16 #[(Value.int .i64 (IntKind.wrap .i64 (Int.tdiv n12 2))), (Value.slice A25 A25l A25c)] w24 fun e27 w28 =>
  ∃ p26, e27 = Ending.returned (Value.pointer p26) ∧
  Calls Try.prog 31 #[(Value.int .i64 (IntKind.wrap .i64 (Int.tdiv n12 2)))] w28 fun e31 w32 =>
  ∃ p29, ∃ n30, e31 = Ending.returned (Value.tuple #[(Value.pointer p29), (Value.int .i64 n30)]) ∧
  Calls Try.prog 17 #[(Value.slice (some ⟨Array.size (World.heap w32), 0, none⟩) 4 4)] (World.alloc w32 (.cells #[(Value.pointer p19), (Value.pointer p22), (Value.pointer p26), (Value.pointer p29)] 30)) fun e34 w35 =>
  ∃ b33, e34 = Ending.returned (Value.bool b33) ∧
  V.sel (!b33)
  (R (Ending.returned (Value.bool false)) w35)
  (Calls Try.prog 11 #[(Value.int .i64 n30)] w35 fun e37 w38 =>
  ∃ n36, e37 = Ending.returned (Value.int .i64 n36) ∧
  V.sel (n36 != 0)
  (R (Ending.returned (Value.bool false)) w38)
  (∃ I39 : Int → World → Prop, ∃ μ40 : Int → World → Nat, I39 0 w38 ∧
  ∀ i_41 (j42 : Nat → Value) (w43 : World), I39 i_41 w43 →
  (V.sel (decide (i_41 < (IntKind.wrap .i64 (Int.tdiv n12 2))))
  (Calls Try.prog 41 #[(Value.pointer p29), (Value.int .i64 i_41)] w43 fun e45 w46 =>
  ∃ b44, e45 = Ending.returned (Value.bool b44) ∧
  I39 (IntKind.wrap .i64 (i_41 + 1)) w46 ∧ μ40 (IntKind.wrap .i64 (i_41 + 1)) w46 < μ40 i_41 w43)
  (Calls Try.prog 44 #[(Value.pointer p22)] w43 fun e48 w49 =>
  ∃ p47, e48 = Ending.returned (Value.pointer p47) ∧
  Calls Try.prog 44 #[(Value.pointer p26)] w49 fun e51 w52 =>
  ∃ p50, e51 = Ending.returned (Value.pointer p50) ∧
  Calls Try.prog 44 #[(Value.pointer p26)] w52 fun e54 w55 =>
  ∃ p53, e54 = Ending.returned (Value.pointer p53) ∧
  Calls Try.prog 44 #[(Value.pointer p26)] w55 fun e57 w58 =>
  ∃ p56, e57 = Ending.returned (Value.pointer p56) ∧
  Calls Try.prog 49 #[(Value.pointer p50), (Value.pointer p22)] w58 fun e59 w60 =>
  e59 = Ending.returned undef ∧
  Calls Try.prog 50 #[(Value.pointer p53), (Value.pointer p22)] w60 fun e61 w62 =>
  e61 = Ending.returned undef ∧
  Calls Try.prog 43 #[(Value.pointer p56), (Value.pointer p22)] w62 fun e63 w64 =>
  e63 = Ending.returned undef ∧
  ∃ S65 : World → Prop, S65 (World.drew w64) ∧
  Calls Try.prog 28 #[(Value.pointer p50)] (World.drew w64) fun e68 w69 =>
  ∃ n67, e68 = Ending.returned (Value.int .i64 n67) ∧
  S65 w69 ∧
  V.sel (n67 != (IntKind.wrap .i64 (Int.tdiv n12 2)))
  (R (Ending.returned (Value.bool false)) w69)
  (Calls Try.prog 28 #[(Value.pointer p53)] w69 fun e71 w72 =>
  ∃ n70, e71 = Ending.returned (Value.int .i64 n70) ∧
  S65 w72 ∧
  V.sel (n70 != (IntKind.wrap .i64 (Int.tdiv n12 2)))
  (R (Ending.returned (Value.bool false)) w72)
  (Calls Try.prog 28 #[(Value.pointer p56)] w72 fun e74 w75 =>
  ∃ n73, e74 = Ending.returned (Value.int .i64 n73) ∧
  S65 w75 ∧
  V.sel (n73 != (IntKind.wrap .i64 (Int.tdiv n12 2)))
  (R (Ending.returned (Value.bool false)) w75)
  (Calls Try.prog 27 #[(Value.pointer p22), (Value.pointer p47)] w75 fun e77 w78 =>
  ∃ b76, e77 = Ending.returned (Value.bool b76) ∧
  S65 w78 ∧
  V.sel (!b76)
  (R (Ending.returned (Value.bool false)) w78)
  (∃ n79, (∀ w66, S65 w66 → World.cell? w66 (Addr.add ⟨Array.size (World.heap w), 0, none⟩ 0) = some (Value.int .i64 n79)) ∧
  Calls Try.prog 28 #[(Value.pointer p22)] w78 fun e81 w82 =>
  ∃ n80, e81 = Ending.returned (Value.int .i64 n80) ∧
  S65 w82 ∧
  V.sel (n80 != n79)
  (R (Ending.returned (Value.bool false)) w82)
  (Calls Try.prog 34 #[(Value.pointer p22), (Value.pointer p29)] w82 fun e84 w85 =>
  ∃ p83, e84 = Ending.returned (Value.pointer p83) ∧
  Calls Try.prog 33 #[(Value.pointer p26), (Value.pointer p83)] w85 fun e87 w88 =>
  ∃ p86, e87 = Ending.returned (Value.pointer p86) ∧
  Calls Try.prog 27 #[(Value.pointer p50), (Value.pointer p86)] w88 fun e90 w91 =>
  ∃ b89, e90 = Ending.returned (Value.bool b89) ∧
  V.sel (!b89)
  (R (Ending.returned (Value.bool false)) w91)
  (Calls Try.prog 34 #[(Value.pointer p26), (Value.pointer p22)] w91 fun e93 w94 =>
  ∃ p92, e93 = Ending.returned (Value.pointer p92) ∧
  Calls Try.prog 27 #[(Value.pointer p53), (Value.pointer p92)] w94 fun e96 w97 =>
  ∃ b95, e96 = Ending.returned (Value.bool b95) ∧
  V.sel (!b95)
  (R (Ending.returned (Value.bool false)) w97)
  (Calls Try.prog 36 #[(Value.pointer p26), (Value.pointer p22)] w97 fun e99 w100 =>
  ∃ p98, e99 = Ending.returned (Value.pointer p98) ∧
  Calls Try.prog 27 #[(Value.pointer p56), (Value.pointer p98)] w100 fun e102 w103 =>
  ∃ b101, e102 = Ending.returned (Value.bool b101) ∧
  V.sel (!b101)
  (R (Ending.returned (Value.bool false)) w103)
  (∃ S104 : World → Prop, S104 (World.drew w103) ∧
  ∃ n106, (∀ w105, S104 w105 → World.cell? w105 (Addr.add ⟨Array.size (World.heap w), 0, none⟩ 0) = some (Value.int .i64 n106)) ∧
  Calls Try.prog 45 #[(Value.pointer p50), (Value.int .i64 n106)] (World.drew w103) fun e108 w109 =>
  ∃ n107, e108 = Ending.returned (Value.int .i64 n107) ∧
  S104 w109 ∧
  Calls Try.prog 11 #[(Value.int .i64 n107)] w109 fun e111 w112 =>
  ∃ n110, e111 = Ending.returned (Value.int .i64 n110) ∧
  S104 w112 ∧
  V.sel (n110 != 0)
  (R (Ending.returned (Value.bool false)) w112)
  (∃ n113, (∀ w105, S104 w105 → World.cell? w105 (Addr.add ⟨Array.size (World.heap w), 0, none⟩ 0) = some (Value.int .i64 n113)) ∧
  Calls Try.prog 28 #[(Value.pointer p50)] w112 fun e115 w116 =>
  ∃ n114, e115 = Ending.returned (Value.int .i64 n114) ∧
  S104 w116 ∧
  V.sel (n114 != n113)
  (R (Ending.returned (Value.bool false)) w116)
  (Calls Try.prog 34 #[(Value.pointer p22), (Value.pointer p29)] w116 fun e118 w119 =>
  ∃ p117, e118 = Ending.returned (Value.pointer p117) ∧
  S104 w119 ∧
  Calls Try.prog 33 #[(Value.pointer p26), (Value.pointer p117)] w119 fun e121 w122 =>
  ∃ p120, e121 = Ending.returned (Value.pointer p120) ∧
  S104 w122 ∧
  Calls Try.prog 27 #[(Value.pointer p50), (Value.pointer p120)] w122 fun e124 w125 =>
  ∃ b123, e124 = Ending.returned (Value.bool b123) ∧
  S104 w125 ∧
  V.sel (!b123)
  (R (Ending.returned (Value.bool false)) w125)
  (Calls Try.prog 49 #[(Value.pointer p50), (Value.pointer p22)] w125 fun e126 w127 =>
  e126 = Ending.returned undef ∧
  Calls Try.prog 49 #[(Value.pointer p50), (Value.pointer p50)] w127 fun e128 w129 =>
  e128 = Ending.returned undef ∧
  Calls Try.prog 50 #[(Value.pointer p50), (Value.pointer p50)] w129 fun e130 w131 =>
  e130 = Ending.returned undef ∧
  Calls Try.prog 33 #[(Value.pointer p26), (Value.pointer p22)] w131 fun e133 w134 =>
  ∃ p132, e133 = Ending.returned (Value.pointer p132) ∧
  Calls Try.prog 27 #[(Value.pointer p50), (Value.pointer p132)] w134 fun e136 w137 =>
  ∃ b135, e136 = Ending.returned (Value.bool b135) ∧
  V.sel (!b135)
  (R (Ending.returned (Value.bool false)) w137)
  (Calls Try.prog 43 #[(Value.pointer p50), (Value.pointer p50)] w137 fun e138 w139 =>
  e138 = Ending.returned undef ∧
  ∃ S140 : World → Prop, S140 (World.drew w139) ∧
  Calls Try.prog 29 #[(Value.pointer p50)] (World.drew w139) fun e143 w144 =>
  ∃ n142, e143 = Ending.returned (Value.int .i64 n142) ∧
  S140 w144 ∧
  V.sel (n142 == 0)
  (∃ n145, (∀ w141, S140 w141 → World.cell? w141 (Addr.add ⟨Array.size (World.heap w), 0, none⟩ 0) = some (Value.int .i64 n145)) ∧
  Calls Try.prog 28 #[(Value.pointer p50)] w144 fun e147 w148 =>
  ∃ n146, e147 = Ending.returned (Value.int .i64 n146) ∧
  S140 w148 ∧
  R (Ending.returned (Value.bool (n146 == n145))) w148)
  (R (Ending.returned (Value.bool false)) w144)))))))))))))))))))) :
  Calls Try.prog 9 #[(Value.agg #[(Value.int .i64 x_1), (Value.slice x_2 x_2l x_2c), (Value.slice x_3 x_3l x_3c), (Value.slice x_4 x_4l x_4c)])] w R :=
  V.calls_of_R ⟨V.assoc [(0, [9])], V.assocP [(6, V.line [0, 1, 2, 3, 5, 6, 7, 8, 4, 9, 10, 11]), (20, V.line [0, 2, 1, 3, 4, 5, 7, 6, 8, 9, 10, 11, 13, 12, 14, 15, 16, 17, 18, 19, 20, 21, 22, 23, 25, 26, 24, 27, 28]), (24, V.line [0, 1, 2, 3, 4, 5, 6, 7, 9, 10, 8, 11, 12, 13, 14, 15, 16, 17, 18, 19, 20, 21, 22]), (32, V.line [0, 1, 2, 3, 4, 6, 7, 5, 8, 9, 10])], V.assocC [], V.assocS [], ⟨[], false⟩⟩ Try.func9 rfl (Eq.mp (by kernel_rfl) h)

theorem berthtop_TopNumbers_nf  (w : World) (R : Ending → World → Prop) (h :
  Calls Try.prog 51 #[] w fun e2 w3 =>
  ∃ b1, e2 = Ending.returned (Value.bool b1) ∧
  V.sel b1
  (Calls Try.prog 52 #[] w3 fun e5 w6 =>
  ∃ b4, e5 = Ending.returned (Value.bool b4) ∧
  V.sel b4
  (Calls Try.prog 53 #[] w6 fun e8 w9 =>
  ∃ b7, e8 = Ending.returned (Value.bool b7) ∧
  V.sel b7
  (Calls Try.prog 54 #[] w9 fun e11 w12 =>
  ∃ b10, e11 = Ending.returned (Value.bool b10) ∧
  R (Ending.returned (Value.bool b10)) w12)
  (R (Ending.returned (Value.bool false)) w9))
  (R (Ending.returned (Value.bool false)) w6))
  (R (Ending.returned (Value.bool false)) w3)) :
  Calls Try.prog 10 #[] w R :=
  V.calls_of_R ⟨V.assoc [], V.assocP [], V.assocC [], V.assocS [], ⟨[], false⟩⟩ Try.func10 rfl (Eq.mp (by kernel_rfl) h)

theorem berthlaw01_num_nf (e_1 : Int) (w : World) (R : Ending → World → Prop) (h :
  R (Ending.returned (Value.int .i64 e_1)) w) :
  Calls Try.prog 11 #[(Value.int .i64 e_1)] w R :=
  V.calls_of_R ⟨V.assoc [], V.assocP [], V.assocC [], V.assocS [], ⟨[], false⟩⟩ Try.func11 rfl (Eq.mp (by kernel_rfl) h)

theorem berthlaw01_awake_nf  (w : World) (R : Ending → World → Prop) (h :
  Calls Try.prog 15 #[(Value.int .i64 3), (Value.slice (some ⟨Array.size (World.heap w), 0, none⟩) 2 2)] (World.alloc w (.cells #[(Value.int .i64 2), (Value.int .i64 0)] 3)) fun e3 w4 =>
  ∃ p1, ∃ n2, e3 = Ending.returned (Value.tuple #[(Value.pointer p1), (Value.int .i64 n2)]) ∧
  V.sel (Option.isNone p1)
  (R (Ending.returned (Value.bool false)) w4)
  (Calls Try.prog 11 #[(Value.int .i64 n2)] w4 fun e6 w7 =>
  ∃ n5, e6 = Ending.returned (Value.int .i64 n5) ∧
  V.sel (n5 != 0)
  (R (Ending.returned (Value.bool false)) w7)
  (Calls Try.prog 21 #[(Value.pointer p1)] w7 fun e9 w10 =>
  ∃ A8, ∃ A8l, ∃ A8c, e9 = Ending.returned (Value.slice A8 A8l A8c) ∧
  V.sel (((A8l : Nat) : Int) == 2)
  (V.when (decide ((0 : Int) ≤ 0 ∧ (0 : Int) < ((A8l : Nat) : Int))) (V.ptr A8 fun a11 =>
  ∃ n12, World.cell? w10 (Addr.add a11 0) = some (Value.int .i64 n12) ∧
  V.sel (n12 == 0)
  (V.when (decide ((0 : Int) ≤ 1 ∧ (1 : Int) < ((A8l : Nat) : Int))) (V.ptr A8 fun a13 =>
  ∃ n14, World.cell? w10 (Addr.add a13 1) = some (Value.int .i64 n14) ∧
  R (Ending.returned (Value.bool (n14 == 2))) w10))
  (R (Ending.returned (Value.bool false)) w10)))
  (R (Ending.returned (Value.bool false)) w10)))) :
  Calls Try.prog 12 #[] w R :=
  V.calls_of_R ⟨V.assoc [], V.assocP [], V.assocC [], V.assocS [], ⟨[], false⟩⟩ Try.func12 rfl (Eq.mp (by kernel_rfl) h)

theorem berthlaw01_sized_nf (n_1 : Int) (w : World) (R : Ending → World → Prop) (h :
  V.sel (decide (n_1 ≥ 0))
  (R (Ending.returned (Value.bool (decide (n_1 ≤ 65536)))) w)
  (R (Ending.returned (Value.bool false)) w)) :
  Calls Try.prog 13 #[(Value.int .i64 n_1)] w R :=
  V.calls_of_R ⟨V.assoc [], V.assocP [], V.assocC [], V.assocS [], ⟨[], false⟩⟩ Try.func13 rfl (Eq.mp (by kernel_rfl) h)

theorem berthlaw01_ints_nf (l_1 : Option Addr) (l_1l : Nat) (l_1c : Nat) (w : World) (R : Ending → World → Prop) (h :
  ∃ A2, ∃ A2l, ∃ A2c, ∃ w3, Sem.run Try.prog (Builtin.append_ #[25, 25] 25 #[(Value.slice (some ⟨Array.size (World.heap w), 0, none⟩) 0 0), (Value.slice l_1 l_1l l_1c)]) (World.alloc w (.cells #[] 3)) = .ok (Value.slice A2 A2l A2c) w3 ∧
  R (Ending.returned (Value.slice A2 A2l A2c)) w3) :
  Calls Try.prog 14 #[(Value.slice l_1 l_1l l_1c)] w R :=
  V.calls_of_R ⟨V.assoc [], V.assocP [], V.assocC [], V.assocS [], ⟨[], false⟩⟩ Try.func14 rfl (Eq.mp (by kernel_rfl) h)

theorem bitset_From_nf (n_1 : Int) (places_2 : Option Addr) (places_2l : Nat) (places_2c : Nat) (w : World) (R : Ending → World → Prop) (h :
  Calls Try.prog 31 #[(Value.int .i64 n_1)] w fun e5 w6 =>
  ∃ p3, ∃ n4, e5 = Ending.returned (Value.tuple #[(Value.pointer p3), (Value.int .i64 n4)]) ∧
  V.sel (n4 != 0)
  (R (Ending.returned (Value.tuple #[(Value.pointer none), (Value.int .i64 n4)])) w6)
  (∃ I7 : Int → World → Prop, ∃ μ8 : Int → World → Nat, I7 0 w6 ∧
  ∀ t20_9 (j10 : Nat → Value) (w11 : World), I7 t20_9 w11 →
  (V.sel (decide (t20_9 < ((places_2l : Nat) : Int)))
  (V.when (decide ((0 : Int) ≤ t20_9 ∧ (t20_9 : Int) < ((places_2l : Nat) : Int))) (V.ptr places_2 fun a12 =>
  ∃ n13, World.cell? w11 (Addr.add a12 ((Int.toNat t20_9) * 1)) = some (Value.int .i64 n13) ∧
  V.sel (decide (n13 < 0))
  (R (Ending.returned (Value.tuple #[(Value.pointer none), (Value.int .i64 12)])) w11)
  (V.sel (decide (n13 ≥ n_1))
  (R (Ending.returned (Value.tuple #[(Value.pointer none), (Value.int .i64 12)])) w11)
  (V.ptr p3 fun a14 =>
  ∃ A15, ∃ A15l, ∃ A15c, World.cell? w11 (Addr.add a14 1) = some (Value.slice A15 A15l A15c) ∧
  V.when (decide ((0 : Int) ≤ (IntKind.wrap .i64 (Int.tdiv n13 64)) ∧ ((IntKind.wrap .i64 (Int.tdiv n13 64)) : Int) < ((A15l : Nat) : Int))) (V.ptr A15 fun a16 =>
  ∃ n17, World.cell? w11 (Addr.add a16 ((Int.toNat (IntKind.wrap .i64 (Int.tdiv n13 64))) * 1)) = some (Value.int .u64 n17) ∧
  V.when (decide (0 ≤ (Int.tmod n13 64))) (V.when (decide ((0 : Int) ≤ (IntKind.wrap .i64 (Int.tdiv n13 64)) ∧ ((IntKind.wrap .i64 (Int.tdiv n13 64)) : Int) < ((A15l : Nat) : Int))) (V.ptr A15 fun a18 =>
  (∃ u19, World.cell? (World.drew w11) (Addr.add (Addr.add a18 ((Int.toNat (IntKind.wrap .i64 (Int.tdiv n13 64))) * 1)) 0) = some u19) ∧ World.frozen? (World.drew w11) (Addr.add (Addr.add a18 ((Int.toNat (IntKind.wrap .i64 (Int.tdiv n13 64))) * 1)) 0) = false ∧
  I7 (IntKind.wrap .i64 (t20_9 + 1)) (World.setCell (World.drew w11) (Addr.add (Addr.add a18 ((Int.toNat (IntKind.wrap .i64 (Int.tdiv n13 64))) * 1)) 0) (Value.int .u64 (IntKind.wrap .u64 ((BitVec.toNat (BitVec.ofInt 64 n17 ||| BitVec.ofInt 64 (IntKind.wrap .u64 (1 * 2 ^ (min (Int.toNat (Int.tmod n13 64)) 64)))) : Nat) : Int)))) ∧ μ8 (IntKind.wrap .i64 (t20_9 + 1)) (World.setCell (World.drew w11) (Addr.add (Addr.add a18 ((Int.toNat (IntKind.wrap .i64 (Int.tdiv n13 64))) * 1)) 0) (Value.int .u64 (IntKind.wrap .u64 ((BitVec.toNat (BitVec.ofInt 64 n17 ||| BitVec.ofInt 64 (IntKind.wrap .u64 (1 * 2 ^ (min (Int.toNat (Int.tmod n13 64)) 64)))) : Nat) : Int)))) < μ8 t20_9 w11)))))))
  (R (Ending.returned (Value.tuple #[(Value.pointer p3), (Value.int .i64 0)])) w11)))) :
  Calls Try.prog 15 #[(Value.int .i64 n_1), (Value.slice places_2 places_2l places_2c)] w R :=
  V.calls_of_R ⟨V.assoc [(0, [20])], V.assocP [(9, V.line [0, 1, 2, 3, 4, 5, 6, 7, 8, 9, 10, 11, 12, 13])], V.assocC [], V.assocS [], ⟨[], false⟩⟩ Try.func15 rfl (Eq.mp (by kernel_rfl) h)

theorem berthlaw01_of_nf (n_1 : Int) (l_2 : Option Addr) (l_2l : Nat) (l_2c : Nat) (w : World) (R : Ending → World → Prop) (h :
  ∃ I3 : Option Addr → Nat → Nat → Int → World → Prop, ∃ μ4 : Option Addr → Nat → Nat → Int → World → Nat, I3 none 0 0 0 w ∧
  ∀ in_5 in_5l in_5c i_6 (j7 : Nat → Value) (w8 : World), I3 in_5 in_5l in_5c i_6 w8 →
  (V.sel (decide (i_6 < ((l_2l : Nat) : Int)))
  (V.when (decide ((0 : Int) ≤ i_6 ∧ (i_6 : Int) < ((l_2l : Nat) : Int))) (V.ptr l_2 fun a9 =>
  ∃ n10, World.cell? w8 (Addr.add a9 ((Int.toNat i_6) * 1)) = some (Value.int .i64 n10) ∧
  V.sel (decide (n10 ≥ 0))
  (V.when (decide ((0 : Int) ≤ i_6 ∧ (i_6 : Int) < ((l_2l : Nat) : Int))) (V.ptr l_2 fun a11 =>
  ∃ n12, World.cell? w8 (Addr.add a11 ((Int.toNat i_6) * 1)) = some (Value.int .i64 n12) ∧
  V.sel (decide (n12 < n_1))
  (V.when (decide ((0 : Int) ≤ i_6 ∧ (i_6 : Int) < ((l_2l : Nat) : Int))) (V.ptr l_2 fun a13 =>
  ∃ n14, World.cell? w8 (Addr.add a13 ((Int.toNat i_6) * 1)) = some (Value.int .i64 n14) ∧
  ∃ A15, ∃ A15l, ∃ A15c, ∃ w16, Sem.run Try.prog (Builtin.append_ #[25, 25] 25 #[(Value.slice in_5 in_5l in_5c), (Value.slice (some ⟨Array.size (World.heap w8), 0, none⟩) 1 1)]) (World.alloc w8 (.cells #[(Value.int .i64 n14)] 3)) = .ok (Value.slice A15 A15l A15c) w16 ∧
  I3 A15 A15l A15c (IntKind.wrap .i64 (i_6 + 1)) w16 ∧ μ4 A15 A15l A15c (IntKind.wrap .i64 (i_6 + 1)) w16 < μ4 in_5 in_5l in_5c i_6 w8))
  (I3 in_5 in_5l in_5c (IntKind.wrap .i64 (i_6 + 1)) w8 ∧ μ4 in_5 in_5l in_5c (IntKind.wrap .i64 (i_6 + 1)) w8 < μ4 in_5 in_5l in_5c i_6 w8)))
  (I3 in_5 in_5l in_5c (IntKind.wrap .i64 (i_6 + 1)) w8 ∧ μ4 in_5 in_5l in_5c (IntKind.wrap .i64 (i_6 + 1)) w8 < μ4 in_5 in_5l in_5c i_6 w8)))
  (Calls Try.prog 15 #[(Value.int .i64 n_1), (Value.slice in_5 in_5l in_5c)] w8 fun e19 w20 =>
  ∃ p17, ∃ n18, e19 = Ending.returned (Value.tuple #[(Value.pointer p17), (Value.int .i64 n18)]) ∧
  R (Ending.returned (Value.pointer p17)) w20))) :
  Calls Try.prog 16 #[(Value.int .i64 n_1), (Value.slice l_2 l_2l l_2c)] w R :=
  V.calls_of_R ⟨V.assoc [(0, [5, 6])], V.assocP [], V.assocC [], V.assocS [], ⟨[], false⟩⟩ Try.func16 rfl (Eq.mp (by kernel_rfl) h)

theorem berthlaw01_all_nf (l_1 : Option Addr) (l_1l : Nat) (l_1c : Nat) (w : World) (R : Ending → World → Prop) (h :
  ∃ I2 : Int → World → Prop, ∃ μ3 : Int → World → Nat, I2 0 w ∧
  ∀ i_4 (j5 : Nat → Value) (w6 : World), I2 i_4 w6 →
  (V.sel (decide (i_4 < ((l_1l : Nat) : Int)))
  (V.when (decide ((0 : Int) ≤ i_4 ∧ (i_4 : Int) < ((l_1l : Nat) : Int))) (V.ptr l_1 fun a7 =>
  ∃ p8, World.cell? w6 (Addr.add a7 ((Int.toNat i_4) * 1)) = some (Value.pointer p8) ∧
  V.sel (Option.isNone p8)
  (R (Ending.returned (Value.bool false)) w6)
  (I2 (IntKind.wrap .i64 (i_4 + 1)) w6 ∧ μ3 (IntKind.wrap .i64 (i_4 + 1)) w6 < μ3 i_4 w6)))
  (R (Ending.returned (Value.bool true)) w6))) :
  Calls Try.prog 17 #[(Value.slice l_1 l_1l l_1c)] w R :=
  V.calls_of_R ⟨V.assoc [(0, [3])], V.assocP [], V.assocC [], V.assocS [], ⟨[], false⟩⟩ Try.func17 rfl (Eq.mp (by kernel_rfl) h)

end Go.Proofs.Ytbaglnffgbnekaa
