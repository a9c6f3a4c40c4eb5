/- Normal forms of the program's functions, printed by a program of mine; the kernel checks each. -/
import Derived.Test.YtbaglnffgbnekaaDoorProg
import Derived.Test.YtbaglnffgbnekaaDoorV2
set_option linter.unusedVariables false
set_option maxRecDepth 100000
namespace Go.Proofs.YtbaglnffgbnekaaDoor
open Go

theorem berthlaw01_BitsetWalks_nf (x_1 : Int) (x_2 : Option Addr) (x_2l : Nat) (x_2c : Nat) (x_3 : Option Addr) (x_3l : Nat) (x_3c : Nat) (x_4 : Option Addr) (x_4l : Nat) (x_4c : Nat) (w : World) (R : Ending → World → Prop) (h :
  ∀ w5, w5 = (World.alloc w (.cells #[(Value.int .i64 x_1), (Value.slice x_2 x_2l x_2c), (Value.slice x_3 x_3l x_3c), (Value.slice x_4 x_4l x_4c)] 24)) →
  Calls Tryd.prog 6 #[] w5 fun e7 w8 =>
  ∃ b6, e7 = Ending.returned (Value.bool b6) ∧
  V.sel (!b6)
  (R (Ending.returned (Value.bool false)) w8)
  (∃ n9, World.cell? w8 (Addr.add ⟨Array.size (World.heap w), 0, none⟩ 0) = some (Value.int .i64 n9) ∧
  Calls Tryd.prog 7 #[(Value.int .i64 n9)] w8 fun e11 w12 =>
  ∃ b10, e11 = Ending.returned (Value.bool b10) ∧
  V.sel (!b10)
  (R (Ending.returned (Value.bool true)) w12)
  (∃ n13, World.cell? w12 (Addr.add ⟨Array.size (World.heap w), 0, none⟩ 0) = some (Value.int .i64 n13) ∧
  ∃ A14, ∃ A14l, ∃ A14c, World.cell? w12 (Addr.add ⟨Array.size (World.heap w), 0, none⟩ 1) = some (Value.slice A14 A14l A14c) ∧
  Calls Tryd.prog 8 #[(Value.int .i64 n13), (Value.slice A14 A14l A14c)] w12 fun e16 w17 =>
  ∃ p15, e16 = Ending.returned (Value.pointer p15) ∧
  ∃ S18 : World → Prop, S18 (World.drew w17) ∧
  V.sel (Option.isNone p15)
  (R (Ending.returned (Value.bool false)) (World.drew w17))
  (∃ n20, (∀ w19, S18 w19 → World.cell? w19 (Addr.add ⟨Array.size (World.heap w), 0, none⟩ 0) = some (Value.int .i64 n20)) ∧
  Calls Tryd.prog 9 #[(Value.pointer p15)] (World.drew w17) fun e22 w23 =>
  ∃ n21, e22 = Ending.returned (Value.int .i64 n21) ∧
  S18 w23 ∧
  V.sel (n21 != n20)
  (R (Ending.returned (Value.bool false)) w23)
  (Calls Tryd.prog 10 #[(Value.pointer p15)] w23 fun e25 w26 =>
  ∃ A24, ∃ A24l, ∃ A24c, e25 = Ending.returned (Value.slice A24 A24l A24c) ∧
  Calls Tryd.prog 11 #[(Value.pointer p15)] w26 fun e28 w29 =>
  ∃ n27, e28 = Ending.returned (Value.int .i64 n27) ∧
  V.sel (((A24l : Nat) : Int) != n27)
  (R (Ending.returned (Value.bool false)) w29)
  (∃ n30, World.cell? w29 (Addr.add ⟨Array.size (World.heap w), 0, none⟩ 0) = some (Value.int .i64 n30) ∧
  Calls Tryd.prog 12 #[(Value.pointer p15), (Value.int .i64 n30)] w29 fun e32 w33 =>
  ∃ n31, e32 = Ending.returned (Value.int .i64 n31) ∧
  V.sel (n31 != ((A24l : Nat) : Int))
  (R (Ending.returned (Value.bool false)) w33)
  (Calls Tryd.prog 13 #[(Value.pointer p15), (Value.int .i64 ((A24l : Nat) : Int))] w33 fun e35 w36 =>
  ∃ n34, e35 = Ending.returned (Value.int .i64 n34) ∧
  V.sel (n34 != (-1))
  (R (Ending.returned (Value.bool false)) w36)
  (Calls Tryd.prog 13 #[(Value.pointer p15), (Value.int .i64 (-1))] w36 fun e38 w39 =>
  ∃ n37, e38 = Ending.returned (Value.int .i64 n37) ∧
  V.sel (n37 != (-1))
  (R (Ending.returned (Value.bool false)) w39)
  (∃ I40 : Int → World → Prop, ∃ μ41 : Int → World → Nat, I40 0 w39 ∧
  ∀ k_42 (j43 : Nat → Value) (w44 : World), I40 k_42 w44 →
  (V.sel (decide (k_42 < ((A24l : Nat) : Int)))
  (∃ S45 : World → Prop, S45 (World.drew w44) ∧
  V.sel (decide (k_42 > 0))
  (V.when (decide ((0 : Int) ≤ k_42 ∧ (k_42 : Int) < ((A24l : Nat) : Int))) (V.ptr A24 fun a47 =>
  ∃ n48, (∀ w46, S45 w46 → World.cell? w46 (Addr.add a47 ((Int.toNat k_42) * 1)) = some (Value.int .i64 n48)) ∧
  V.when (decide ((0 : Int) ≤ (IntKind.wrap .i64 (k_42 - 1)) ∧ ((IntKind.wrap .i64 (k_42 - 1)) : Int) < ((A24l : Nat) : Int))) (V.ptr A24 fun a49 =>
  ∃ n50, (∀ w46, S45 w46 → World.cell? w46 (Addr.add a49 ((Int.toNat (IntKind.wrap .i64 (k_42 - 1))) * 1)) = some (Value.int .i64 n50)) ∧
  V.sel (decide (n48 ≤ n50))
  (R (Ending.returned (Value.bool false)) (World.drew w44))
  (V.when (decide ((0 : Int) ≤ k_42 ∧ (k_42 : Int) < ((A24l : Nat) : Int))) (V.ptr A24 fun a51 =>
  ∃ n52, (∀ w46, S45 w46 → World.cell? w46 (Addr.add a51 ((Int.toNat k_42) * 1)) = some (Value.int .i64 n52)) ∧
  Calls Tryd.prog 14 #[(Value.pointer p15), (Value.int .i64 n52)] (World.drew w44) fun e54 w55 =>
  ∃ b53, e54 = Ending.returned (Value.bool b53) ∧
  S45 w55 ∧
  V.sel (!b53)
  (R (Ending.returned (Value.bool false)) w55)
  (V.when (decide ((0 : Int) ≤ k_42 ∧ (k_42 : Int) < ((A24l : Nat) : Int))) (V.ptr A24 fun a56 =>
  ∃ n57, (∀ w46, S45 w46 → World.cell? w46 (Addr.add a56 ((Int.toNat k_42) * 1)) = some (Value.int .i64 n57)) ∧
  Calls Tryd.prog 12 #[(Value.pointer p15), (Value.int .i64 n57)] w55 fun e59 w60 =>
  ∃ n58, e59 = Ending.returned (Value.int .i64 n58) ∧
  S45 w60 ∧
  V.sel (n58 != k_42)
  (R (Ending.returned (Value.bool false)) w60)
  (V.when (decide ((0 : Int) ≤ k_42 ∧ (k_42 : Int) < ((A24l : Nat) : Int))) (V.ptr A24 fun a61 =>
  ∃ n62, (∀ w46, S45 w46 → World.cell? w46 (Addr.add a61 ((Int.toNat k_42) * 1)) = some (Value.int .i64 n62)) ∧
  Calls Tryd.prog 13 #[(Value.pointer p15), (Value.int .i64 k_42)] w60 fun e64 w65 =>
  ∃ n63, e64 = Ending.returned (Value.int .i64 n63) ∧
  S45 w65 ∧
  V.sel (n63 != n62)
  (R (Ending.returned (Value.bool false)) w65)
  (V.sel (decide ((IntKind.wrap .i64 (k_42 + 1)) < ((A24l : Nat) : Int)))
  (V.when (decide ((0 : Int) ≤ (IntKind.wrap .i64 (k_42 + 1)) ∧ ((IntKind.wrap .i64 (k_42 + 1)) : Int) < ((A24l : Nat) : Int))) (V.ptr A24 fun a66 =>
  ∃ n67, World.cell? w65 (Addr.add a66 ((Int.toNat (IntKind.wrap .i64 (k_42 + 1))) * 1)) = some (Value.int .i64 n67) ∧
  ∃ S68 : World → Prop, S68 (World.drew w65) ∧
  V.when (decide ((0 : Int) ≤ k_42 ∧ (k_42 : Int) < ((A24l : Nat) : Int))) (V.ptr A24 fun a70 =>
  ∃ n71, (∀ w69, S68 w69 → World.cell? w69 (Addr.add a70 ((Int.toNat k_42) * 1)) = some (Value.int .i64 n71)) ∧
  V.when (decide ((0 : Int) ≤ k_42 ∧ (k_42 : Int) < ((A24l : Nat) : Int))) (V.ptr A24 fun a72 =>
  ∃ n73, (∀ w69, S68 w69 → World.cell? w69 (Addr.add a72 ((Int.toNat k_42) * 1)) = some (Value.int .i64 n73)) ∧
  Calls Tryd.prog 15 #[(Value.pointer p15), (Value.int .i64 n71)] (World.drew w65) fun e75 w76 =>
  ∃ n74, e75 = Ending.returned (Value.int .i64 n74) ∧
  S68 w76 ∧
  V.sel (n74 != n73)
  (R (Ending.returned (Value.bool false)) w76)
  (V.when (decide ((0 : Int) ≤ k_42 ∧ (k_42 : Int) < ((A24l : Nat) : Int))) (V.ptr A24 fun a77 =>
  ∃ n78, (∀ w69, S68 w69 → World.cell? w69 (Addr.add a77 ((Int.toNat k_42) * 1)) = some (Value.int .i64 n78)) ∧
  V.when (decide ((0 : Int) ≤ k_42 ∧ (k_42 : Int) < ((A24l : Nat) : Int))) (V.ptr A24 fun a79 =>
  ∃ n80, (∀ w69, S68 w69 → World.cell? w69 (Addr.add a79 ((Int.toNat k_42) * 1)) = some (Value.int .i64 n80)) ∧
  Calls Tryd.prog 16 #[(Value.pointer p15), (Value.int .i64 n78)] w76 fun e82 w83 =>
  ∃ n81, e82 = Ending.returned (Value.int .i64 n81) ∧
  S68 w83 ∧
  V.sel (n81 != n80)
  (R (Ending.returned (Value.bool false)) w83)
  (V.when (decide ((0 : Int) ≤ k_42 ∧ (k_42 : Int) < ((A24l : Nat) : Int))) (V.ptr A24 fun a84 =>
  ∃ n85, (∀ w69, S68 w69 → World.cell? w69 (Addr.add a84 ((Int.toNat k_42) * 1)) = some (Value.int .i64 n85)) ∧
  Calls Tryd.prog 15 #[(Value.pointer p15), (Value.int .i64 (IntKind.wrap .i64 (n85 + 1)))] w83 fun e87 w88 =>
  ∃ n86, e87 = Ending.returned (Value.int .i64 n86) ∧
  S68 w88 ∧
  V.sel (n86 != n67)
  (R (Ending.returned (Value.bool false)) w88)
  (I40 (IntKind.wrap .i64 (k_42 + 1)) w88 ∧ μ41 (IntKind.wrap .i64 (k_42 + 1)) w88 < μ41 k_42 w44))))))))))
  (∃ S89 : World → Prop, S89 (World.drew w65) ∧
  V.when (decide ((0 : Int) ≤ k_42 ∧ (k_42 : Int) < ((A24l : Nat) : Int))) (V.ptr A24 fun a91 =>
  ∃ n92, (∀ w90, S89 w90 → World.cell? w90 (Addr.add a91 ((Int.toNat k_42) * 1)) = some (Value.int .i64 n92)) ∧
  V.when (decide ((0 : Int) ≤ k_42 ∧ (k_42 : Int) < ((A24l : Nat) : Int))) (V.ptr A24 fun a93 =>
  ∃ n94, (∀ w90, S89 w90 → World.cell? w90 (Addr.add a93 ((Int.toNat k_42) * 1)) = some (Value.int .i64 n94)) ∧
  Calls Tryd.prog 15 #[(Value.pointer p15), (Value.int .i64 n92)] (World.drew w65) fun e96 w97 =>
  ∃ n95, e96 = Ending.returned (Value.int .i64 n95) ∧
  S89 w97 ∧
  V.sel (n95 != n94)
  (R (Ending.returned (Value.bool false)) w97)
  (V.when (decide ((0 : Int) ≤ k_42 ∧ (k_42 : Int) < ((A24l : Nat) : Int))) (V.ptr A24 fun a98 =>
  ∃ n99, (∀ w90, S89 w90 → World.cell? w90 (Addr.add a98 ((Int.toNat k_42) * 1)) = some (Value.int .i64 n99)) ∧
  V.when (decide ((0 : Int) ≤ k_42 ∧ (k_42 : Int) < ((A24l : Nat) : Int))) (V.ptr A24 fun a100 =>
  ∃ n101, (∀ w90, S89 w90 → World.cell? w90 (Addr.add a100 ((Int.toNat k_42) * 1)) = some (Value.int .i64 n101)) ∧
  Calls Tryd.prog 16 #[(Value.pointer p15), (Value.int .i64 n99)] w97 fun e103 w104 =>
  ∃ n102, e103 = Ending.returned (Value.int .i64 n102) ∧
  S89 w104 ∧
  V.sel (n102 != n101)
  (R (Ending.returned (Value.bool false)) w104)
  (V.when (decide ((0 : Int) ≤ k_42 ∧ (k_42 : Int) < ((A24l : Nat) : Int))) (V.ptr A24 fun a105 =>
  ∃ n106, (∀ w90, S89 w90 → World.cell? w90 (Addr.add a105 ((Int.toNat k_42) * 1)) = some (Value.int .i64 n106)) ∧
  Calls Tryd.prog 15 #[(Value.pointer p15), (Value.int .i64 (IntKind.wrap .i64 (n106 + 1)))] w104 fun e108 w109 =>
  ∃ n107, e108 = Ending.returned (Value.int .i64 n107) ∧
  S89 w109 ∧
  V.sel (n107 != (-1))
  (R (Ending.returned (Value.bool false)) w109)
  (I40 (IntKind.wrap .i64 (k_42 + 1)) w109 ∧ μ41 (IntKind.wrap .i64 (k_42 + 1)) w109 < μ41 k_42 w44)))))))))))))))))))
  (V.when (decide ((0 : Int) ≤ k_42 ∧ (k_42 : Int) < ((A24l : Nat) : Int))) (V.ptr A24 fun a110 =>
  ∃ n111, (∀ w46, S45 w46 → World.cell? w46 (Addr.add a110 ((Int.toNat k_42) * 1)) = some (Value.int .i64 n111)) ∧
  Calls Tryd.prog 14 #[(Value.pointer p15), (Value.int .i64 n111)] (World.drew w44) fun e113 w114 =>
  ∃ b112, e113 = Ending.returned (Value.bool b112) ∧
  S45 w114 ∧
  V.sel (!b112)
  (R (Ending.returned (Value.bool false)) w114)
  (V.when (decide ((0 : Int) ≤ k_42 ∧ (k_42 : Int) < ((A24l : Nat) : Int))) (V.ptr A24 fun a115 =>
  ∃ n116, (∀ w46, S45 w46 → World.cell? w46 (Addr.add a115 ((Int.toNat k_42) * 1)) = some (Value.int .i64 n116)) ∧
  Calls Tryd.prog 12 #[(Value.pointer p15), (Value.int .i64 n116)] w114 fun e118 w119 =>
  ∃ n117, e118 = Ending.returned (Value.int .i64 n117) ∧
  S45 w119 ∧
  V.sel (n117 != k_42)
  (R (Ending.returned (Value.bool false)) w119)
  (V.when (decide ((0 : Int) ≤ k_42 ∧ (k_42 : Int) < ((A24l : Nat) : Int))) (V.ptr A24 fun a120 =>
  ∃ n121, (∀ w46, S45 w46 → World.cell? w46 (Addr.add a120 ((Int.toNat k_42) * 1)) = some (Value.int .i64 n121)) ∧
  Calls Tryd.prog 13 #[(Value.pointer p15), (Value.int .i64 k_42)] w119 fun e123 w124 =>
  ∃ n122, e123 = Ending.returned (Value.int .i64 n122) ∧
  S45 w124 ∧
  V.sel (n122 != n121)
  (R (Ending.returned (Value.bool false)) w124)
  (V.sel (decide ((IntKind.wrap .i64 (k_42 + 1)) < ((A24l : Nat) : Int)))
  (V.when (decide ((0 : Int) ≤ (IntKind.wrap .i64 (k_42 + 1)) ∧ ((IntKind.wrap .i64 (k_42 + 1)) : Int) < ((A24l : Nat) : Int))) (V.ptr A24 fun a125 =>
  ∃ n126, World.cell? w124 (Addr.add a125 ((Int.toNat (IntKind.wrap .i64 (k_42 + 1))) * 1)) = some (Value.int .i64 n126) ∧
  ∃ S127 : World → Prop, S127 (World.drew w124) ∧
  V.when (decide ((0 : Int) ≤ k_42 ∧ (k_42 : Int) < ((A24l : Nat) : Int))) (V.ptr A24 fun a129 =>
  ∃ n130, (∀ w128, S127 w128 → World.cell? w128 (Addr.add a129 ((Int.toNat k_42) * 1)) = some (Value.int .i64 n130)) ∧
  V.when (decide ((0 : Int) ≤ k_42 ∧ (k_42 : Int) < ((A24l : Nat) : Int))) (V.ptr A24 fun a131 =>
  ∃ n132, (∀ w128, S127 w128 → World.cell? w128 (Addr.add a131 ((Int.toNat k_42) * 1)) = some (Value.int .i64 n132)) ∧
  Calls Tryd.prog 15 #[(Value.pointer p15), (Value.int .i64 n130)] (World.drew w124) fun e134 w135 =>
  ∃ n133, e134 = Ending.returned (Value.int .i64 n133) ∧
  S127 w135 ∧
  V.sel (n133 != n132)
  (R (Ending.returned (Value.bool false)) w135)
  (V.when (decide ((0 : Int) ≤ k_42 ∧ (k_42 : Int) < ((A24l : Nat) : Int))) (V.ptr A24 fun a136 =>
  ∃ n137, (∀ w128, S127 w128 → World.cell? w128 (Addr.add a136 ((Int.toNat k_42) * 1)) = some (Value.int .i64 n137)) ∧
  V.when (decide ((0 : Int) ≤ k_42 ∧ (k_42 : Int) < ((A24l : Nat) : Int))) (V.ptr A24 fun a138 =>
  ∃ n139, (∀ w128, S127 w128 → World.cell? w128 (Addr.add a138 ((Int.toNat k_42) * 1)) = some (Value.int .i64 n139)) ∧
  Calls Tryd.prog 16 #[(Value.pointer p15), (Value.int .i64 n137)] w135 fun e141 w142 =>
  ∃ n140, e141 = Ending.returned (Value.int .i64 n140) ∧
  S127 w142 ∧
  V.sel (n140 != n139)
  (R (Ending.returned (Value.bool false)) w142)
  (V.when (decide ((0 : Int) ≤ k_42 ∧ (k_42 : Int) < ((A24l : Nat) : Int))) (V.ptr A24 fun a143 =>
  ∃ n144, (∀ w128, S127 w128 → World.cell? w128 (Addr.add a143 ((Int.toNat k_42) * 1)) = some (Value.int .i64 n144)) ∧
  Calls Tryd.prog 15 #[(Value.pointer p15), (Value.int .i64 (IntKind.wrap .i64 (n144 + 1)))] w142 fun e146 w147 =>
  ∃ n145, e146 = Ending.returned (Value.int .i64 n145) ∧
  S127 w147 ∧
  V.sel (n145 != n126)
  (R (Ending.returned (Value.bool false)) w147)
  (I40 (IntKind.wrap .i64 (k_42 + 1)) w147 ∧ μ41 (IntKind.wrap .i64 (k_42 + 1)) w147 < μ41 k_42 w44))))))))))
  (∃ S148 : World → Prop, S148 (World.drew w124) ∧
  V.when (decide ((0 : Int) ≤ k_42 ∧ (k_42 : Int) < ((A24l : Nat) : Int))) (V.ptr A24 fun a150 =>
  ∃ n151, (∀ w149, S148 w149 → World.cell? w149 (Addr.add a150 ((Int.toNat k_42) * 1)) = some (Value.int .i64 n151)) ∧
  V.when (decide ((0 : Int) ≤ k_42 ∧ (k_42 : Int) < ((A24l : Nat) : Int))) (V.ptr A24 fun a152 =>
  ∃ n153, (∀ w149, S148 w149 → World.cell? w149 (Addr.add a152 ((Int.toNat k_42) * 1)) = some (Value.int .i64 n153)) ∧
  Calls Tryd.prog 15 #[(Value.pointer p15), (Value.int .i64 n151)] (World.drew w124) fun e155 w156 =>
  ∃ n154, e155 = Ending.returned (Value.int .i64 n154) ∧
  S148 w156 ∧
  V.sel (n154 != n153)
  (R (Ending.returned (Value.bool false)) w156)
  (V.when (decide ((0 : Int) ≤ k_42 ∧ (k_42 : Int) < ((A24l : Nat) : Int))) (V.ptr A24 fun a157 =>
  ∃ n158, (∀ w149, S148 w149 → World.cell? w149 (Addr.add a157 ((Int.toNat k_42) * 1)) = some (Value.int .i64 n158)) ∧
  V.when (decide ((0 : Int) ≤ k_42 ∧ (k_42 : Int) < ((A24l : Nat) : Int))) (V.ptr A24 fun a159 =>
  ∃ n160, (∀ w149, S148 w149 → World.cell? w149 (Addr.add a159 ((Int.toNat k_42) * 1)) = some (Value.int .i64 n160)) ∧
  Calls Tryd.prog 16 #[(Value.pointer p15), (Value.int .i64 n158)] w156 fun e162 w163 =>
  ∃ n161, e162 = Ending.returned (Value.int .i64 n161) ∧
  S148 w163 ∧
  V.sel (n161 != n160)
  (R (Ending.returned (Value.bool false)) w163)
  (V.when (decide ((0 : Int) ≤ k_42 ∧ (k_42 : Int) < ((A24l : Nat) : Int))) (V.ptr A24 fun a164 =>
  ∃ n165, (∀ w149, S148 w149 → World.cell? w149 (Addr.add a164 ((Int.toNat k_42) * 1)) = some (Value.int .i64 n165)) ∧
  Calls Tryd.prog 15 #[(Value.pointer p15), (Value.int .i64 (IntKind.wrap .i64 (n165 + 1)))] w163 fun e167 w168 =>
  ∃ n166, e167 = Ending.returned (Value.int .i64 n166) ∧
  S148 w168 ∧
  V.sel (n166 != (-1))
  (R (Ending.returned (Value.bool false)) w168)
  (I40 (IntKind.wrap .i64 (k_42 + 1)) w168 ∧ μ41 (IntKind.wrap .i64 (k_42 + 1)) w168 < μ41 k_42 w44)))))))))))))))))
  (∃ I169 : Int → World → Prop, ∃ μ170 : Int → World → Nat, I169 0 w44 ∧
  ∀ i_171 (j172 : Nat → Value) (w173 : World), I169 i_171 w173 →
  (∃ A174, ∃ A174l, ∃ A174c, World.cell? w173 (Addr.add ⟨Array.size (World.heap w), 0, none⟩ 1) = some (Value.slice A174 A174l A174c) ∧
  V.sel (decide (i_171 < ((A174l : Nat) : Int)))
  (∃ S175 : World → Prop, S175 (World.drew w173) ∧
  ∃ A177, ∃ A177l, ∃ A177c, (∀ w176, S175 w176 → World.cell? w176 (Addr.add ⟨Array.size (World.heap w), 0, none⟩ 1) = some (Value.slice A177 A177l A177c)) ∧
  V.when (decide ((0 : Int) ≤ i_171 ∧ (i_171 : Int) < ((A177l : Nat) : Int))) (V.ptr A177 fun a178 =>
  ∃ n179, (∀ w176, S175 w176 → World.cell? w176 (Addr.add a178 ((Int.toNat i_171) * 1)) = some (Value.int .i64 n179)) ∧
  V.sel (decide (n179 ≥ 0))
  (∃ A180, ∃ A180l, ∃ A180c, (∀ w176, S175 w176 → World.cell? w176 (Addr.add ⟨Array.size (World.heap w), 0, none⟩ 1) = some (Value.slice A180 A180l A180c)) ∧
  V.when (decide ((0 : Int) ≤ i_171 ∧ (i_171 : Int) < ((A180l : Nat) : Int))) (V.ptr A180 fun a181 =>
  ∃ n182, (∀ w176, S175 w176 → World.cell? w176 (Addr.add a181 ((Int.toNat i_171) * 1)) = some (Value.int .i64 n182)) ∧
  ∃ n183, (∀ w176, S175 w176 → World.cell? w176 (Addr.add ⟨Array.size (World.heap w), 0, none⟩ 0) = some (Value.int .i64 n183)) ∧
  V.sel (decide (n182 < n183))
  (∃ A184, ∃ A184l, ∃ A184c, (∀ w176, S175 w176 → World.cell? w176 (Addr.add ⟨Array.size (World.heap w), 0, none⟩ 1) = some (Value.slice A184 A184l A184c)) ∧
  V.when (decide ((0 : Int) ≤ i_171 ∧ (i_171 : Int) < ((A184l : Nat) : Int))) (V.ptr A184 fun a185 =>
  ∃ n186, (∀ w176, S175 w176 → World.cell? w176 (Addr.add a185 ((Int.toNat i_171) * 1)) = some (Value.int .i64 n186)) ∧
  Calls Tryd.prog 14 #[(Value.pointer p15), (Value.int .i64 n186)] (World.drew w173) fun e188 w189 =>
  ∃ b187, e188 = Ending.returned (Value.bool b187) ∧
  S175 w189 ∧
  V.sel (!b187)
  (R (Ending.returned (Value.bool false)) w189)
  (I169 (IntKind.wrap .i64 (i_171 + 1)) w189 ∧ μ170 (IntKind.wrap .i64 (i_171 + 1)) w189 < μ170 i_171 w173)))
  (I169 (IntKind.wrap .i64 (i_171 + 1)) (World.drew w173) ∧ μ170 (IntKind.wrap .i64 (i_171 + 1)) (World.drew w173) < μ170 i_171 w173)))
  (I169 (IntKind.wrap .i64 (i_171 + 1)) (World.drew w173) ∧ μ170 (IntKind.wrap .i64 (i_171 + 1)) (World.drew w173) < μ170 i_171 w173)))
  (∃ A190, ∃ A190l, ∃ A190c, World.cell? w173 (Addr.add ⟨Array.size (World.heap w), 0, none⟩ 2) = some (Value.slice A190 A190l A190c) ∧
  Calls Tryd.prog 17 #[(Value.pointer p15), (Value.slice A190 A190l A190c)] w173 fun e192 w193 =>
  ∃ b191, e192 = Ending.returned (Value.bool b191) ∧
  R (Ending.returned (Value.bool b191)) w193))))))))))))) :
  Calls Tryd.prog 3 #[(Value.agg #[(Value.int .i64 x_1), (Value.slice x_2 x_2l x_2c), (Value.slice x_3 x_3l x_3c), (Value.slice x_4 x_4l x_4c)])] w R :=
  V.calls_of_R ⟨V.assoc [(0, [5]), (1, [7])], V.assocP [(6, V.line [0, 1, 2, 3, 5, 6, 4, 7, 8]), (14, V.line [0, 1, 2, 3, 4, 5, 6, 7, 8, 9, 10, 11, 12, 13, 14, 15, 16, 17, 18, 19, 20, 21, 22, 23, 24, 25, 26, 27, 28, 30, 29, 31, 32, 33, 34, 35, 37, 38, 39, 40, 36, 41, 42]), (19, V.line [0, 1, 2, 3, 4, 6, 7, 8, 9, 5, 10, 11, 12, 13, 14, 15, 16, 18, 19, 20, 21, 17, 22, 23, 24, 25, 26, 27, 28, 29, 30, 32, 31, 33, 34]), (24, V.line [0, 1, 2, 3, 4, 5, 6, 7, 8, 9, 10, 11, 12, 13, 14, 15, 16, 17, 18, 19, 20, 21, 22, 23, 24, 25])], V.assocC [], V.assocS [], ⟨[], true⟩⟩ Tryd.func3 rfl (Eq.mp (by kernel_rfl) h)

theorem berthlaw01_BitsetNil_nf (x_1 : Int) (x_2 : Option Addr) (x_2l : Nat) (x_2c : Nat) (x_3 : Option Addr) (x_3l : Nat) (x_3c : Nat) (x_4 : Option Addr) (x_4l : Nat) (x_4c : Nat) (w : World) (R : Ending → World → Prop) (h :
  ∀ w5, w5 = (World.alloc w (.cells #[(Value.int .i64 x_1), (Value.slice x_2 x_2l x_2c), (Value.slice x_3 x_3l x_3c), (Value.slice x_4 x_4l x_4c)] 24)) →
  Calls Tryd.prog 6 #[] w5 fun e7 w8 =>
  ∃ b6, e7 = Ending.returned (Value.bool b6) ∧
  V.sel (!b6)
  (Calls Tryd.prog 6 #[] w8 fun e10 w11 =>
  ∃ b9, e10 = Ending.returned (Value.bool b9) ∧
  R (Ending.returned (Value.bool b9)) w11)
  (∃ n12, World.cell? w8 (Addr.add ⟨Array.size (World.heap w), 0, none⟩ 0) = some (Value.int .i64 n12) ∧
  Calls Tryd.prog 7 #[(Value.int .i64 n12)] w8 fun e14 w15 =>
  ∃ b13, e14 = Ending.returned (Value.bool b13) ∧
  V.sel (!b13)
  (Calls Tryd.prog 6 #[] w15 fun e17 w18 =>
  ∃ b16, e17 = Ending.returned (Value.bool b16) ∧
  R (Ending.returned (Value.bool b16)) w18)
  (∃ n19, World.cell? w15 (Addr.add ⟨Array.size (World.heap w), 0, none⟩ 0) = some (Value.int .i64 n19) ∧
  ∃ A20, ∃ A20l, ∃ A20c, World.cell? w15 (Addr.add ⟨Array.size (World.heap w), 0, none⟩ 1) = some (Value.slice A20 A20l A20c) ∧
  Calls Tryd.prog 8 #[(Value.int .i64 n19), (Value.slice A20 A20l A20c)] w15 fun e22 w23 =>
  ∃ p21, e22 = Ending.returned (Value.pointer p21) ∧
  V.sel (Option.isNone p21)
  (R (Ending.returned (Value.bool false)) w23)
  (∃ I24 : Int → World → Prop, ∃ μ25 : Int → World → Nat, I24 0 w23 ∧
  ∀ j_26 (j27 : Nat → Value) (w28 : World), I24 j_26 w28 →
  (∃ A29, ∃ A29l, ∃ A29c, World.cell? w28 (Addr.add ⟨Array.size (World.heap w), 0, none⟩ 2) = some (Value.slice A29 A29l A29c) ∧
  V.sel (decide (j_26 < ((A29l : Nat) : Int)))
  (∃ A30, ∃ A30l, ∃ A30c, World.cell? w28 (Addr.add ⟨Array.size (World.heap w), 0, none⟩ 2) = some (Value.slice A30 A30l A30c) ∧
  V.when (decide ((0 : Int) ≤ j_26 ∧ (j_26 : Int) < ((A30l : Nat) : Int))) (V.ptr A30 fun a31 =>
  ∃ n32, World.cell? w28 (Addr.add a31 ((Int.toNat j_26) * 1)) = some (Value.int .i64 n32) ∧
  Calls Tryd.prog 14 #[(Value.pointer none), (Value.int .i64 n32)] w28 fun e34 w35 =>
  ∃ b33, e34 = Ending.returned (Value.bool b33) ∧
  V.sel b33
  (R (Ending.returned (Value.bool false)) w35)
  (Calls Tryd.prog 15 #[(Value.pointer none), (Value.int .i64 n32)] w35 fun e37 w38 =>
  ∃ n36, e37 = Ending.returned (Value.int .i64 n36) ∧
  V.sel (n36 != (-1))
  (R (Ending.returned (Value.bool false)) w38)
  (Calls Tryd.prog 16 #[(Value.pointer none), (Value.int .i64 n32)] w38 fun e40 w41 =>
  ∃ n39, e40 = Ending.returned (Value.int .i64 n39) ∧
  V.sel (n39 != (-1))
  (R (Ending.returned (Value.bool false)) w41)
  (Calls Tryd.prog 12 #[(Value.pointer none), (Value.int .i64 n32)] w41 fun e43 w44 =>
  ∃ n42, e43 = Ending.returned (Value.int .i64 n42) ∧
  V.sel (n42 != 0)
  (R (Ending.returned (Value.bool false)) w44)
  (Calls Tryd.prog 13 #[(Value.pointer none), (Value.int .i64 n32)] w44 fun e46 w47 =>
  ∃ n45, e46 = Ending.returned (Value.int .i64 n45) ∧
  V.sel (n45 != (-1))
  (R (Ending.returned (Value.bool false)) w47)
  (Calls Tryd.prog 18 #[(Value.pointer none), (Value.int .i64 n32)] w47 fun e49 w50 =>
  ∃ b48, e49 = Ending.returned (Value.bool b48) ∧
  V.sel b48
  (R (Ending.returned (Value.bool false)) w50)
  (Calls Tryd.prog 19 #[(Value.pointer none), (Value.int .i64 n32)] w50 fun e52 w53 =>
  ∃ b51, e52 = Ending.returned (Value.bool b51) ∧
  V.sel b51
  (R (Ending.returned (Value.bool false)) w53)
  (Calls Tryd.prog 21 #[(Value.pointer none), (Value.int .i64 n32)] w53 fun e55 w56 =>
  ∃ n54, e55 = Ending.returned (Value.int .i64 n54) ∧
  Calls Tryd.prog 20 #[(Value.int .i64 n54)] w56 fun e58 w59 =>
  ∃ n57, e58 = Ending.returned (Value.int .i64 n57) ∧
  V.sel (n57 != 1)
  (R (Ending.returned (Value.bool false)) w59)
  (I24 (IntKind.wrap .i64 (j_26 + 1)) w59 ∧ μ25 (IntKind.wrap .i64 (j_26 + 1)) w59 < μ25 j_26 w28))))))))))
  (Calls Tryd.prog 22 #[(Value.pointer none), (Value.pointer p21)] w28 fun e60 w61 =>
  e60 = Ending.returned undef ∧
  Calls Tryd.prog 23 #[(Value.pointer none), (Value.pointer p21)] w61 fun e62 w63 =>
  e62 = Ending.returned undef ∧
  Calls Tryd.prog 24 #[(Value.pointer none), (Value.pointer p21)] w63 fun e64 w65 =>
  e64 = Ending.returned undef ∧
  Calls Tryd.prog 9 #[(Value.pointer none)] w65 fun e67 w68 =>
  ∃ n66, e67 = Ending.returned (Value.int .i64 n66) ∧
  V.sel (n66 != 0)
  (R (Ending.returned (Value.bool false)) w68)
  (Calls Tryd.prog 11 #[(Value.pointer none)] w68 fun e70 w71 =>
  ∃ n69, e70 = Ending.returned (Value.int .i64 n69) ∧
  V.sel (n69 != 0)
  (R (Ending.returned (Value.bool false)) w71)
  (Calls Tryd.prog 10 #[(Value.pointer none)] w71 fun e73 w74 =>
  ∃ A72, ∃ A72l, ∃ A72c, e73 = Ending.returned (Value.slice A72 A72l A72c) ∧
  V.sel (((A72l : Nat) : Int) != 0)
  (R (Ending.returned (Value.bool false)) w74)
  (Calls Tryd.prog 25 #[(Value.pointer none)] w74 fun e76 w77 =>
  ∃ A75, ∃ A75l, ∃ A75c, e76 = Ending.returned (Value.slice A75 A75l A75c) ∧
  V.sel (((A75l : Nat) : Int) != 0)
  (R (Ending.returned (Value.bool false)) w77)
  (Calls Tryd.prog 26 #[(Value.pointer none), (Value.int .i64 1)] w77 fun e79 w80 =>
  ∃ A78, ∃ A78l, ∃ A78c, e79 = Ending.returned (Value.slice A78 A78l A78c) ∧
  V.sel (((A78l : Nat) : Int) != 0)
  (R (Ending.returned (Value.bool false)) w80)
  (Calls Tryd.prog 27 #[(Value.pointer none)] w80 fun e82 w83 =>
  ∃ p81, e82 = Ending.returned (Value.pointer p81) ∧
  Calls Tryd.prog 28 #[(Value.pointer p21), (Value.pointer none)] w83 fun e85 w86 =>
  ∃ p84, e85 = Ending.returned (Value.pointer p84) ∧
  Calls Tryd.prog 29 #[(Value.pointer none), (Value.pointer p21)] w86 fun e88 w89 =>
  ∃ p87, e88 = Ending.returned (Value.pointer p87) ∧
  Calls Tryd.prog 30 #[(Value.pointer p21), (Value.pointer none)] w89 fun e91 w92 =>
  ∃ p90, e91 = Ending.returned (Value.pointer p90) ∧
  Calls Tryd.prog 31 #[(Value.pointer none), (Value.pointer p21)] w92 fun e94 w95 =>
  ∃ p93, e94 = Ending.returned (Value.pointer p93) ∧
  Calls Tryd.prog 32 #[(Value.pointer p21), (Value.pointer none)] w95 fun e97 w98 =>
  ∃ p96, e97 = Ending.returned (Value.pointer p96) ∧
  ∃ S99 : World → Prop, S99 (World.drew w98) ∧
  ∀ w101, w101 = (World.alloc (World.drew w98) (.cells #[(Value.pointer p81), (Value.pointer p84), (Value.pointer p87), (Value.pointer p90), (Value.pointer p93), (Value.pointer p96)] 27)) →
  S99 w101 ∧
  Calls Tryd.prog 33 #[(Value.slice (some ⟨Array.size (World.heap (World.drew w98)), 0, none⟩) 6 6)] w101 fun e103 w104 =>
  ∃ b102, e103 = Ending.returned (Value.bool b102) ∧
  S99 w104 ∧
  V.sel (!b102)
  (R (Ending.returned (Value.bool false)) w104)
  (Calls Tryd.prog 9 #[(Value.pointer p81)] w104 fun e106 w107 =>
  ∃ n105, e106 = Ending.returned (Value.int .i64 n105) ∧
  S99 w107 ∧
  V.sel (n105 != 0)
  (R (Ending.returned (Value.bool false)) w107)
  (Calls Tryd.prog 9 #[(Value.pointer p96)] w107 fun e109 w110 =>
  ∃ n108, e109 = Ending.returned (Value.int .i64 n108) ∧
  S99 w110 ∧
  V.sel (n108 != 0)
  (R (Ending.returned (Value.bool false)) w110)
  (∃ n111, (∀ w100, S99 w100 → World.cell? w100 (Addr.add ⟨Array.size (World.heap w), 0, none⟩ 0) = some (Value.int .i64 n111)) ∧
  Calls Tryd.prog 9 #[(Value.pointer p84)] w110 fun e113 w114 =>
  ∃ n112, e113 = Ending.returned (Value.int .i64 n112) ∧
  S99 w114 ∧
  V.sel (n112 != n111)
  (R (Ending.returned (Value.bool false)) w114)
  (∃ n115, (∀ w100, S99 w100 → World.cell? w100 (Addr.add ⟨Array.size (World.heap w), 0, none⟩ 0) = some (Value.int .i64 n115)) ∧
  Calls Tryd.prog 9 #[(Value.pointer p87)] w114 fun e117 w118 =>
  ∃ n116, e117 = Ending.returned (Value.int .i64 n116) ∧
  S99 w118 ∧
  V.sel (n116 != n115)
  (R (Ending.returned (Value.bool false)) w118)
  (Calls Tryd.prog 34 #[(Value.pointer p87), (Value.pointer p21)] w118 fun e120 w121 =>
  ∃ b119, e120 = Ending.returned (Value.bool b119) ∧
  V.sel (!b119)
  (R (Ending.returned (Value.bool false)) w121)
  (Calls Tryd.prog 34 #[(Value.pointer p90), (Value.pointer p21)] w121 fun e123 w124 =>
  ∃ b122, e123 = Ending.returned (Value.bool b122) ∧
  V.sel (!b122)
  (R (Ending.returned (Value.bool false)) w124)
  (Calls Tryd.prog 34 #[(Value.pointer p93), (Value.pointer p21)] w124 fun e126 w127 =>
  ∃ b125, e126 = Ending.returned (Value.bool b125) ∧
  V.sel (!b125)
  (R (Ending.returned (Value.bool false)) w127)
  (Calls Tryd.prog 11 #[(Value.pointer p84)] w127 fun e129 w130 =>
  ∃ n128, e129 = Ending.returned (Value.int .i64 n128) ∧
  V.sel (n128 != 0)
  (R (Ending.returned (Value.bool false)) w130)
  (Calls Tryd.prog 32 #[(Value.pointer none), (Value.pointer p21)] w130 fun e132 w133 =>
  ∃ p131, e132 = Ending.returned (Value.pointer p131) ∧
  Calls Tryd.prog 34 #[(Value.pointer p131), (Value.pointer p21)] w133 fun e135 w136 =>
  ∃ b134, e135 = Ending.returned (Value.bool b134) ∧
  V.sel (!b134)
  (R (Ending.returned (Value.bool false)) w136)
  (Calls Tryd.prog 24 #[(Value.pointer p21), (Value.pointer none)] w136 fun e137 w138 =>
  e137 = Ending.returned undef ∧
  Calls Tryd.prog 23 #[(Value.pointer p21), (Value.pointer none)] w138 fun e139 w140 =>
  e139 = Ending.returned undef ∧
  Calls Tryd.prog 34 #[(Value.pointer p87), (Value.pointer p21)] w140 fun e142 w143 =>
  ∃ b141, e142 = Ending.returned (Value.bool b141) ∧
  V.sel (!b141)
  (R (Ending.returned (Value.bool false)) w143)
  (Calls Tryd.prog 35 #[(Value.pointer none), (Value.pointer p21)] w143 fun e145 w146 =>
  ∃ b144, e145 = Ending.returned (Value.bool b144) ∧
  V.sel (!b144)
  (R (Ending.returned (Value.bool false)) w146)
  (Calls Tryd.prog 36 #[(Value.pointer p21), (Value.pointer none)] w146 fun e148 w149 =>
  ∃ b147, e148 = Ending.returned (Value.bool b147) ∧
  V.sel b147
  (R (Ending.returned (Value.bool false)) w149)
  (Calls Tryd.prog 34 #[(Value.pointer p21), (Value.pointer none)] w149 fun e151 w152 =>
  ∃ b150, e151 = Ending.returned (Value.bool b150) ∧
  Calls Tryd.prog 11 #[(Value.pointer p21)] w152 fun e154 w155 =>
  ∃ n153, e154 = Ending.returned (Value.int .i64 n153) ∧
  V.sel (!(b150 == (n153 == 0)))
  (R (Ending.returned (Value.bool false)) w155)
  (Calls Tryd.prog 22 #[(Value.pointer p21), (Value.pointer none)] w155 fun e156 w157 =>
  e156 = Ending.returned undef ∧
  Calls Tryd.prog 11 #[(Value.pointer p21)] w157 fun e159 w160 =>
  ∃ n158, e159 = Ending.returned (Value.int .i64 n158) ∧
  V.sel (n158 == 0)
  (Calls Tryd.prog 34 #[(Value.pointer none), (Value.pointer none)] w160 fun e162 w163 =>
  ∃ b161, e162 = Ending.returned (Value.bool b161) ∧
  R (Ending.returned (Value.bool b161)) w163)
  (R (Ending.returned (Value.bool false)) w160)))))))))))))))))))))))))) :
  Calls Tryd.prog 4 #[(Value.agg #[(Value.int .i64 x_1), (Value.slice x_2 x_2l x_2c), (Value.slice x_3 x_3l x_3c), (Value.slice x_4 x_4l x_4c)])] w R :=
  V.calls_of_R ⟨V.assoc [(0, [5])], V.assocP [(20, V.line [0, 1, 2, 3, 4, 5, 6, 7, 8, 9, 10, 11, 12, 13, 14, 15, 16, 17, 18, 19, 20, 22, 23, 21, 24, 25, 26, 27, 29, 30, 28, 31, 32])], V.assocC [], V.assocS [], ⟨[], true⟩⟩ Tryd.func4 rfl (Eq.mp (by kernel_rfl) h)

theorem berthlaw01_BitsetPlays_nf (script_1 : Option Addr) (script_1l : Nat) (script_1c : Nat) (w : World) (R : Ending → World → Prop) (h :
  Calls Tryd.prog 6 #[] w fun e3 w4 =>
  ∃ b2, e3 = Ending.returned (Value.bool b2) ∧
  V.sel (!b2)
  (R (Ending.returned (Value.bool false)) w4)
  (∀ w5, w5 = (World.alloc w4 (.cells #[(Value.pointer none), (Value.pointer none), (Value.pointer none), (Value.pointer none), (Value.int .i64 0), (Value.slice none 0 0), (Value.int .i64 0), (Value.slice none 0 0), (Value.int .i64 0), (Value.slice none 0 0), (Value.int .i64 0), (Value.slice none 0 0), (Value.bool true), (Value.bool true), (Value.bool true), (Value.bool true)] 53)) →
  ∃ I6 : Int → World → Prop, ∃ μ7 : Int → World → Nat, I6 0 w5 ∧
  ∀ i_8 (j9 : Nat → Value) (w10 : World), I6 i_8 w10 →
  (V.sel (decide (i_8 < ((script_1l : Nat) : Int)))
  (V.when (decide ((0 : Int) ≤ i_8 ∧ (i_8 : Int) < ((script_1l : Nat) : Int))) (V.ptr script_1 fun a11 =>
  ∃ n12, ∃ n13, ∃ n14, ∃ n15, ∃ n16, ∃ A17, ∃ A17l, ∃ A17c, ∃ A18, ∃ A18l, ∃ A18c, V.cellsC (fun a_ x_ => World.cell? w10 a_ = some x_) (Addr.add a11 ((Int.toNat i_8) * 7)) [(Value.int .i64 n12), (Value.int .i64 n13), (Value.int .i64 n14), (Value.int .i64 n15), (Value.int .i64 n16), (Value.slice A17 A17l A17c), (Value.slice A18 A18l A18c)] ∧
  Calls Tryd.prog 37 #[(Value.pointer (some ⟨Array.size (World.heap w4), 0, none⟩)), (Value.agg #[(Value.int .i64 n12), (Value.int .i64 n13), (Value.int .i64 n14), (Value.int .i64 n15), (Value.int .i64 n16), (Value.slice A17 A17l A17c), (Value.slice A18 A18l A18c)])] w10 fun e20 w21 =>
  ∃ b19, e20 = Ending.returned (Value.bool b19) ∧
  V.sel (!b19)
  (R (Ending.returned (Value.bool false)) w21)
  (I6 (IntKind.wrap .i64 (i_8 + 1)) w21 ∧ μ7 (IntKind.wrap .i64 (i_8 + 1)) w21 < μ7 i_8 w10)))
  (R (Ending.returned (Value.bool true)) w10)))) :
  Calls Tryd.prog 5 #[(Value.slice script_1 script_1l script_1c)] w R :=
  V.calls_of_R ⟨V.assoc [(0, [4])], V.assocP [], V.assocC [], V.assocS [], ⟨[], true⟩⟩ Tryd.func5 rfl (Eq.mp (by kernel_rfl) h)

theorem berthlaw01_awake_nf  (w : World) (R : Ending → World → Prop) (h :
  Calls Tryd.prog 38 #[(Value.int .i64 3), (Value.slice (some ⟨Array.size (World.heap w), 0, none⟩) 2 2)] (World.alloc w (.cells #[(Value.int .i64 2), (Value.int .i64 0)] 3)) fun e3 w4 =>
  ∃ p1, ∃ n2, e3 = Ending.returned (Value.tuple #[(Value.pointer p1), (Value.int .i64 n2)]) ∧
  V.sel (Option.isNone p1)
  (R (Ending.returned (Value.bool false)) w4)
  (Calls Tryd.prog 20 #[(Value.int .i64 n2)] w4 fun e6 w7 =>
  ∃ n5, e6 = Ending.returned (Value.int .i64 n5) ∧
  V.sel (n5 != 0)
  (R (Ending.returned (Value.bool false)) w7)
  (Calls Tryd.prog 10 #[(Value.pointer p1)] w7 fun e9 w10 =>
  ∃ A8, ∃ A8l, ∃ A8c, e9 = Ending.returned (Value.slice A8 A8l A8c) ∧
  V.sel (((A8l : Nat) : Int) == 2)
  (V.when (decide ((0 : Int) ≤ 0 ∧ (0 : Int) < ((A8l : Nat) : Int))) (V.ptr A8 fun a11 =>
  ∃ n12, World.cell? w10 (Addr.add a11 0) = some (Value.int .i64 n12) ∧
  V.sel (n12 == 0)
  (V.when (decide ((0 : Int) ≤ 1 ∧ (1 : Int) < ((A8l : Nat) : Int))) (V.ptr A8 fun a13 =>
  ∃ n14, World.cell? w10 (Addr.add a13 1) = some (Value.int .i64 n14) ∧
  R (Ending.returned (Value.bool (n14 == 2))) w10))
  (R (Ending.returned (Value.bool false)) w10)))
  (R (Ending.returned (Value.bool false)) w10)))) :
  Calls Tryd.prog 6 #[] w R :=
  V.calls_of_R ⟨V.assoc [], V.assocP [], V.assocC [], V.assocS [], ⟨[], false⟩⟩ Tryd.func6 rfl (Eq.mp (by kernel_rfl) h)

theorem berthlaw01_sized_nf (n_1 : Int) (w : World) (R : Ending → World → Prop) (h :
  V.sel (decide (n_1 ≥ 0))
  (R (Ending.returned (Value.bool (decide (n_1 ≤ 65536)))) w)
  (R (Ending.returned (Value.bool false)) w)) :
  Calls Tryd.prog 7 #[(Value.int .i64 n_1)] w R :=
  V.calls_of_R ⟨V.assoc [], V.assocP [], V.assocC [], V.assocS [], ⟨[], false⟩⟩ Tryd.func7 rfl (Eq.mp (by kernel_rfl) h)

theorem berthlaw01_of_nf (n_1 : Int) (l_2 : Option Addr) (l_2l : Nat) (l_2c : Nat) (w : World) (R : Ending → World → Prop) (h :
  ∃ I3 : Option Addr → Nat → Nat → Int → World → Prop, ∃ μ4 : Option Addr → Nat → Nat → Int → World → Nat, I3 none 0 0 0 w ∧
  ∀ in_5 in_5l in_5c i_6 (j7 : Nat → Value) (w8 : World), I3 in_5 in_5l in_5c i_6 w8 →
  (V.sel (decide (i_6 < ((l_2l : Nat) : Int)))
  (V.when (decide ((0 : Int) ≤ i_6 ∧ (i_6 : Int) < ((l_2l : Nat) : Int))) (V.ptr l_2 fun a9 =>
  ∃ n10, World.cell? w8 (Addr.add a9 ((Int.toNat i_6) * 1)) = some (Value.int .i64 n10) ∧
  V.sel (decide (n10 ≥ 0))
  (V.when (decide ((0 : Int) ≤ i_6 ∧ (i_6 : Int) < ((l_2l : Nat) : Int))) (V.ptr l_2 fun a11 =>
  ∃ n12, World.cell? w8 (Addr.add a11 ((Int.toNat i_6) * 1)) = some (Value.int .i64 n12) ∧
  V.sel (decide (n12 < n_1))
  (V.when (decide ((0 : Int) ≤ i_6 ∧ (i_6 : Int) < ((l_2l : Nat) : Int))) (V.ptr l_2 fun a13 =>
  ∃ n14, World.cell? w8 (Addr.add a13 ((Int.toNat i_6) * 1)) = some (Value.int .i64 n14) ∧
  ∃ A15, ∃ A15l, ∃ A15c, ∃ w16, Sem.run Tryd.prog (Builtin.append_ #[22, 22] 22 #[(Value.slice in_5 in_5l in_5c), (Value.slice (some ⟨Array.size (World.heap w8), 0, none⟩) 1 1)]) (World.alloc w8 (.cells #[(Value.int .i64 n14)] 3)) = .ok (Value.slice A15 A15l A15c) w16 ∧
  I3 A15 A15l A15c (IntKind.wrap .i64 (i_6 + 1)) w16 ∧ μ4 A15 A15l A15c (IntKind.wrap .i64 (i_6 + 1)) w16 < μ4 in_5 in_5l in_5c i_6 w8))
  (I3 in_5 in_5l in_5c (IntKind.wrap .i64 (i_6 + 1)) w8 ∧ μ4 in_5 in_5l in_5c (IntKind.wrap .i64 (i_6 + 1)) w8 < μ4 in_5 in_5l in_5c i_6 w8)))
  (I3 in_5 in_5l in_5c (IntKind.wrap .i64 (i_6 + 1)) w8 ∧ μ4 in_5 in_5l in_5c (IntKind.wrap .i64 (i_6 + 1)) w8 < μ4 in_5 in_5l in_5c i_6 w8)))
  (Calls Tryd.prog 38 #[(Value.int .i64 n_1), (Value.slice in_5 in_5l in_5c)] w8 fun e19 w20 =>
  ∃ p17, ∃ n18, e19 = Ending.returned (Value.tuple #[(Value.pointer p17), (Value.int .i64 n18)]) ∧
  R (Ending.returned (Value.pointer p17)) w20))) :
  Calls Tryd.prog 8 #[(Value.int .i64 n_1), (Value.slice l_2 l_2l l_2c)] w R :=
  V.calls_of_R ⟨V.assoc [(0, [5, 6])], V.assocP [], V.assocC [], V.assocS [], ⟨[], false⟩⟩ Tryd.func8 rfl (Eq.mp (by kernel_rfl) h)

theorem bitset_Set_Size_nf (s_1 : Option Addr) (w : World) (R : Ending → World → Prop) (h :
  V.sel (Option.isNone s_1)
  (R (Ending.returned (Value.int .i64 0)) w)
  (V.ptr s_1 fun a2 =>
  ∃ n3, World.cell? w (Addr.add a2 0) = some (Value.int .i64 n3) ∧
  R (Ending.returned (Value.int .i64 n3)) w)) :
  Calls Tryd.prog 9 #[(Value.pointer s_1)] w R :=
  V.calls_of_R ⟨V.assoc [], V.assocP [], V.assocC [], V.assocS [], ⟨[], false⟩⟩ Tryd.func9 rfl (Eq.mp (by kernel_rfl) h)

theorem bitset_Set_Members_nf (s_1 : Option Addr) (w : World) (R : Ending → World → Prop) (h :
  Calls Tryd.prog 11 #[(Value.pointer s_1)] w fun e3 w4 =>
  ∃ n2, e3 = Ending.returned (Value.int .i64 n2) ∧
  V.when (decide ((0 : Int) ≤ 0 ∧ (0 : Int) ≤ n2 ∧ (n2 : Int) ≤ 281474976710656 ∧ (8 : Int) * n2 ≤ 281474976710656)) (Calls Tryd.prog 9 #[(Value.pointer s_1)] (World.alloc w4 (.cells ⟨V.rep (Int.toNat n2) [(Value.int .i64 0)]⟩ 3)) fun e6 w7 =>
  ∃ n5, e6 = Ending.returned (Value.int .i64 n5) ∧
  ∃ I8 : Option Addr → Nat → Nat → Int → World → Prop, ∃ μ9 : Option Addr → Nat → Nat → Int → World → Nat, I8 (some ⟨Array.size (World.heap w4), 0, none⟩) 0 (Int.toNat n2) 0 w7 ∧
  ∀ out_10 out_10l out_10c t10_11 (j12 : Nat → Value) (w13 : World), I8 out_10 out_10l out_10c t10_11 w13 →
  (V.sel (decide (t10_11 < n5))
  (Calls Tryd.prog 14 #[(Value.pointer s_1), (Value.int .i64 t10_11)] w13 fun e15 w16 =>
  ∃ b14, e15 = Ending.returned (Value.bool b14) ∧
  V.sel b14
  (∃ A17, ∃ A17l, ∃ A17c, ∃ w18, Sem.run Tryd.prog (Builtin.append_ #[22, 22] 22 #[(Value.slice out_10 out_10l out_10c), (Value.slice (some ⟨Array.size (World.heap w16), 0, none⟩) 1 1)]) (World.alloc w16 (.cells #[(Value.int .i64 t10_11)] 3)) = .ok (Value.slice A17 A17l A17c) w18 ∧
  I8 A17 A17l A17c (IntKind.wrap .i64 (t10_11 + 1)) w18 ∧ μ9 A17 A17l A17c (IntKind.wrap .i64 (t10_11 + 1)) w18 < μ9 out_10 out_10l out_10c t10_11 w13)
  (I8 out_10 out_10l out_10c (IntKind.wrap .i64 (t10_11 + 1)) w16 ∧ μ9 out_10 out_10l out_10c (IntKind.wrap .i64 (t10_11 + 1)) w16 < μ9 out_10 out_10l out_10c t10_11 w13))
  (R (Ending.returned (Value.slice out_10 out_10l out_10c)) w13)))) :
  Calls Tryd.prog 10 #[(Value.pointer s_1)] w R :=
  V.calls_of_R ⟨V.assoc [(0, [3, 10])], V.assocP [], V.assocC [], V.assocS [], ⟨[], false⟩⟩ Tryd.func10 rfl (Eq.mp (by kernel_rfl) h)

theorem bitset_Set_Count_nf (s_1 : Option Addr) (w : World) (R : Ending → World → Prop) (h :
  Calls Tryd.prog 9 #[(Value.pointer s_1)] w fun e3 w4 =>
  ∃ n2, e3 = Ending.returned (Value.int .i64 n2) ∧
  Calls Tryd.prog 12 #[(Value.pointer s_1), (Value.int .i64 n2)] w4 fun e6 w7 =>
  ∃ n5, e6 = Ending.returned (Value.int .i64 n5) ∧
  R (Ending.returned (Value.int .i64 n5)) w7) :
  Calls Tryd.prog 11 #[(Value.pointer s_1)] w R :=
  V.calls_of_R ⟨V.assoc [], V.assocP [], V.assocC [], V.assocS [], ⟨[], false⟩⟩ Tryd.func11 rfl (Eq.mp (by kernel_rfl) h)

theorem bitset_Set_Rank_nf (s_1 : Option Addr) (i_2 : Int) (w : World) (R : Ending → World → Prop) (h :
  Calls Tryd.prog 9 #[(Value.pointer s_1)] w fun e4 w5 =>
  ∃ n3, e4 = Ending.returned (Value.int .i64 n3) ∧
  V.sel (decide ((if n3 < i_2 then n3 else i_2) ≤ 0))
  (R (Ending.returned (Value.int .i64 0)) w5)
  (∃ I6 : Int → Int → World → Prop, ∃ μ7 : Int → Int → World → Nat, I6 0 0 w5 ∧
  ∀ n_8 t15_9 (j10 : Nat → Value) (w11 : World), I6 n_8 t15_9 w11 →
  (V.sel (decide (t15_9 < (IntKind.wrap .i64 (Int.tdiv (if n3 < i_2 then n3 else i_2) 64))))
  (V.ptr s_1 fun a12 =>
  ∃ A13, ∃ A13l, ∃ A13c, World.cell? w11 (Addr.add a12 1) = some (Value.slice A13 A13l A13c) ∧
  V.when (decide ((0 : Int) ≤ t15_9 ∧ (t15_9 : Int) < ((A13l : Nat) : Int))) (V.ptr A13 fun a14 =>
  ∃ n15, World.cell? w11 (Addr.add a14 ((Int.toNat t15_9) * 1)) = some (Value.int .u64 n15) ∧
  Calls Tryd.prog 39 #[(Value.int .u64 n15)] w11 fun e17 w18 =>
  ∃ n16, e17 = Ending.returned (Value.int .i64 n16) ∧
  I6 (IntKind.wrap .i64 (n_8 + n16)) (IntKind.wrap .i64 (t15_9 + 1)) w18 ∧ μ7 (IntKind.wrap .i64 (n_8 + n16)) (IntKind.wrap .i64 (t15_9 + 1)) w18 < μ7 n_8 t15_9 w11))
  (V.sel ((Int.tmod (if n3 < i_2 then n3 else i_2) 64) != 0)
  (V.ptr s_1 fun a19 =>
  ∃ A20, ∃ A20l, ∃ A20c, World.cell? w11 (Addr.add a19 1) = some (Value.slice A20 A20l A20c) ∧
  V.when (decide ((0 : Int) ≤ (IntKind.wrap .i64 (Int.tdiv (if n3 < i_2 then n3 else i_2) 64)) ∧ ((IntKind.wrap .i64 (Int.tdiv (if n3 < i_2 then n3 else i_2) 64)) : Int) < ((A20l : Nat) : Int))) (V.ptr A20 fun a21 =>
  ∃ n22, World.cell? w11 (Addr.add a21 ((Int.toNat (IntKind.wrap .i64 (Int.tdiv (if n3 < i_2 then n3 else i_2) 64))) * 1)) = some (Value.int .u64 n22) ∧
  V.when (decide (0 ≤ (IntKind.wrap .i64 (64 - (Int.tmod (if n3 < i_2 then n3 else i_2) 64))))) (Calls Tryd.prog 39 #[(Value.int .u64 (IntKind.wrap .u64 (n22 * 2 ^ (min (Int.toNat (IntKind.wrap .i64 (64 - (Int.tmod (if n3 < i_2 then n3 else i_2) 64)))) 64))))] w11 fun e24 w25 =>
  ∃ n23, e24 = Ending.returned (Value.int .i64 n23) ∧
  R (Ending.returned (Value.int .i64 (IntKind.wrap .i64 (n_8 + n23)))) w25)))
  (R (Ending.returned (Value.int .i64 n_8)) w11))))) :
  Calls Tryd.prog 12 #[(Value.pointer s_1), (Value.int .i64 i_2)] w R :=
  V.calls_of_R ⟨V.assoc [(0, [5, 15])], V.assocP [], V.assocC [], V.assocS [], ⟨[], false⟩⟩ Tryd.func12 rfl (Eq.mp (by kernel_rfl) h)

theorem bitset_Set_Select_nf (s_1 : Option Addr) (k_2 : Int) (w : World) (R : Ending → World → Prop) (h :
  V.sel (Option.isNone s_1)
  (R (Ending.returned (Value.int .i64 (-1))) w)
  (V.sel (decide (k_2 < 0))
  (R (Ending.returned (Value.int .i64 (-1))) w)
  (V.ptr s_1 fun a3 =>
  ∃ A4, ∃ A4l, ∃ A4c, World.cell? w (Addr.add a3 1) = some (Value.slice A4 A4l A4c) ∧
  ∃ I5 : Int → Int → World → Prop, ∃ μ6 : Int → Int → World → Nat, I5 k_2 0 w ∧
  ∀ k_7 t19_8 (j9 : Nat → Value) (w10 : World), I5 k_7 t19_8 w10 →
  (V.sel (decide (t19_8 < ((A4l : Nat) : Int)))
  (V.when (decide ((0 : Int) ≤ t19_8 ∧ (t19_8 : Int) < ((A4l : Nat) : Int))) (V.ptr A4 fun a11 =>
  ∃ n12, World.cell? w10 (Addr.add a11 ((Int.toNat t19_8) * 1)) = some (Value.int .u64 n12) ∧
  Calls Tryd.prog 39 #[(Value.int .u64 n12)] w10 fun e14 w15 =>
  ∃ n13, e14 = Ending.returned (Value.int .i64 n13) ∧
  V.sel (decide (k_7 ≥ n13))
  (I5 (IntKind.wrap .i64 (k_7 - n13)) (IntKind.wrap .i64 (t19_8 + 1)) w15 ∧ μ6 (IntKind.wrap .i64 (k_7 - n13)) (IntKind.wrap .i64 (t19_8 + 1)) w15 < μ6 k_7 t19_8 w10)
  (∃ I16 : Int → Int → World → Prop, ∃ μ17 : Int → Int → World → Nat, I16 k_7 n12 w15 ∧
  ∀ k_18 x_19 (j20 : Nat → Value) (w21 : World), I16 k_18 x_19 w21 →
  (V.sel (decide (k_18 > 0))
  (V.lt (IntKind.wrap .u64 ((BitVec.toNat (BitVec.ofInt 64 x_19 &&& BitVec.ofInt 64 (IntKind.wrap .u64 (x_19 - 1))) : Nat) : Int)) fun x22 =>
  I16 (IntKind.wrap .i64 (k_18 - 1)) x22 w21 ∧ μ17 (IntKind.wrap .i64 (k_18 - 1)) x22 w21 < μ17 k_18 x_19 w21)
  (Calls Tryd.prog 40 #[(Value.int .u64 x_19)] w21 fun e24 w25 =>
  ∃ n23, e24 = Ending.returned (Value.int .i64 n23) ∧
  V.lt (IntKind.wrap .i64 ((IntKind.wrap .i64 (64 * t19_8)) + n23)) fun x26 =>
  R (Ending.returned (Value.int .i64 x26)) w25)))))
  (R (Ending.returned (Value.int .i64 (-1))) w10))))) :
  Calls Tryd.prog 13 #[(Value.pointer s_1), (Value.int .i64 k_2)] w R :=
  V.calls_of_R ⟨V.assoc [(0, [1, 19]), (1, [1, 6])], V.assocP [], V.assocC [], V.assocS [], ⟨[], true⟩⟩ Tryd.func13 rfl (Eq.mp (by kernel_rfl) h)

theorem bitset_Set_Has_nf (s_1 : Option Addr) (i_2 : Int) (w : World) (R : Ending → World → Prop) (h :
  Calls Tryd.prog 41 #[(Value.pointer s_1), (Value.int .i64 i_2)] w fun e4 w5 =>
  ∃ b3, e4 = Ending.returned (Value.bool b3) ∧
  V.sel b3
  (V.ptr s_1 fun a6 =>
  ∃ A7, ∃ A7l, ∃ A7c, World.cell? w5 (Addr.add a6 1) = some (Value.slice A7 A7l A7c) ∧
  V.when (decide ((0 : Int) ≤ (IntKind.wrap .i64 (Int.tdiv i_2 64)) ∧ ((IntKind.wrap .i64 (Int.tdiv i_2 64)) : Int) < ((A7l : Nat) : Int))) (V.ptr A7 fun a8 =>
  ∃ n9, World.cell? w5 (Addr.add a8 ((Int.toNat (IntKind.wrap .i64 (Int.tdiv i_2 64))) * 1)) = some (Value.int .u64 n9) ∧
  V.when (decide (0 ≤ (Int.tmod i_2 64))) (R (Ending.returned (Value.bool ((IntKind.wrap .u64 ((BitVec.toNat (BitVec.ofInt 64 (Int.fdiv n9 (2 ^ (min (Int.toNat (Int.tmod i_2 64)) 64))) &&& BitVec.ofInt 64 1) : Nat) : Int)) == 1))) w5)))
  (R (Ending.returned (Value.bool false)) w5)) :
  Calls Tryd.prog 14 #[(Value.pointer s_1), (Value.int .i64 i_2)] w R :=
  V.calls_of_R ⟨V.assoc [], V.assocP [], V.assocC [], V.assocS [], ⟨[], false⟩⟩ Tryd.func14 rfl (Eq.mp (by kernel_rfl) h)

theorem bitset_Set_Next_nf (s_1 : Option Addr) (i_2 : Int) (w : World) (R : Ending → World → Prop) (h :
  Calls Tryd.prog 9 #[(Value.pointer s_1)] w fun e4 w5 =>
  ∃ n3, e4 = Ending.returned (Value.int .i64 n3) ∧
  V.sel (decide ((if 0 > i_2 then 0 else i_2) ≥ n3))
  (R (Ending.returned (Value.int .i64 (-1))) w5)
  (V.ptr s_1 fun a6 =>
  ∃ A7, ∃ A7l, ∃ A7c, World.cell? w5 (Addr.add a6 1) = some (Value.slice A7 A7l A7c) ∧
  V.when (decide ((0 : Int) ≤ (IntKind.wrap .i64 (Int.tdiv (if 0 > i_2 then 0 else i_2) 64)) ∧ ((IntKind.wrap .i64 (Int.tdiv (if 0 > i_2 then 0 else i_2) 64)) : Int) < ((A7l : Nat) : Int))) (V.ptr A7 fun a8 =>
  ∃ n9, World.cell? w5 (Addr.add a8 ((Int.toNat (IntKind.wrap .i64 (Int.tdiv (if 0 > i_2 then 0 else i_2) 64))) * 1)) = some (Value.int .u64 n9) ∧
  V.when (decide (0 ≤ (Int.tmod (if 0 > i_2 then 0 else i_2) 64))) (V.when (decide (0 ≤ (Int.tmod (if 0 > i_2 then 0 else i_2) 64))) (V.lt (IntKind.wrap .u64 ((Int.fdiv n9 (2 ^ (min (Int.toNat (Int.tmod (if 0 > i_2 then 0 else i_2) 64)) 64))) * 2 ^ (min (Int.toNat (Int.tmod (if 0 > i_2 then 0 else i_2) 64)) 64))) fun x10 =>
  V.lt (IntKind.wrap .i64 (Int.tdiv (if 0 > i_2 then 0 else i_2) 64)) fun x11 =>
  ∃ I12 : Int → Int → World → Prop, ∃ μ13 : Int → Int → World → Nat, I12 x10 x11 w5 ∧
  ∀ x_14 w_15 (j16 : Nat → Value) (w17 : World), I12 x_14 w_15 w17 →
  (V.sel (x_14 != 0)
  (Calls Tryd.prog 40 #[(Value.int .u64 x_14)] w17 fun e19 w20 =>
  ∃ n18, e19 = Ending.returned (Value.int .i64 n18) ∧
  V.lt (IntKind.wrap .i64 ((IntKind.wrap .i64 (64 * w_15)) + n18)) fun x21 =>
  R (Ending.returned (Value.int .i64 x21)) w20)
  (V.ptr s_1 fun a22 =>
  ∃ A23, ∃ A23l, ∃ A23c, World.cell? w17 (Addr.add a22 1) = some (Value.slice A23 A23l A23c) ∧
  V.sel ((IntKind.wrap .i64 (w_15 + 1)) == ((A23l : Nat) : Int))
  (R (Ending.returned (Value.int .i64 (-1))) w17)
  (V.ptr s_1 fun a24 =>
  ∃ A25, ∃ A25l, ∃ A25c, World.cell? w17 (Addr.add a24 1) = some (Value.slice A25 A25l A25c) ∧
  V.when (decide ((0 : Int) ≤ (IntKind.wrap .i64 (w_15 + 1)) ∧ ((IntKind.wrap .i64 (w_15 + 1)) : Int) < ((A25l : Nat) : Int))) (V.ptr A25 fun a26 =>
  ∃ n27, World.cell? w17 (Addr.add a26 ((Int.toNat (IntKind.wrap .i64 (w_15 + 1))) * 1)) = some (Value.int .u64 n27) ∧
  I12 n27 (IntKind.wrap .i64 (w_15 + 1)) w17 ∧ μ13 n27 (IntKind.wrap .i64 (w_15 + 1)) w17 < μ13 x_14 w_15 w17))))))))) :
  Calls Tryd.prog 15 #[(Value.pointer s_1), (Value.int .i64 i_2)] w R :=
  V.calls_of_R ⟨V.assoc [(0, [5, 6])], V.assocP [], V.assocC [], V.assocS [], ⟨[], false⟩⟩ Tryd.func15 rfl (Eq.mp (by kernel_rfl) h)

theorem bitset_Set_Prev_nf (s_1 : Option Addr) (i_2 : Int) (w : World) (R : Ending → World → Prop) (h :
  Calls Tryd.prog 9 #[(Value.pointer s_1)] w fun e4 w5 =>
  ∃ n3, e4 = Ending.returned (Value.int .i64 n3) ∧
  V.lt (if (IntKind.wrap .i64 (n3 - 1)) < i_2 then (IntKind.wrap .i64 (n3 - 1)) else i_2) fun x6 =>
  V.sel (decide (x6 < 0))
  (R (Ending.returned (Value.int .i64 (-1))) w5)
  (V.lt (IntKind.wrap .i64 (63 - (Int.tmod x6 64))) fun x7 =>
  V.ptr s_1 fun a8 =>
  ∃ A9, ∃ A9l, ∃ A9c, World.cell? w5 (Addr.add a8 1) = some (Value.slice A9 A9l A9c) ∧
  V.when (decide ((0 : Int) ≤ (IntKind.wrap .i64 (Int.tdiv x6 64)) ∧ ((IntKind.wrap .i64 (Int.tdiv x6 64)) : Int) < ((A9l : Nat) : Int))) (V.ptr A9 fun a10 =>
  ∃ n11, World.cell? w5 (Addr.add a10 ((Int.toNat (IntKind.wrap .i64 (Int.tdiv x6 64))) * 1)) = some (Value.int .u64 n11) ∧
  V.when (decide (0 ≤ x7)) (V.when (decide (0 ≤ x7)) (V.lt (Int.fdiv (IntKind.wrap .u64 (n11 * 2 ^ (min (Int.toNat x7) 64))) (2 ^ (min (Int.toNat x7) 64))) fun x12 =>
  ∃ I13 : Int → Int → World → Prop, ∃ μ14 : Int → Int → World → Nat, I13 x12 (IntKind.wrap .i64 (Int.tdiv x6 64)) w5 ∧
  ∀ x_15 w_16 (j17 : Nat → Value) (w18 : World), I13 x_15 w_16 w18 →
  (V.sel (x_15 != 0)
  (Calls Tryd.prog 42 #[(Value.int .u64 x_15)] w18 fun e20 w21 =>
  ∃ n19, e20 = Ending.returned (Value.int .i64 n19) ∧
  V.lt (IntKind.wrap .i64 ((IntKind.wrap .i64 ((IntKind.wrap .i64 (64 * w_16)) + 63)) - n19)) fun x22 =>
  R (Ending.returned (Value.int .i64 x22)) w21)
  (V.sel (decide ((IntKind.wrap .i64 (w_16 - 1)) < 0))
  (R (Ending.returned (Value.int .i64 (-1))) w18)
  (V.ptr s_1 fun a23 =>
  ∃ A24, ∃ A24l, ∃ A24c, World.cell? w18 (Addr.add a23 1) = some (Value.slice A24 A24l A24c) ∧
  V.when (decide ((0 : Int) ≤ (IntKind.wrap .i64 (w_16 - 1)) ∧ ((IntKind.wrap .i64 (w_16 - 1)) : Int) < ((A24l : Nat) : Int))) (V.ptr A24 fun a25 =>
  ∃ n26, World.cell? w18 (Addr.add a25 ((Int.toNat (IntKind.wrap .i64 (w_16 - 1))) * 1)) = some (Value.int .u64 n26) ∧
  I13 n26 (IntKind.wrap .i64 (w_16 - 1)) w18 ∧ μ14 n26 (IntKind.wrap .i64 (w_16 - 1)) w18 < μ14 x_15 w_16 w18))))))))) :
  Calls Tryd.prog 16 #[(Value.pointer s_1), (Value.int .i64 i_2)] w R :=
  V.calls_of_R ⟨V.assoc [(0, [6, 7])], V.assocP [], V.assocC [], V.assocS [], ⟨[], true⟩⟩ Tryd.func16 rfl (Eq.mp (by kernel_rfl) h)

theorem berthlaw01_between_nf (s_1 : Option Addr) (at_2 : Option Addr) (at_2l : Nat) (at_2c : Nat) (w : World) (R : Ending → World → Prop) (h :
  ∃ I3 : Int → World → Prop, ∃ μ4 : Int → World → Nat, I3 0 w ∧
  ∀ j_5 (j6 : Nat → Value) (w7 : World), I3 j_5 w7 →
  (V.sel (decide (j_5 < ((at_2l : Nat) : Int)))
  (V.when (decide ((0 : Int) ≤ j_5 ∧ (j_5 : Int) < ((at_2l : Nat) : Int))) (V.ptr at_2 fun a8 =>
  ∃ n9, World.cell? w7 (Addr.add a8 ((Int.toNat j_5) * 1)) = some (Value.int .i64 n9) ∧
  Calls Tryd.prog 12 #[(Value.pointer s_1), (Value.int .i64 n9)] w7 fun e11 w12 =>
  ∃ n10, e11 = Ending.returned (Value.int .i64 n10) ∧
  Calls Tryd.prog 15 #[(Value.pointer s_1), (Value.int .i64 n9)] w12 fun e14 w15 =>
  ∃ n13, e14 = Ending.returned (Value.int .i64 n13) ∧
  Calls Tryd.prog 13 #[(Value.pointer s_1), (Value.int .i64 n10)] w15 fun e17 w18 =>
  ∃ n16, e17 = Ending.returned (Value.int .i64 n16) ∧
  V.sel (n13 != n16)
  (R (Ending.returned (Value.bool false)) w18)
  (Calls Tryd.prog 14 #[(Value.pointer s_1), (Value.int .i64 n9)] w18 fun e20 w21 =>
  ∃ b19, e20 = Ending.returned (Value.bool b19) ∧
  Calls Tryd.prog 15 #[(Value.pointer s_1), (Value.int .i64 n9)] w21 fun e23 w24 =>
  ∃ n22, e23 = Ending.returned (Value.int .i64 n22) ∧
  V.sel (n22 == n9)
  (V.sel (!(b19 == (decide (n9 ≥ 0))))
  (R (Ending.returned (Value.bool false)) w24)
  (Calls Tryd.prog 14 #[(Value.pointer s_1), (Value.int .i64 n9)] w24 fun e26 w27 =>
  ∃ b25, e26 = Ending.returned (Value.bool b25) ∧
  V.sel b25
  (Calls Tryd.prog 16 #[(Value.pointer s_1), (Value.int .i64 n9)] w27 fun e29 w30 =>
  ∃ n28, e29 = Ending.returned (Value.int .i64 n28) ∧
  V.sel (n28 != n9)
  (R (Ending.returned (Value.bool false)) w30)
  (Calls Tryd.prog 14 #[(Value.pointer s_1), (Value.int .i64 n9)] w30 fun e32 w33 =>
  ∃ b31, e32 = Ending.returned (Value.bool b31) ∧
  V.sel (!b31)
  (Calls Tryd.prog 16 #[(Value.pointer s_1), (Value.int .i64 n9)] w33 fun e35 w36 =>
  ∃ n34, e35 = Ending.returned (Value.int .i64 n34) ∧
  Calls Tryd.prog 13 #[(Value.pointer s_1), (Value.int .i64 (IntKind.wrap .i64 (n10 - 1)))] w36 fun e38 w39 =>
  ∃ n37, e38 = Ending.returned (Value.int .i64 n37) ∧
  V.sel (n34 != n37)
  (R (Ending.returned (Value.bool false)) w39)
  (I3 (IntKind.wrap .i64 (j_5 + 1)) w39 ∧ μ4 (IntKind.wrap .i64 (j_5 + 1)) w39 < μ4 j_5 w7))
  (I3 (IntKind.wrap .i64 (j_5 + 1)) w33 ∧ μ4 (IntKind.wrap .i64 (j_5 + 1)) w33 < μ4 j_5 w7)))
  (Calls Tryd.prog 14 #[(Value.pointer s_1), (Value.int .i64 n9)] w27 fun e41 w42 =>
  ∃ b40, e41 = Ending.returned (Value.bool b40) ∧
  V.sel (!b40)
  (Calls Tryd.prog 16 #[(Value.pointer s_1), (Value.int .i64 n9)] w42 fun e44 w45 =>
  ∃ n43, e44 = Ending.returned (Value.int .i64 n43) ∧
  Calls Tryd.prog 13 #[(Value.pointer s_1), (Value.int .i64 (IntKind.wrap .i64 (n10 - 1)))] w45 fun e47 w48 =>
  ∃ n46, e47 = Ending.returned (Value.int .i64 n46) ∧
  V.sel (n43 != n46)
  (R (Ending.returned (Value.bool false)) w48)
  (I3 (IntKind.wrap .i64 (j_5 + 1)) w48 ∧ μ4 (IntKind.wrap .i64 (j_5 + 1)) w48 < μ4 j_5 w7))
  (I3 (IntKind.wrap .i64 (j_5 + 1)) w42 ∧ μ4 (IntKind.wrap .i64 (j_5 + 1)) w42 < μ4 j_5 w7))))
  (V.sel (!(b19 == false))
  (R (Ending.returned (Value.bool false)) w24)
  (Calls Tryd.prog 14 #[(Value.pointer s_1), (Value.int .i64 n9)] w24 fun e50 w51 =>
  ∃ b49, e50 = Ending.returned (Value.bool b49) ∧
  V.sel b49
  (Calls Tryd.prog 16 #[(Value.pointer s_1), (Value.int .i64 n9)] w51 fun e53 w54 =>
  ∃ n52, e53 = Ending.returned (Value.int .i64 n52) ∧
  V.sel (n52 != n9)
  (R (Ending.returned (Value.bool false)) w54)
  (Calls Tryd.prog 14 #[(Value.pointer s_1), (Value.int .i64 n9)] w54 fun e56 w57 =>
  ∃ b55, e56 = Ending.returned (Value.bool b55) ∧
  V.sel (!b55)
  (Calls Tryd.prog 16 #[(Value.pointer s_1), (Value.int .i64 n9)] w57 fun e59 w60 =>
  ∃ n58, e59 = Ending.returned (Value.int .i64 n58) ∧
  Calls Tryd.prog 13 #[(Value.pointer s_1), (Value.int .i64 (IntKind.wrap .i64 (n10 - 1)))] w60 fun e62 w63 =>
  ∃ n61, e62 = Ending.returned (Value.int .i64 n61) ∧
  V.sel (n58 != n61)
  (R (Ending.returned (Value.bool false)) w63)
  (I3 (IntKind.wrap .i64 (j_5 + 1)) w63 ∧ μ4 (IntKind.wrap .i64 (j_5 + 1)) w63 < μ4 j_5 w7))
  (I3 (IntKind.wrap .i64 (j_5 + 1)) w57 ∧ μ4 (IntKind.wrap .i64 (j_5 + 1)) w57 < μ4 j_5 w7)))
  (Calls Tryd.prog 14 #[(Value.pointer s_1), (Value.int .i64 n9)] w51 fun e65 w66 =>
  ∃ b64, e65 = Ending.returned (Value.bool b64) ∧
  V.sel (!b64)
  (Calls Tryd.prog 16 #[(Value.pointer s_1), (Value.int .i64 n9)] w66 fun e68 w69 =>
  ∃ n67, e68 = Ending.returned (Value.int .i64 n67) ∧
  Calls Tryd.prog 13 #[(Value.pointer s_1), (Value.int .i64 (IntKind.wrap .i64 (n10 - 1)))] w69 fun e71 w72 =>
  ∃ n70, e71 = Ending.returned (Value.int .i64 n70) ∧
  V.sel (n67 != n70)
  (R (Ending.returned (Value.bool false)) w72)
  (I3 (IntKind.wrap .i64 (j_5 + 1)) w72 ∧ μ4 (IntKind.wrap .i64 (j_5 + 1)) w72 < μ4 j_5 w7))
  (I3 (IntKind.wrap .i64 (j_5 + 1)) w66 ∧ μ4 (IntKind.wrap .i64 (j_5 + 1)) w66 < μ4 j_5 w7)))))))
  (R (Ending.returned (Value.bool true)) w7))) :
  Calls Tryd.prog 17 #[(Value.pointer s_1), (Value.slice at_2 at_2l at_2c)] w R :=
  V.calls_of_R ⟨V.assoc [(0, [5])], V.assocP [], V.assocC [], V.assocS [], ⟨[], true⟩⟩ Tryd.func17 rfl (Eq.mp (by kernel_rfl) h)

theorem bitset_Set_Add_nf (s_1 : Option Addr) (i_2 : Int) (w : World) (R : Ending → World → Prop) (h :
  Calls Tryd.prog 41 #[(Value.pointer s_1), (Value.int .i64 i_2)] w fun e4 w5 =>
  ∃ b3, e4 = Ending.returned (Value.bool b3) ∧
  V.sel (!b3)
  (R (Ending.returned (Value.bool false)) w5)
  (Calls Tryd.prog 14 #[(Value.pointer s_1), (Value.int .i64 i_2)] w5 fun e7 w8 =>
  ∃ b6, e7 = Ending.returned (Value.bool b6) ∧
  V.sel b6
  (R (Ending.returned (Value.bool false)) w8)
  (V.ptr s_1 fun a9 =>
  ∃ A10, ∃ A10l, ∃ A10c, World.cell? w8 (Addr.add a9 1) = some (Value.slice A10 A10l A10c) ∧
  V.when (decide ((0 : Int) ≤ (IntKind.wrap .i64 (Int.tdiv i_2 64)) ∧ ((IntKind.wrap .i64 (Int.tdiv i_2 64)) : Int) < ((A10l : Nat) : Int))) (V.ptr A10 fun a11 =>
  ∃ n12, World.cell? w8 (Addr.add a11 ((Int.toNat (IntKind.wrap .i64 (Int.tdiv i_2 64))) * 1)) = some (Value.int .u64 n12) ∧
  V.when (decide (0 ≤ (Int.tmod i_2 64))) (V.when (decide ((0 : Int) ≤ (IntKind.wrap .i64 (Int.tdiv i_2 64)) ∧ ((IntKind.wrap .i64 (Int.tdiv i_2 64)) : Int) < ((A10l : Nat) : Int))) (V.ptr A10 fun a13 =>
  (∃ u14, World.cell? (World.drew w8) (Addr.add (Addr.add a13 ((Int.toNat (IntKind.wrap .i64 (Int.tdiv i_2 64))) * 1)) 0) = some u14) ∧ World.frozen? (World.drew w8) (Addr.add (Addr.add a13 ((Int.toNat (IntKind.wrap .i64 (Int.tdiv i_2 64))) * 1)) 0) = false ∧
  R (Ending.returned (Value.bool true)) (World.setCell (World.drew w8) (Addr.add (Addr.add a13 ((Int.toNat (IntKind.wrap .i64 (Int.tdiv i_2 64))) * 1)) 0) (Value.int .u64 (IntKind.wrap .u64 ((BitVec.toNat (BitVec.ofInt 64 n12 ||| BitVec.ofInt 64 (IntKind.wrap .u64 (1 * 2 ^ (min (Int.toNat (Int.tmod i_2 64)) 64)))) : Nat) : Int)))))))))) :
  Calls Tryd.prog 18 #[(Value.pointer s_1), (Value.int .i64 i_2)] w R :=
  V.calls_of_R ⟨V.assoc [], V.assocP [(3, V.line [0, 1, 2, 3, 4, 5, 6, 7, 8, 9, 10, 11, 12, 13])], V.assocC [], V.assocS [], ⟨[], false⟩⟩ Tryd.func18 rfl (Eq.mp (by kernel_rfl) h)

theorem bitset_Set_Remove_nf (s_1 : Option Addr) (i_2 : Int) (w : World) (R : Ending → World → Prop) (h :
  Calls Tryd.prog 14 #[(Value.pointer s_1), (Value.int .i64 i_2)] w fun e4 w5 =>
  ∃ b3, e4 = Ending.returned (Value.bool b3) ∧
  V.sel (!b3)
  (R (Ending.returned (Value.bool false)) w5)
  (V.ptr s_1 fun a6 =>
  ∃ A7, ∃ A7l, ∃ A7c, World.cell? w5 (Addr.add a6 1) = some (Value.slice A7 A7l A7c) ∧
  V.when (decide ((0 : Int) ≤ (IntKind.wrap .i64 (Int.tdiv i_2 64)) ∧ ((IntKind.wrap .i64 (Int.tdiv i_2 64)) : Int) < ((A7l : Nat) : Int))) (V.ptr A7 fun a8 =>
  ∃ n9, World.cell? w5 (Addr.add a8 ((Int.toNat (IntKind.wrap .i64 (Int.tdiv i_2 64))) * 1)) = some (Value.int .u64 n9) ∧
  V.when (decide (0 ≤ (Int.tmod i_2 64))) (V.when (decide ((0 : Int) ≤ (IntKind.wrap .i64 (Int.tdiv i_2 64)) ∧ ((IntKind.wrap .i64 (Int.tdiv i_2 64)) : Int) < ((A7l : Nat) : Int))) (V.ptr A7 fun a10 =>
  (∃ u11, World.cell? (World.drew w5) (Addr.add (Addr.add a10 ((Int.toNat (IntKind.wrap .i64 (Int.tdiv i_2 64))) * 1)) 0) = some u11) ∧ World.frozen? (World.drew w5) (Addr.add (Addr.add a10 ((Int.toNat (IntKind.wrap .i64 (Int.tdiv i_2 64))) * 1)) 0) = false ∧
  R (Ending.returned (Value.bool true)) (World.setCell (World.drew w5) (Addr.add (Addr.add a10 ((Int.toNat (IntKind.wrap .i64 (Int.tdiv i_2 64))) * 1)) 0) (Value.int .u64 (IntKind.wrap .u64 ((BitVec.toNat (BitVec.ofInt 64 n9 &&& ~~~(BitVec.ofInt 64 (IntKind.wrap .u64 (1 * 2 ^ (min (Int.toNat (Int.tmod i_2 64)) 64))))) : Nat) : Int))))))))) :
  Calls Tryd.prog 19 #[(Value.pointer s_1), (Value.int .i64 i_2)] w R :=
  V.calls_of_R ⟨V.assoc [], V.assocP [(3, V.line [0, 1, 2, 3, 4, 5, 6, 7, 8, 9, 10, 11, 12, 13])], V.assocC [], V.assocS [], ⟨[], false⟩⟩ Tryd.func19 rfl (Eq.mp (by kernel_rfl) h)

theorem berthlaw01_num_nf (e_1 : Int) (w : World) (R : Ending → World → Prop) (h :
  R (Ending.returned (Value.int .i64 e_1)) w) :
  Calls Tryd.prog 20 #[(Value.int .i64 e_1)] w R :=
  V.calls_of_R ⟨V.assoc [], V.assocP [], V.assocC [], V.assocS [], ⟨[], false⟩⟩ Tryd.func20 rfl (Eq.mp (by kernel_rfl) h)

theorem bitset_Set_Grow_nf (s_1 : Option Addr) (n_2 : Int) (w : World) (R : Ending → World → Prop) (h :
  V.sel (Option.isNone s_1)
  (R (Ending.returned (Value.int .i64 1)) w)
  (V.sel (decide (n_2 < 0))
  (R (Ending.returned (Value.int .i64 11)) w)
  (V.sel (decide (n_2 > 65536))
  (R (Ending.returned (Value.int .i64 11)) w)
  (V.ptr s_1 fun a3 =>
  ∃ n4, World.cell? w (Addr.add a3 0) = some (Value.int .i64 n4) ∧
  V.sel (decide (n_2 < n4))
  (R (Ending.returned (Value.int .i64 13)) w)
  (Calls Tryd.prog 43 #[(Value.int .i64 n_2)] w fun e6 w7 =>
  ∃ n5, e6 = Ending.returned (Value.int .i64 n5) ∧
  V.when (decide ((0 : Int) ≤ n5 ∧ (n5 : Int) ≤ n5 ∧ (n5 : Int) ≤ 281474976710656 ∧ (8 : Int) * n5 ≤ 281474976710656)) (V.ptr s_1 fun a8 =>
  ∃ A9, ∃ A9l, ∃ A9c, World.cell? (World.alloc w7 (.cells ⟨V.rep (Int.toNat n5) [(Value.int .u64 0)]⟩ 63)) (Addr.add a8 1) = some (Value.slice A9 A9l A9c) ∧
  ∃ n10, ∃ w11, Sem.run Tryd.prog (Builtin.copy_ #[38, 38] 3 #[(Value.slice (some ⟨Array.size (World.heap w7), 0, none⟩) (Int.toNat n5) (Int.toNat n5)), (Value.slice A9 A9l A9c)]) (World.alloc w7 (.cells ⟨V.rep (Int.toNat n5) [(Value.int .u64 0)]⟩ 63)) = .ok (Value.int .i64 n10) w11 ∧
  V.ptr s_1 fun a12 =>
  (∃ u13, World.cell? w11 (Addr.add (Addr.add a12 1) 0) = some u13) ∧ World.frozen? w11 (Addr.add (Addr.add a12 1) 0) = false ∧
  V.ptr s_1 fun a14 =>
  (∃ u15, World.cell? (World.setCell w11 (Addr.add (Addr.add a12 1) 0) (Value.slice (some ⟨Array.size (World.heap w7), 0, none⟩) (Int.toNat n5) (Int.toNat n5))) (Addr.add (Addr.add a14 0) 0) = some u15) ∧ World.frozen? (World.setCell w11 (Addr.add (Addr.add a12 1) 0) (Value.slice (some ⟨Array.size (World.heap w7), 0, none⟩) (Int.toNat n5) (Int.toNat n5))) (Addr.add (Addr.add a14 0) 0) = false ∧
  R (Ending.returned (Value.int .i64 0)) (World.setCell (World.setCell w11 (Addr.add (Addr.add a12 1) 0) (Value.slice (some ⟨Array.size (World.heap w7), 0, none⟩) (Int.toNat n5) (Int.toNat n5))) (Addr.add (Addr.add a14 0) 0) (Value.int .i64 n_2)))))))) :
  Calls Tryd.prog 21 #[(Value.pointer s_1), (Value.int .i64 n_2)] w R :=
  V.calls_of_R ⟨V.assoc [], V.assocP [], V.assocC [], V.assocS [], ⟨[], false⟩⟩ Tryd.func21 rfl (Eq.mp (by kernel_rfl) h)

end Go.Proofs.YtbaglnffgbnekaaDoor
