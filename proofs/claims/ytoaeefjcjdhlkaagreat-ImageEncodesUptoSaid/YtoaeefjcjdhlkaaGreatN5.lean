/- Normal forms of the program's functions, printed by a program of mine; the kernel checks each. -/
import Derived.Test.YtoaeefjcjdhlkaaGreatProg
import Derived.Test.YtoaeefjcjdhlkaaGreatV4
set_option linter.unusedVariables false
set_option maxRecDepth 100000
namespace Go.Proofs.YtoaeefjcjdhlkaaGreat
open Go

theorem berthlaw26_Small_nf  (w : World) (R : Ending → World → Prop) (h :
  ∀ w1, w1 = (World.alloc w (.cells #[(Value.string ⟨#[97]⟩), (Value.slice none 0 0), (Value.slice none 0 0), (Value.slice none 0 0), (Value.bool false)] 53)) →
  ∀ w2, w2 = (World.alloc w1 (.cells #[(Value.int .i64 0), (Value.int .i64 0), (Value.slice none 0 0), (Value.slice none 0 0), (Value.slice none 0 0)] 26)) →
  ∃ w3, Sem.run Tryz.prog (Instr.storeAt 26 (Value.pointer (some ⟨Array.size (World.heap w1), 0, none⟩)) (Value.agg #[(Value.int .i64 5), (Value.int .i64 (-1)), (Value.slice (some ⟨Array.size (World.heap w), 0, none⟩) 1 1), (Value.slice none 0 0), (Value.slice none 0 0)])) w2 = .ok () w3 ∧
  ∃ n4, ∃ n5, ∃ A6, ∃ A6l, ∃ A6c, ∃ A7, ∃ A7l, ∃ A7c, ∃ A8, ∃ A8l, ∃ A8c, V.cellsC (fun a_ x_ => World.cell? w3 a_ = some x_) ⟨Array.size (World.heap w1), 0, none⟩ [(Value.int .i64 n4), (Value.int .i64 n5), (Value.slice A6 A6l A6c), (Value.slice A7 A7l A7c), (Value.slice A8 A8l A8c)] ∧
  Calls Tryz.prog 15 #[(Value.agg #[(Value.int .i64 n4), (Value.int .i64 n5), (Value.slice A6 A6l A6c), (Value.slice A7 A7l A7c), (Value.slice A8 A8l A8c)])] w3 fun e11 w12 =>
  ∃ A9, ∃ A9l, ∃ A9c, ∃ n10, e11 = Ending.returned (Value.tuple #[(Value.slice A9 A9l A9c), (Value.int .i64 n10)]) ∧
  ∀ w13, w13 = (World.alloc w12 (.cells #[(Value.int .u8 98), (Value.int .u8 101), (Value.int .u8 114), (Value.int .u8 116), (Value.int .u8 104), (Value.int .u8 1), (Value.int .u8 1), (Value.int .u8 1), (Value.int .u8 97), (Value.int .u8 10), (Value.int .u8 1), (Value.int .u8 1), (Value.int .u8 0), (Value.int .u8 0), (Value.int .u8 0), (Value.int .u8 0), (Value.int .u8 0), (Value.int .u8 0), (Value.int .u8 0)] 5)) →
  V.sel (n10 != 0)
  (R (Ending.returned (Value.bool false)) w13)
  (V.sel (((A9l : Nat) : Int) != 27)
  (R (Ending.returned (Value.bool false)) w13)
  (V.when (decide ((0 : Int) ≤ 19 ∧ (19 : Int) ≤ ((A9c : Nat) : Int))) (Calls Tryz.prog 16 #[(Value.slice (V.cut A9 A9c 0 1) (19 - 0) (A9c - 0)), (Value.slice (some ⟨Array.size (World.heap w12), 0, none⟩) 19 19)] w13 fun e15 w16 =>
  ∃ b14, e15 = Ending.returned (Value.bool b14) ∧
  V.sel (!b14)
  (R (Ending.returned (Value.bool false)) w16)
  (Calls Tryz.prog 18 #[(Value.slice A9 A9l A9c)] w16 fun e23 w24 =>
  ∃ n17, ∃ n18, ∃ A19, ∃ A19l, ∃ A19c, ∃ A20, ∃ A20l, ∃ A20c, ∃ A21, ∃ A21l, ∃ A21c, ∃ v22, e23 = Ending.returned (Value.tuple #[(Value.agg #[(Value.int .i64 n17), (Value.int .i64 n18), (Value.slice A19 A19l A19c), (Value.slice A20 A20l A20c), (Value.slice A21 A21l A21c)]), v22]) ∧
  ∀ w25, w25 = (World.alloc w24 (.cells #[(Value.int .i64 0), (Value.int .i64 0), (Value.slice none 0 0), (Value.slice none 0 0), (Value.slice none 0 0)] 26)) →
  ∃ w26, Sem.run Tryz.prog (Instr.storeAt 26 (Value.pointer (some ⟨Array.size (World.heap w24), 0, none⟩)) (Value.agg #[(Value.int .i64 n17), (Value.int .i64 n18), (Value.slice A19 A19l A19c), (Value.slice A20 A20l A20c), (Value.slice A21 A21l A21c)])) w25 = .ok () w26 ∧
  V.when (V.Z.isIfc v22) (V.sel (V.Z.isNilI v22)
  (∃ n27, ∃ n28, ∃ A29, ∃ A29l, ∃ A29c, ∃ A30, ∃ A30l, ∃ A30c, ∃ A31, ∃ A31l, ∃ A31c, V.cellsC (fun a_ x_ => World.cell? w26 a_ = some x_) ⟨Array.size (World.heap w24), 0, none⟩ [(Value.int .i64 n27), (Value.int .i64 n28), (Value.slice A29 A29l A29c), (Value.slice A30 A30l A30c), (Value.slice A31 A31l A31c)] ∧
  ∃ n32, ∃ n33, ∃ A34, ∃ A34l, ∃ A34c, ∃ A35, ∃ A35l, ∃ A35c, ∃ A36, ∃ A36l, ∃ A36c, V.cellsC (fun a_ x_ => World.cell? w26 a_ = some x_) ⟨Array.size (World.heap w1), 0, none⟩ [(Value.int .i64 n32), (Value.int .i64 n33), (Value.slice A34 A34l A34c), (Value.slice A35 A35l A35c), (Value.slice A36 A36l A36c)] ∧
  Calls Tryz.prog 19 #[(Value.agg #[(Value.int .i64 n27), (Value.int .i64 n28), (Value.slice A29 A29l A29c), (Value.slice A30 A30l A30c), (Value.slice A31 A31l A31c)]), (Value.agg #[(Value.int .i64 n32), (Value.int .i64 n33), (Value.slice A34 A34l A34c), (Value.slice A35 A35l A35c), (Value.slice A36 A36l A36c)])] w26 fun e38 w39 =>
  ∃ b37, e38 = Ending.returned (Value.bool b37) ∧
  R (Ending.returned (Value.bool b37)) w39)
  (R (Ending.returned (Value.bool false)) w26))))))) :
  Calls Tryz.prog 12 #[] w R :=
  V.Z.calls_of_N ⟨V.assoc [], V.assocP [], V.assocC [], V.assocS [], ⟨[], true⟩⟩ Tryz.func12 rfl (Eq.mp (by kernel_rfl) h)

theorem image_Decode_nf (b_1 : Option Addr) (b_1l : Nat) (b_1c : Nat) (w : World) (R : Ending → World → Prop) (h :
  ∀ w2, w2 = (World.alloc w (.cells #[(Value.int .i64 0), (Value.int .i64 0), (Value.slice none 0 0), (Value.slice none 0 0), (Value.slice none 0 0)] 26)) →
  Calls Tryz.prog 35 #[(Value.slice b_1 b_1l b_1c)] w2 fun e4 w5 =>
  ∃ p3, e4 = Ending.returned (Value.pointer p3) ∧
  V.sel (!(Option.isNone p3))
  (∃ w6, Sem.run Tryz.prog (Instr.storeAt 26 (Value.pointer (some ⟨Array.size (World.heap w), 0, none⟩)) (Value.agg #[(Value.int .i64 0), (Value.int .i64 0), (Value.slice none 0 0), (Value.slice none 0 0), (Value.slice none 0 0)])) w5 = .ok () w6 ∧
  ∃ n7, ∃ n8, ∃ A9, ∃ A9l, ∃ A9c, ∃ A10, ∃ A10l, ∃ A10c, ∃ A11, ∃ A11l, ∃ A11c, V.cellsC (fun a_ x_ => World.cell? w6 a_ = some x_) ⟨Array.size (World.heap w), 0, none⟩ [(Value.int .i64 n7), (Value.int .i64 n8), (Value.slice A9 A9l A9c), (Value.slice A10 A10l A10c), (Value.slice A11 A11l A11c)] ∧
  R (Ending.returned (Value.tuple #[(Value.agg #[(Value.int .i64 n7), (Value.int .i64 n8), (Value.slice A9 A9l A9c), (Value.slice A10 A10l A10c), (Value.slice A11 A11l A11c)]), (Value.iface 93 (Value.pointer p3))])) w6)
  (V.when (decide ((0 : Int) ≤ (IntKind.wrap .i64 (((b_1l : Nat) : Int) - 8)) ∧ ((IntKind.wrap .i64 (((b_1l : Nat) : Int) - 8)) : Int) ≤ ((b_1c : Nat) : Int))) (Calls Tryz.prog 36 #[(Value.slice (V.cut b_1 b_1c 0 1) ((Int.toNat (IntKind.wrap .i64 (((b_1l : Nat) : Int) - 8))) - 0) (b_1c - 0))] w5 fun e18 w19 =>
  ∃ n12, ∃ n13, ∃ A14, ∃ A14l, ∃ A14c, ∃ A15, ∃ A15l, ∃ A15c, ∃ A16, ∃ A16l, ∃ A16c, ∃ p17, e18 = Ending.returned (Value.tuple #[(Value.agg #[(Value.int .i64 n12), (Value.int .i64 n13), (Value.slice A14 A14l A14c), (Value.slice A15 A15l A15c), (Value.slice A16 A16l A16c)]), (Value.pointer p17)]) ∧
  ∀ w20, w20 = (World.alloc w19 (.cells #[(Value.int .i64 0), (Value.int .i64 0), (Value.slice none 0 0), (Value.slice none 0 0), (Value.slice none 0 0)] 26)) →
  ∃ w21, Sem.run Tryz.prog (Instr.storeAt 26 (Value.pointer (some ⟨Array.size (World.heap w19), 0, none⟩)) (Value.agg #[(Value.int .i64 n12), (Value.int .i64 n13), (Value.slice A14 A14l A14c), (Value.slice A15 A15l A15c), (Value.slice A16 A16l A16c)])) w20 = .ok () w21 ∧
  V.sel (!(Option.isNone p17))
  (∃ w22, Sem.run Tryz.prog (Instr.storeAt 26 (Value.pointer (some ⟨Array.size (World.heap w), 0, none⟩)) (Value.agg #[(Value.int .i64 0), (Value.int .i64 0), (Value.slice none 0 0), (Value.slice none 0 0), (Value.slice none 0 0)])) w21 = .ok () w22 ∧
  ∃ n23, ∃ n24, ∃ A25, ∃ A25l, ∃ A25c, ∃ A26, ∃ A26l, ∃ A26c, ∃ A27, ∃ A27l, ∃ A27c, V.cellsC (fun a_ x_ => World.cell? w22 a_ = some x_) ⟨Array.size (World.heap w), 0, none⟩ [(Value.int .i64 n23), (Value.int .i64 n24), (Value.slice A25 A25l A25c), (Value.slice A26 A26l A26c), (Value.slice A27 A27l A27c)] ∧
  R (Ending.returned (Value.tuple #[(Value.agg #[(Value.int .i64 n23), (Value.int .i64 n24), (Value.slice A25 A25l A25c), (Value.slice A26 A26l A26c), (Value.slice A27 A27l A27c)]), (Value.iface 93 (Value.pointer p17))])) w22)
  (∃ n28, ∃ n29, ∃ A30, ∃ A30l, ∃ A30c, ∃ A31, ∃ A31l, ∃ A31c, ∃ A32, ∃ A32l, ∃ A32c, V.cellsC (fun a_ x_ => World.cell? w21 a_ = some x_) ⟨Array.size (World.heap w19), 0, none⟩ [(Value.int .i64 n28), (Value.int .i64 n29), (Value.slice A30 A30l A30c), (Value.slice A31 A31l A31c), (Value.slice A32 A32l A32c)] ∧
  ∃ w33, Sem.run Tryz.prog (Instr.storeAt 26 (Value.pointer (some ⟨Array.size (World.heap w), 0, none⟩)) (Value.agg #[(Value.int .i64 n28), (Value.int .i64 n29), (Value.slice A30 A30l A30c), (Value.slice A31 A31l A31c), (Value.slice A32 A32l A32c)])) w21 = .ok () w33 ∧
  ∃ n34, ∃ n35, ∃ A36, ∃ A36l, ∃ A36c, ∃ A37, ∃ A37l, ∃ A37c, ∃ A38, ∃ A38l, ∃ A38c, V.cellsC (fun a_ x_ => World.cell? w33 a_ = some x_) ⟨Array.size (World.heap w), 0, none⟩ [(Value.int .i64 n34), (Value.int .i64 n35), (Value.slice A36 A36l A36c), (Value.slice A37 A37l A37c), (Value.slice A38 A38l A38c)] ∧
  R (Ending.returned (Value.tuple #[(Value.agg #[(Value.int .i64 n34), (Value.int .i64 n35), (Value.slice A36 A36l A36c), (Value.slice A37 A37l A37c), (Value.slice A38 A38l A38c)]), Value.nilIface])) w33)))) :
  Calls Tryz.prog 18 #[(Value.slice b_1 b_1l b_1c)] w R :=
  V.Z.calls_of_N ⟨V.assoc [], V.assocP [], V.assocC [], V.assocS [], ⟨[], true⟩⟩ Tryz.func18 rfl (Eq.mp (by kernel_rfl) h)

theorem berthlaw26_decodes_nf (b_1 : Option Addr) (b_1l : Nat) (b_1c : Nat) (w : World) (R : Ending → World → Prop) (h :
  Calls Tryz.prog 22 #[(Value.slice b_1 b_1l b_1c)] w fun e3 w4 =>
  ∃ A2, ∃ A2l, ∃ A2c, e3 = Ending.returned (Value.slice A2 A2l A2c) ∧
  Calls Tryz.prog 40 #[(Value.slice A2 A2l A2c)] w4 fun e12 w13 =>
  ∃ n5, ∃ n6, ∃ A7, ∃ A7l, ∃ A7c, ∃ A8, ∃ A8l, ∃ A8c, ∃ A9, ∃ A9l, ∃ A9c, ∃ n10, ∃ n11, e12 = Ending.returned (Value.tuple #[(Value.agg #[(Value.int .i64 n5), (Value.int .i64 n6), (Value.slice A7 A7l A7c), (Value.slice A8 A8l A8c), (Value.slice A9 A9l A9c)]), (Value.int .i64 n10), (Value.int .i64 n11)]) ∧
  ∀ w14, w14 = (World.alloc w13 (.cells #[(Value.int .i64 0), (Value.int .i64 0), (Value.slice none 0 0), (Value.slice none 0 0), (Value.slice none 0 0)] 26)) →
  ∃ w15, Sem.run Tryz.prog (Instr.storeAt 26 (Value.pointer (some ⟨Array.size (World.heap w13), 0, none⟩)) (Value.agg #[(Value.int .i64 n5), (Value.int .i64 n6), (Value.slice A7 A7l A7c), (Value.slice A8 A8l A8c), (Value.slice A9 A9l A9c)])) w14 = .ok () w15 ∧
  Calls Tryz.prog 18 #[(Value.slice b_1 b_1l b_1c)] w15 fun e22 w23 =>
  ∃ n16, ∃ n17, ∃ A18, ∃ A18l, ∃ A18c, ∃ A19, ∃ A19l, ∃ A19c, ∃ A20, ∃ A20l, ∃ A20c, ∃ v21, e22 = Ending.returned (Value.tuple #[(Value.agg #[(Value.int .i64 n16), (Value.int .i64 n17), (Value.slice A18 A18l A18c), (Value.slice A19 A19l A19c), (Value.slice A20 A20l A20c)]), v21]) ∧
  ∀ w24, w24 = (World.alloc w23 (.cells #[(Value.int .i64 0), (Value.int .i64 0), (Value.slice none 0 0), (Value.slice none 0 0), (Value.slice none 0 0)] 26)) →
  ∃ w25, Sem.run Tryz.prog (Instr.storeAt 26 (Value.pointer (some ⟨Array.size (World.heap w23), 0, none⟩)) (Value.agg #[(Value.int .i64 n16), (Value.int .i64 n17), (Value.slice A18 A18l A18c), (Value.slice A19 A19l A19c), (Value.slice A20 A20l A20c)])) w24 = .ok () w25 ∧
  Calls Tryz.prog 41 #[v21] w25 fun e45 w46 =>
  ∃ n26, ∃ n27, ∃ s28, ∃ n29, ∃ n30, ∃ n31, ∃ s32, ∃ n33, ∃ n34, ∃ n35, ∃ s36, ∃ n37, ∃ n38, ∃ n39, ∃ s40, ∃ n41, ∃ n42, ∃ n43, ∃ s44, e45 = Ending.returned (Value.agg #[(Value.int .i64 n26), (Value.int .i64 n27), (Value.string s28), (Value.int .i64 n29), (Value.int .i64 n30), (Value.int .i64 n31), (Value.string s32), (Value.int .i64 n33), (Value.int .i64 n34), (Value.int .i64 n35), (Value.string s36), (Value.int .i64 n37), (Value.int .i64 n38), (Value.int .i64 n39), (Value.string s40), (Value.int .i64 n41), (Value.int .i64 n42), (Value.int .i64 n43), (Value.string s44)]) ∧
  ∀ w47, w47 = (World.alloc w46 (.cells #[(Value.int .i64 0), (Value.int .i64 0), (Value.string ByteArray.empty), (Value.int .i64 0), (Value.int .i64 0), (Value.int .i64 0), (Value.string ByteArray.empty), (Value.int .i64 0), (Value.int .i64 0), (Value.int .i64 0), (Value.string ByteArray.empty), (Value.int .i64 0), (Value.int .i64 0), (Value.int .i64 0), (Value.string ByteArray.empty), (Value.int .i64 0), (Value.int .i64 0), (Value.int .i64 0), (Value.string ByteArray.empty)] 106)) →
  ∃ w48, Sem.run Tryz.prog (Instr.storeAt 106 (Value.pointer (some ⟨Array.size (World.heap w46), 0, none⟩)) (Value.agg #[(Value.int .i64 n26), (Value.int .i64 n27), (Value.string s28), (Value.int .i64 n29), (Value.int .i64 n30), (Value.int .i64 n31), (Value.string s32), (Value.int .i64 n33), (Value.int .i64 n34), (Value.int .i64 n35), (Value.string s36), (Value.int .i64 n37), (Value.int .i64 n38), (Value.int .i64 n39), (Value.string s40), (Value.int .i64 n41), (Value.int .i64 n42), (Value.int .i64 n43), (Value.string s44)])) w47 = .ok () w48 ∧
  ∃ n49, World.cell? w48 (Addr.add ⟨Array.size (World.heap w46), 0, none⟩ 0) = some (Value.int .i64 n49) ∧
  V.sel (n49 != n10)
  (R (Ending.returned (Value.bool false)) w48)
  (∃ n50, ∃ n51, ∃ A52, ∃ A52l, ∃ A52c, ∃ A53, ∃ A53l, ∃ A53c, ∃ A54, ∃ A54l, ∃ A54c, V.cellsC (fun a_ x_ => World.cell? w48 a_ = some x_) ⟨Array.size (World.heap w23), 0, none⟩ [(Value.int .i64 n50), (Value.int .i64 n51), (Value.slice A52 A52l A52c), (Value.slice A53 A53l A53c), (Value.slice A54 A54l A54c)] ∧
  ∃ n55, ∃ n56, ∃ A57, ∃ A57l, ∃ A57c, ∃ A58, ∃ A58l, ∃ A58c, ∃ A59, ∃ A59l, ∃ A59c, V.cellsC (fun a_ x_ => World.cell? w48 a_ = some x_) ⟨Array.size (World.heap w13), 0, none⟩ [(Value.int .i64 n55), (Value.int .i64 n56), (Value.slice A57 A57l A57c), (Value.slice A58 A58l A58c), (Value.slice A59 A59l A59c)] ∧
  Calls Tryz.prog 19 #[(Value.agg #[(Value.int .i64 n50), (Value.int .i64 n51), (Value.slice A52 A52l A52c), (Value.slice A53 A53l A53c), (Value.slice A54 A54l A54c)]), (Value.agg #[(Value.int .i64 n55), (Value.int .i64 n56), (Value.slice A57 A57l A57c), (Value.slice A58 A58l A58c), (Value.slice A59 A59l A59c)])] w48 fun e61 w62 =>
  ∃ b60, e61 = Ending.returned (Value.bool b60) ∧
  V.sel (!b60)
  (R (Ending.returned (Value.bool false)) w62)
  (V.sel (n10 == 0)
  (R (Ending.returned (Value.bool true)) w62)
  (∃ n63, World.cell? w62 (Addr.add ⟨Array.size (World.heap w46), 0, none⟩ 1) = some (Value.int .i64 n63) ∧
  V.sel (n63 == n11)
  (∃ s64, World.cell? w62 (Addr.add ⟨Array.size (World.heap w46), 0, none⟩ 2) = some (Value.string s64) ∧
  V.sel (ByteArray.toList s64 == ByteArray.toList ByteArray.empty)
  (∃ n65, World.cell? w62 (Addr.add (Addr.add (Addr.add ⟨Array.size (World.heap w46), 0, none⟩ 3) 0) 0) = some (Value.int .i64 n65) ∧
  R (Ending.returned (Value.bool (n65 == 0))) w62)
  (R (Ending.returned (Value.bool false)) w62))
  (R (Ending.returned (Value.bool false)) w62))))) :
  Calls Tryz.prog 20 #[(Value.slice b_1 b_1l b_1c)] w R :=
  V.Z.calls_of_N ⟨V.assoc [], V.assocP [], V.assocC [], V.assocS [], ⟨[], true⟩⟩ Tryz.func20 rfl (Eq.mp (by kernel_rfl) h)

theorem berthref26_In_table_nf (r_1 : Option Addr) (w : World) (R : Ending → World → Prop) (h :
  Calls Tryz.prog 95 #[(Value.pointer r_1)] w fun e3 w4 =>
  ∃ n2, e3 = Ending.returned (Value.int .i64 n2) ∧
  ∃ I5 : Int → World → Prop, ∃ μ6 : Int → World → Nat, I5 0 w4 ∧
  ∀ i_7 (j8 : Nat → Value) (w9 : World), I5 i_7 w9 →
  (∃ J10 : World → Prop, (V.sel (decide (i_7 < n2))
  (V.ptr r_1 fun a11 =>
  ∃ n12, World.cell? w9 (Addr.add a11 6) = some (Value.int .i64 n12) ∧
  V.sel (n12 == 0)
  (J10  w9)
  (R (Ending.returned undef) w9))
  (R (Ending.returned undef) w9)) ∧
  ∀ (j13 : Nat → Value) (w14 : World), J10  w14 →
  V.ptr r_1 fun a15 =>
  ∃ n16, World.cell? w14 (Addr.add a15 1) = some (Value.int .i64 n16) ∧
  Calls Tryz.prog 95 #[(Value.pointer r_1)] w14 fun e18 w19 =>
  ∃ n17, e18 = Ending.returned (Value.int .i64 n17) ∧
  V.ptr r_1 fun a20 =>
  ∃ n21, World.cell? w19 (Addr.add a20 6) = some (Value.int .i64 n21) ∧
  V.sel (n21 != 0)
  (R (Ending.returned undef) w19)
  (V.ptr r_1 fun a22 =>
  ∃ A23, ∃ A23l, ∃ A23c, World.cell? w19 (Addr.add a22 0) = some (Value.slice A23 A23l A23c) ∧
  V.ptr r_1 fun a24 =>
  ∃ n25, World.cell? w19 (Addr.add a24 1) = some (Value.int .i64 n25) ∧
  V.ptr r_1 fun a26 =>
  ∃ n27, World.cell? w19 (Addr.add a26 1) = some (Value.int .i64 n27) ∧
  V.when (decide ((0 : Int) ≤ (IntKind.wrap .i64 (n27 + n17)) ∧ ((IntKind.wrap .i64 (n27 + n17)) : Int) ≤ ((A23c : Nat) : Int))) (V.when (decide ((0 : Int) ≤ n25 ∧ (n25 : Int) ≤ (((Int.toNat (IntKind.wrap .i64 (n27 + n17))) : Nat) : Int))) (∃ s28, Sem.run Tryz.prog (convert 28 9 (Value.slice (V.cut A23 A23c (Int.toNat n25) 1) ((Int.toNat (IntKind.wrap .i64 (n27 + n17))) - (Int.toNat n25)) (A23c - (Int.toNat n25)))) (World.drew w19) = .ok (Value.string s28) (World.drew w19) ∧
  V.ptr r_1 fun a29 =>
  ∃ n30, World.cell? (World.drew w19) (Addr.add a29 1) = some (Value.int .i64 n30) ∧
  V.ptr r_1 fun a31 =>
  ∃ w32, Sem.run Tryz.prog (Instr.storeAt 3 (Value.pointer (some (Addr.add a31 1))) (Value.int .i64 (IntKind.wrap .i64 (n30 + n17)))) (World.drew w19) = .ok () w32 ∧
  ∃ J33 : World → Prop, (∃ J34 : Bool → World → Prop, (V.sel (decide (i_7 > 0))
  (V.ptr r_1 fun a35 =>
  ∃ A36, ∃ A36l, ∃ A36c, World.cell? w32 (Addr.add a35 3) = some (Value.slice A36 A36l A36c) ∧
  V.when (decide ((0 : Int) ≤ (IntKind.wrap .i64 (i_7 - 1)) ∧ ((IntKind.wrap .i64 (i_7 - 1)) : Int) < ((A36l : Nat) : Int))) (V.ptr A36 fun a37 =>
  ∃ s38, World.cell? w32 (Addr.add a37 ((Int.toNat (IntKind.wrap .i64 (i_7 - 1))) * 1)) = some (Value.string s38) ∧
  J34 ((Op.bytesLess (ByteArray.toList s28) (ByteArray.toList s38)) || (ByteArray.toList s28 == ByteArray.toList s38)) w32))
  (J34 false w32)) ∧
  ∀ t70_39 (j40 : Nat → Value) (w41 : World), J34 t70_39 w41 →
  V.sel t70_39
  (Calls Tryz.prog 72 #[(Value.pointer r_1), (Value.int .i64 263), (Value.int .i64 n16)] w41 fun e42 w43 =>
  e42 = Ending.returned undef ∧
  R (Ending.returned undef) w43)
  (J33  w41)) ∧
  ∀ (j44 : Nat → Value) (w45 : World), J33  w45 →
  V.ptr r_1 fun a46 =>
  ∃ A47, ∃ A47l, ∃ A47c, World.cell? w45 (Addr.add a46 3) = some (Value.slice A47 A47l A47c) ∧
  ∀ w48, w48 = (World.alloc w45 (.cells #[(Value.string s28)] 9)) →
  ∃ A49, ∃ A49l, ∃ A49c, ∃ w50, Sem.run Tryz.prog (Builtin.append_ #[56, 56] 56 #[(Value.slice A47 A47l A47c), (Value.slice (some ⟨Array.size (World.heap w45), 0, none⟩) 1 1)]) w48 = .ok (Value.slice A49 A49l A49c) w50 ∧
  V.ptr r_1 fun a51 =>
  ∃ w52, Sem.run Tryz.prog (Instr.storeAt 56 (Value.pointer (some (Addr.add a51 3))) (Value.slice A49 A49l A49c)) w50 = .ok () w52 ∧
  V.ptr r_1 fun a53 =>
  ∃ A54, ∃ A54l, ∃ A54c, World.cell? w52 (Addr.add a53 4) = some (Value.slice A54 A54l A54c) ∧
  ∀ w55, w55 = (World.alloc w52 (.cells #[(Value.int .i64 n16)] 3)) →
  ∃ A56, ∃ A56l, ∃ A56c, ∃ w57, Sem.run Tryz.prog (Builtin.append_ #[134, 134] 134 #[(Value.slice A54 A54l A54c), (Value.slice (some ⟨Array.size (World.heap w52), 0, none⟩) 1 1)]) w55 = .ok (Value.slice A56 A56l A56c) w57 ∧
  V.ptr r_1 fun a58 =>
  ∃ w59, Sem.run Tryz.prog (Instr.storeAt 134 (Value.pointer (some (Addr.add a58 4))) (Value.slice A56 A56l A56c)) w57 = .ok () w59 ∧
  V.ptr r_1 fun a60 =>
  ∃ A61, ∃ A61l, ∃ A61c, World.cell? w59 (Addr.add a60 5) = some (Value.slice A61 A61l A61c) ∧
  ∀ w62, w62 = (World.alloc w59 (.cells #[(Value.bool false)] 4)) →
  ∃ A63, ∃ A63l, ∃ A63c, ∃ w64, Sem.run Tryz.prog (Builtin.append_ #[135, 135] 135 #[(Value.slice A61 A61l A61c), (Value.slice (some ⟨Array.size (World.heap w59), 0, none⟩) 1 1)]) w62 = .ok (Value.slice A63 A63l A63c) w64 ∧
  V.ptr r_1 fun a65 =>
  ∃ w66, Sem.run Tryz.prog (Instr.storeAt 135 (Value.pointer (some (Addr.add a65 5))) (Value.slice A63 A63l A63c)) w64 = .ok () w66 ∧
  I5 (IntKind.wrap .i64 (i_7 + 1)) w66 ∧ μ6 (IntKind.wrap .i64 (i_7 + 1)) w66 < μ6 i_7 w9))))) :
  Calls Tryz.prog 70 #[(Value.pointer r_1)] w R :=
  V.Z.calls_of_N ⟨V.assoc [(0, [3])], V.assocP [(7, V.line [0, 1, 2, 3, 4, 5, 6, 7, 8, 9, 10, 11, 12, 13, 14, 15, 16])], V.assocC [(1000005, ([], [])), (1000011, ([70], [V.Sh.one .bool])), (1000012, ([], []))], V.assocS [], ⟨[], true⟩⟩ Tryz.func70 rfl (Eq.mp (by kernel_rfl) h)

theorem image_reader_table_nf (r_1 : Option Addr) (w : World) (R : Ending → World → Prop) (h :
  Calls Tryz.prog 87 #[(Value.pointer r_1)] w fun e3 w4 =>
  (∃ n2, e3 = Ending.returned (Value.int .i64 n2) ∧
  ∃ I5 : Int → World → Prop, ∃ μ6 : Int → World → Nat, I5 0 w4 ∧
  ∀ t8_7 (j8 : Nat → Value) (w9 : World), I5 t8_7 w9 →
  (V.sel (decide (t8_7 < n2))
  (V.ptr r_1 fun a10 =>
  ∃ n11, World.cell? w9 (Addr.add a10 1) = some (Value.int .i64 n11) ∧
  Calls Tryz.prog 87 #[(Value.pointer r_1)] w9 fun e13 w14 =>
  (∃ n12, e13 = Ending.returned (Value.int .i64 n12) ∧
  V.ptr r_1 fun a15 =>
  ∃ A16, ∃ A16l, ∃ A16c, World.cell? w14 (Addr.add a15 0) = some (Value.slice A16 A16l A16c) ∧
  V.ptr r_1 fun a17 =>
  ∃ n18, World.cell? w14 (Addr.add a17 1) = some (Value.int .i64 n18) ∧
  V.ptr r_1 fun a19 =>
  ∃ n20, World.cell? w14 (Addr.add a19 1) = some (Value.int .i64 n20) ∧
  V.when (decide ((0 : Int) ≤ (IntKind.wrap .i64 (n20 + n12)) ∧ ((IntKind.wrap .i64 (n20 + n12)) : Int) ≤ ((A16c : Nat) : Int))) (V.when (decide ((0 : Int) ≤ n18 ∧ (n18 : Int) ≤ (((Int.toNat (IntKind.wrap .i64 (n20 + n12))) : Nat) : Int))) (∃ s21, Sem.run Tryz.prog (convert 28 9 (Value.slice (V.cut A16 A16c (Int.toNat n18) 1) ((Int.toNat (IntKind.wrap .i64 (n20 + n12))) - (Int.toNat n18)) (A16c - (Int.toNat n18)))) (World.drew w14) = .ok (Value.string s21) (World.drew w14) ∧
  V.ptr r_1 fun a22 =>
  ∃ n23, World.cell? (World.drew w14) (Addr.add a22 1) = some (Value.int .i64 n23) ∧
  V.ptr r_1 fun a24 =>
  ∃ w25, Sem.run Tryz.prog (Instr.storeAt 3 (Value.pointer (some (Addr.add a24 1))) (Value.int .i64 (IntKind.wrap .i64 (n23 + n12)))) (World.drew w14) = .ok () w25 ∧
  ∃ J26 : World → Prop, (V.sel (decide (t8_7 > 0))
  (V.ptr r_1 fun a27 =>
  ∃ A28, ∃ A28l, ∃ A28c, World.cell? w25 (Addr.add a27 2) = some (Value.slice A28 A28l A28c) ∧
  V.when (decide ((0 : Int) ≤ (IntKind.wrap .i64 (t8_7 - 1)) ∧ ((IntKind.wrap .i64 (t8_7 - 1)) : Int) < ((A28l : Nat) : Int))) (V.ptr A28 fun a29 =>
  ∃ s30, World.cell? w25 (Addr.add a29 ((Int.toNat (IntKind.wrap .i64 (t8_7 - 1))) * 1)) = some (Value.string s30) ∧
  V.sel ((Op.bytesLess (ByteArray.toList s21) (ByteArray.toList s30)) || (ByteArray.toList s21 == ByteArray.toList s30))
  (Calls Tryz.prog 62 #[(Value.pointer r_1), (Value.int .i64 263), (Value.int .i64 n11)] w25 fun e31 w32 =>
  (e31 = Ending.returned undef ∧
  J26  w32) ∨
  (∃ ch33, e31 = Ending.panicked ch33 ∧ R (Ending.panicked ch33) w32))
  (J26  w25)))
  (J26  w25)) ∧
  ∀ (j34 : Nat → Value) (w35 : World), J26  w35 →
  V.ptr r_1 fun a36 =>
  ∃ A37, ∃ A37l, ∃ A37c, World.cell? w35 (Addr.add a36 2) = some (Value.slice A37 A37l A37c) ∧
  ∀ w38, w38 = (World.alloc w35 (.cells #[(Value.string s21)] 9)) →
  ∃ A39, ∃ A39l, ∃ A39c, ∃ w40, Sem.run Tryz.prog (Builtin.append_ #[56, 56] 56 #[(Value.slice A37 A37l A37c), (Value.slice (some ⟨Array.size (World.heap w35), 0, none⟩) 1 1)]) w38 = .ok (Value.slice A39 A39l A39c) w40 ∧
  V.ptr r_1 fun a41 =>
  ∃ w42, Sem.run Tryz.prog (Instr.storeAt 56 (Value.pointer (some (Addr.add a41 2))) (Value.slice A39 A39l A39c)) w40 = .ok () w42 ∧
  V.ptr r_1 fun a43 =>
  ∃ A44, ∃ A44l, ∃ A44c, World.cell? w42 (Addr.add a43 3) = some (Value.slice A44 A44l A44c) ∧
  ∀ w45, w45 = (World.alloc w42 (.cells #[(Value.int .i64 n11)] 3)) →
  ∃ A46, ∃ A46l, ∃ A46c, ∃ w47, Sem.run Tryz.prog (Builtin.append_ #[134, 134] 134 #[(Value.slice A44 A44l A44c), (Value.slice (some ⟨Array.size (World.heap w42), 0, none⟩) 1 1)]) w45 = .ok (Value.slice A46 A46l A46c) w47 ∧
  V.ptr r_1 fun a48 =>
  ∃ w49, Sem.run Tryz.prog (Instr.storeAt 134 (Value.pointer (some (Addr.add a48 3))) (Value.slice A46 A46l A46c)) w47 = .ok () w49 ∧
  V.ptr r_1 fun a50 =>
  ∃ A51, ∃ A51l, ∃ A51c, World.cell? w49 (Addr.add a50 4) = some (Value.slice A51 A51l A51c) ∧
  ∀ w52, w52 = (World.alloc w49 (.cells #[(Value.bool false)] 4)) →
  ∃ A53, ∃ A53l, ∃ A53c, ∃ w54, Sem.run Tryz.prog (Builtin.append_ #[135, 135] 135 #[(Value.slice A51 A51l A51c), (Value.slice (some ⟨Array.size (World.heap w49), 0, none⟩) 1 1)]) w52 = .ok (Value.slice A53 A53l A53c) w54 ∧
  V.ptr r_1 fun a55 =>
  ∃ w56, Sem.run Tryz.prog (Instr.storeAt 135 (Value.pointer (some (Addr.add a55 4))) (Value.slice A53 A53l A53c)) w54 = .ok () w56 ∧
  I5 (IntKind.wrap .i64 (t8_7 + 1)) w56 ∧ μ6 (IntKind.wrap .i64 (t8_7 + 1)) w56 < μ6 t8_7 w9))) ∨
  (∃ ch57, e13 = Ending.panicked ch57 ∧ R (Ending.panicked ch57) w14))
  (R (Ending.returned undef) w9))) ∨
  (∃ ch58, e3 = Ending.panicked ch58 ∧ R (Ending.panicked ch58) w4)) :
  Calls Tryz.prog 60 #[(Value.pointer r_1)] w R :=
  V.Z.calls_of_Z ⟨V.assoc [(0, [8])], V.assocP [(5, V.line [0, 1, 2, 3, 4, 5, 6, 7, 8, 9, 10, 11, 12, 13, 14, 15, 16])], V.assocC [(1000010, ([], []))], V.assocS [], ⟨[], true⟩⟩ Tryz.func60 rfl rfl (Eq.mp (by kernel_rfl) h)

theorem image_reader_state_nf (r_1 : Option Addr) (w : World) (R : Ending → World → Prop) (h :
  ∀ w2, w2 = (World.alloc w (.cells #[(Value.int .i64 0), (Value.int .i64 0), (Value.slice none 0 0), (Value.slice none 0 0), (Value.slice none 0 0)] 26)) →
  ∀ w3, w3 = (World.alloc w2 (.cells #[(Value.int .i64 0), (Value.int .i64 0), (Value.slice none 0 0), (Value.slice none 0 0), (Value.slice none 0 0)] 26)) →
  Calls Tryz.prog 88 #[(Value.pointer r_1)] w3 fun e5 w6 =>
  (∃ n4, e5 = Ending.returned (Value.int .i64 n4) ∧
  ∃ w7, Sem.run Tryz.prog (Instr.storeAt 3 (Value.pointer (some (Addr.add ⟨Array.size (World.heap w2), 0, none⟩ 0))) (Value.int .i64 n4)) w6 = .ok () w7 ∧
  Calls Tryz.prog 88 #[(Value.pointer r_1)] w7 fun e9 w10 =>
  (∃ n8, e9 = Ending.returned (Value.int .i64 n8) ∧
  ∃ w11, Sem.run Tryz.prog (Instr.storeAt 3 (Value.pointer (some (Addr.add ⟨Array.size (World.heap w2), 0, none⟩ 1))) (Value.int .i64 n8)) w10 = .ok () w11 ∧
  Calls Tryz.prog 89 #[(Value.pointer r_1), (Value.func (.func 90) #[(Value.pointer r_1)] #[])] w11 fun e13 w14 =>
  (∃ A12, ∃ A12l, ∃ A12c, e13 = Ending.returned (Value.slice A12 A12l A12c) ∧
  ∃ w15, Sem.run Tryz.prog (Instr.storeAt 22 (Value.pointer (some (Addr.add ⟨Array.size (World.heap w2), 0, none⟩ 2))) (Value.slice A12 A12l A12c)) w14 = .ok () w15 ∧
  Calls Tryz.prog 91 #[(Value.pointer r_1), (Value.func (.func 92) #[(Value.pointer r_1)] #[])] w15 fun e17 w18 =>
  (∃ A16, ∃ A16l, ∃ A16c, e17 = Ending.returned (Value.slice A16 A16l A16c) ∧
  ∃ w19, Sem.run Tryz.prog (Instr.storeAt 23 (Value.pointer (some (Addr.add ⟨Array.size (World.heap w2), 0, none⟩ 3))) (Value.slice A16 A16l A16c)) w18 = .ok () w19 ∧
  Calls Tryz.prog 93 #[(Value.pointer r_1), (Value.func (.func 94) #[(Value.pointer r_1)] #[])] w19 fun e21 w22 =>
  (∃ A20, ∃ A20l, ∃ A20c, e21 = Ending.returned (Value.slice A20 A20l A20c) ∧
  ∃ w23, Sem.run Tryz.prog (Instr.storeAt 24 (Value.pointer (some (Addr.add ⟨Array.size (World.heap w2), 0, none⟩ 4))) (Value.slice A20 A20l A20c)) w22 = .ok () w23 ∧
  ∃ n24, ∃ n25, ∃ A26, ∃ A26l, ∃ A26c, ∃ A27, ∃ A27l, ∃ A27c, ∃ A28, ∃ A28l, ∃ A28c, V.cellsC (fun a_ x_ => World.cell? w23 a_ = some x_) ⟨Array.size (World.heap w2), 0, none⟩ [(Value.int .i64 n24), (Value.int .i64 n25), (Value.slice A26 A26l A26c), (Value.slice A27 A27l A27c), (Value.slice A28 A28l A28c)] ∧
  ∃ w29, Sem.run Tryz.prog (Instr.storeAt 26 (Value.pointer (some ⟨Array.size (World.heap w), 0, none⟩)) (Value.agg #[(Value.int .i64 n24), (Value.int .i64 n25), (Value.slice A26 A26l A26c), (Value.slice A27 A27l A27c), (Value.slice A28 A28l A28c)])) w23 = .ok () w29 ∧
  ∃ n30, ∃ n31, ∃ A32, ∃ A32l, ∃ A32c, ∃ A33, ∃ A33l, ∃ A33c, ∃ A34, ∃ A34l, ∃ A34c, V.cellsC (fun a_ x_ => World.cell? w29 a_ = some x_) ⟨Array.size (World.heap w), 0, none⟩ [(Value.int .i64 n30), (Value.int .i64 n31), (Value.slice A32 A32l A32c), (Value.slice A33 A33l A33c), (Value.slice A34 A34l A34c)] ∧
  R (Ending.returned (Value.agg #[(Value.int .i64 n30), (Value.int .i64 n31), (Value.slice A32 A32l A32c), (Value.slice A33 A33l A33c), (Value.slice A34 A34l A34c)])) w29) ∨
  (∃ ch35, e21 = Ending.panicked ch35 ∧ R (Ending.panicked ch35) w22)) ∨
  (∃ ch36, e17 = Ending.panicked ch36 ∧ R (Ending.panicked ch36) w18)) ∨
  (∃ ch37, e13 = Ending.panicked ch37 ∧ R (Ending.panicked ch37) w14)) ∨
  (∃ ch38, e9 = Ending.panicked ch38 ∧ R (Ending.panicked ch38) w10)) ∨
  (∃ ch39, e5 = Ending.panicked ch39 ∧ R (Ending.panicked ch39) w6)) :
  Calls Tryz.prog 61 #[(Value.pointer r_1)] w R :=
  V.Z.calls_of_Z ⟨V.assoc [], V.assocP [], V.assocC [], V.assocS [], ⟨[], true⟩⟩ Tryz.func61 rfl rfl (Eq.mp (by kernel_rfl) h)

theorem image_reader_fail_nf (r_1 : Option Addr) (code_2 : Int) (at_3 : Int) (w : World) (R : Ending → World → Prop) (h :
  ∀ w4, w4 = (World.alloc w (.cells #[(Value.int .i64 code_2), (Value.int .i64 at_3), (Value.string ByteArray.empty), Value.nilIface] 129)) →
  R (Ending.panicked [{ v := (Value.iface 131 (Value.agg #[(Value.pointer (some ⟨Array.size (World.heap w), 0, none⟩))])), recovered := false }]) w4) :
  Calls Tryz.prog 62 #[(Value.pointer r_1), (Value.int .i64 code_2), (Value.int .i64 at_3)] w R :=
  V.Z.calls_of_Z ⟨V.assoc [], V.assocP [], V.assocC [], V.assocS [], ⟨[], true⟩⟩ Tryz.func62 rfl rfl (Eq.mp (by kernel_rfl) h)

theorem image_reader_many_nf (r_1 : Option Addr) (w : World) (R : Ending → World → Prop) (h :
  V.ptr r_1 fun a2 =>
  ∃ n3, World.cell? w (Addr.add a2 1) = some (Value.int .i64 n3) ∧
  Calls Tryz.prog 118 #[(Value.pointer r_1)] w fun e5 w6 =>
  (∃ n4, e5 = Ending.returned (Value.int .u64 n4) ∧
  V.ptr r_1 fun a7 =>
  ∃ A8, ∃ A8l, ∃ A8c, World.cell? w6 (Addr.add a7 0) = some (Value.slice A8 A8l A8c) ∧
  V.ptr r_1 fun a9 =>
  ∃ n10, World.cell? w6 (Addr.add a9 1) = some (Value.int .i64 n10) ∧
  V.sel (decide (n4 > (IntKind.wrap .u64 ((IntKind.wrap .i64 (((A8l : Nat) : Int) - n10))))))
  (Calls Tryz.prog 62 #[(Value.pointer r_1), (Value.int .i64 262), (Value.int .i64 n3)] (World.drew w6) fun e11 w12 =>
  (e11 = Ending.returned undef ∧
  R (Ending.returned (Value.int .i64 (IntKind.wrap .i64 (n4)))) w12) ∨
  (∃ ch13, e11 = Ending.panicked ch13 ∧ R (Ending.panicked ch13) w12))
  (R (Ending.returned (Value.int .i64 (IntKind.wrap .i64 (n4)))) (World.drew w6))) ∨
  (∃ ch14, e5 = Ending.panicked ch14 ∧ R (Ending.panicked ch14) w6)) :
  Calls Tryz.prog 87 #[(Value.pointer r_1)] w R :=
  V.Z.calls_of_Z ⟨V.assoc [], V.assocP [(3, V.line [0, 1, 2, 3, 4, 5, 6, 7, 8, 9, 10, 11, 12])], V.assocC [], V.assocS [], ⟨[], true⟩⟩ Tryz.func87 rfl rfl (Eq.mp (by kernel_rfl) h)

theorem image_reader_number_nf (r_1 : Option Addr) (w : World) (R : Ending → World → Prop) (h :
  Calls Tryz.prog 118 #[(Value.pointer r_1)] w fun e3 w4 =>
  (∃ n2, e3 = Ending.returned (Value.int .u64 n2) ∧
  V.lt (IntKind.wrap .i64 ((BitVec.toNat (BitVec.ofInt 64 (IntKind.wrap .i64 ((Int.fdiv n2 (2 ^ 1)))) ^^^ BitVec.ofInt 64 (IntKind.wrap .i64 (0 - (IntKind.wrap .i64 ((IntKind.wrap .u64 ((BitVec.toNat (BitVec.ofInt 64 n2 &&& BitVec.ofInt 64 1) : Nat) : Int))))))) : Nat) : Int)) fun x5 =>
  R (Ending.returned (Value.int .i64 x5)) w4) ∨
  (∃ ch6, e3 = Ending.panicked ch6 ∧ R (Ending.panicked ch6) w4)) :
  Calls Tryz.prog 88 #[(Value.pointer r_1)] w R :=
  V.Z.calls_of_Z ⟨V.assoc [], V.assocP [], V.assocC [], V.assocS [], ⟨[], true⟩⟩ Tryz.func88 rfl rfl (Eq.mp (by kernel_rfl) h)

theorem image_readList_api_Node__nf (r_1 : Option Addr) (one_f2 : Nat) (one_a3 : Array Value) (one_c4 : Array Value) (w : World) (R : Ending → World → Prop) (h :
  Calls Tryz.prog 87 #[(Value.pointer r_1)] w fun e6 w7 =>
  (∃ n5, e6 = Ending.returned (Value.int .i64 n5) ∧
  ∃ I8 : Option Addr → Nat → Nat → Int → World → Prop, ∃ μ9 : Option Addr → Nat → Nat → Int → World → Nat, I8 none 0 0 0 w7 ∧
  ∀ l_10 l_10l l_10c t8_11 (j12 : Nat → Value) (w13 : World), I8 l_10 l_10l l_10c t8_11 w13 →
  (V.sel (decide (t8_11 < n5))
  (V.when (V.hasB Tryz.prog one_f2) (Calls Tryz.prog one_f2 ⟨Array.toList one_a3 ++ [] ++ Array.toList one_c4⟩ w13 fun e19 w20 =>
  (∃ s14, ∃ A15, ∃ A15l, ∃ A15c, ∃ A16, ∃ A16l, ∃ A16c, ∃ A17, ∃ A17l, ∃ A17c, ∃ b18, e19 = Ending.returned (Value.agg #[(Value.string s14), (Value.slice A15 A15l A15c), (Value.slice A16 A16l A16c), (Value.slice A17 A17l A17c), (Value.bool b18)]) ∧
  ∀ w21, w21 = (World.alloc w20 (.cells #[(Value.string s14), (Value.slice A15 A15l A15c), (Value.slice A16 A16l A16c), (Value.slice A17 A17l A17c), (Value.bool b18)] 53)) →
  ∃ A22, ∃ A22l, ∃ A22c, ∃ w23, Sem.run Tryz.prog (Builtin.append_ #[22, 22] 22 #[(Value.slice l_10 l_10l l_10c), (Value.slice (some ⟨Array.size (World.heap w20), 0, none⟩) 1 1)]) w21 = .ok (Value.slice A22 A22l A22c) w23 ∧
  I8 A22 A22l A22c (IntKind.wrap .i64 (t8_11 + 1)) w23 ∧ μ9 A22 A22l A22c (IntKind.wrap .i64 (t8_11 + 1)) w23 < μ9 l_10 l_10l l_10c t8_11 w13) ∨
  (∃ ch24, e19 = Ending.panicked ch24 ∧ R (Ending.panicked ch24) w20)))
  (R (Ending.returned (Value.slice l_10 l_10l l_10c)) w13))) ∨
  (∃ ch25, e6 = Ending.panicked ch25 ∧ R (Ending.panicked ch25) w7)) :
  Calls Tryz.prog 89 #[(Value.pointer r_1), (Value.func (.func one_f2) one_a3 one_c4)] w R :=
  V.Z.calls_of_Z ⟨V.assoc [(0, [5, 8])], V.assocP [], V.assocC [], V.assocS [], ⟨[], true⟩⟩ Tryz.func89 rfl rfl (Eq.mp (by kernel_rfl) h)

theorem image_reader_node_nf (r_1 : Option Addr) (w : World) (R : Ending → World → Prop) (h :
  ∀ w2, w2 = (World.alloc w (.cells #[(Value.string ByteArray.empty), (Value.slice none 0 0), (Value.slice none 0 0), (Value.slice none 0 0), (Value.bool false)] 53)) →
  ∀ w3, w3 = (World.alloc w2 (.cells #[(Value.string ByteArray.empty), (Value.slice none 0 0), (Value.slice none 0 0), (Value.slice none 0 0), (Value.bool false)] 53)) →
  Calls Tryz.prog 119 #[(Value.pointer r_1)] w3 fun e5 w6 =>
  (∃ s4, e5 = Ending.returned (Value.string s4) ∧
  ∃ w7, Sem.run Tryz.prog (Instr.storeAt 9 (Value.pointer (some (Addr.add ⟨Array.size (World.heap w2), 0, none⟩ 0))) (Value.string s4)) w6 = .ok () w7 ∧
  Calls Tryz.prog 120 #[(Value.pointer r_1), (Value.func (.func 121) #[(Value.pointer r_1)] #[])] w7 fun e9 w10 =>
  (∃ A8, ∃ A8l, ∃ A8c, e9 = Ending.returned (Value.slice A8 A8l A8c) ∧
  ∃ w11, Sem.run Tryz.prog (Instr.storeAt 49 (Value.pointer (some (Addr.add ⟨Array.size (World.heap w2), 0, none⟩ 1))) (Value.slice A8 A8l A8c)) w10 = .ok () w11 ∧
  Calls Tryz.prog 122 #[(Value.pointer r_1), (Value.func (.func 123) #[(Value.pointer r_1)] #[])] w11 fun e13 w14 =>
  (∃ A12, ∃ A12l, ∃ A12c, e13 = Ending.returned (Value.slice A12 A12l A12c) ∧
  ∃ w15, Sem.run Tryz.prog (Instr.storeAt 50 (Value.pointer (some (Addr.add ⟨Array.size (World.heap w2), 0, none⟩ 2))) (Value.slice A12 A12l A12c)) w14 = .ok () w15 ∧
  Calls Tryz.prog 124 #[(Value.pointer r_1), (Value.func (.func 125) #[(Value.pointer r_1)] #[])] w15 fun e17 w18 =>
  (∃ A16, ∃ A16l, ∃ A16c, e17 = Ending.returned (Value.slice A16 A16l A16c) ∧
  ∃ w19, Sem.run Tryz.prog (Instr.storeAt 51 (Value.pointer (some (Addr.add ⟨Array.size (World.heap w2), 0, none⟩ 3))) (Value.slice A16 A16l A16c)) w18 = .ok () w19 ∧
  Calls Tryz.prog 126 #[(Value.pointer r_1)] w19 fun e21 w22 =>
  (∃ b20, e21 = Ending.returned (Value.bool b20) ∧
  ∃ w23, Sem.run Tryz.prog (Instr.storeAt 4 (Value.pointer (some (Addr.add ⟨Array.size (World.heap w2), 0, none⟩ 4))) (Value.bool b20)) w22 = .ok () w23 ∧
  ∃ s24, ∃ A25, ∃ A25l, ∃ A25c, ∃ A26, ∃ A26l, ∃ A26c, ∃ A27, ∃ A27l, ∃ A27c, ∃ b28, V.cellsC (fun a_ x_ => World.cell? w23 a_ = some x_) ⟨Array.size (World.heap w2), 0, none⟩ [(Value.string s24), (Value.slice A25 A25l A25c), (Value.slice A26 A26l A26c), (Value.slice A27 A27l A27c), (Value.bool b28)] ∧
  ∃ w29, Sem.run Tryz.prog (Instr.storeAt 53 (Value.pointer (some ⟨Array.size (World.heap w), 0, none⟩)) (Value.agg #[(Value.string s24), (Value.slice A25 A25l A25c), (Value.slice A26 A26l A26c), (Value.slice A27 A27l A27c), (Value.bool b28)])) w23 = .ok () w29 ∧
  ∃ s30, ∃ A31, ∃ A31l, ∃ A31c, ∃ A32, ∃ A32l, ∃ A32c, ∃ A33, ∃ A33l, ∃ A33c, ∃ b34, V.cellsC (fun a_ x_ => World.cell? w29 a_ = some x_) ⟨Array.size (World.heap w), 0, none⟩ [(Value.string s30), (Value.slice A31 A31l A31c), (Value.slice A32 A32l A32c), (Value.slice A33 A33l A33c), (Value.bool b34)] ∧
  R (Ending.returned (Value.agg #[(Value.string s30), (Value.slice A31 A31l A31c), (Value.slice A32 A32l A32c), (Value.slice A33 A33l A33c), (Value.bool b34)])) w29) ∨
  (∃ ch35, e21 = Ending.panicked ch35 ∧ R (Ending.panicked ch35) w22)) ∨
  (∃ ch36, e17 = Ending.panicked ch36 ∧ R (Ending.panicked ch36) w18)) ∨
  (∃ ch37, e13 = Ending.panicked ch37 ∧ R (Ending.panicked ch37) w14)) ∨
  (∃ ch38, e9 = Ending.panicked ch38 ∧ R (Ending.panicked ch38) w10)) ∨
  (∃ ch39, e5 = Ending.panicked ch39 ∧ R (Ending.panicked ch39) w6)) :
  Calls Tryz.prog 90 #[(Value.pointer r_1)] w R :=
  V.Z.calls_of_Z ⟨V.assoc [], V.assocP [], V.assocC [], V.assocS [], ⟨[], true⟩⟩ Tryz.func90 rfl rfl (Eq.mp (by kernel_rfl) h)

theorem image_readList_api_Bound__nf (r_1 : Option Addr) (one_f2 : Nat) (one_a3 : Array Value) (one_c4 : Array Value) (w : World) (R : Ending → World → Prop) (h :
  Calls Tryz.prog 87 #[(Value.pointer r_1)] w fun e6 w7 =>
  (∃ n5, e6 = Ending.returned (Value.int .i64 n5) ∧
  ∃ I8 : Option Addr → Nat → Nat → Int → World → Prop, ∃ μ9 : Option Addr → Nat → Nat → Int → World → Nat, I8 none 0 0 0 w7 ∧
  ∀ l_10 l_10l l_10c t8_11 (j12 : Nat → Value) (w13 : World), I8 l_10 l_10l l_10c t8_11 w13 →
  (V.sel (decide (t8_11 < n5))
  (V.when (V.hasB Tryz.prog one_f2) (Calls Tryz.prog one_f2 ⟨Array.toList one_a3 ++ [] ++ Array.toList one_c4⟩ w13 fun e23 w24 =>
  (∃ s14, ∃ A15, ∃ A15l, ∃ A15c, ∃ A16, ∃ A16l, ∃ A16c, ∃ A17, ∃ A17l, ∃ A17c, ∃ s18, ∃ A19, ∃ A19l, ∃ A19c, ∃ A20, ∃ A20l, ∃ A20c, ∃ n21, ∃ s22, e23 = Ending.returned (Value.agg #[(Value.string s14), (Value.slice A15 A15l A15c), (Value.slice A16 A16l A16c), (Value.slice A17 A17l A17c), (Value.string s18), (Value.slice A19 A19l A19c), (Value.slice A20 A20l A20c), (Value.int .i64 n21), (Value.string s22)]) ∧
  ∀ w25, w25 = (World.alloc w24 (.cells #[(Value.string s14), (Value.slice A15 A15l A15c), (Value.slice A16 A16l A16c), (Value.slice A17 A17l A17c), (Value.string s18), (Value.slice A19 A19l A19c), (Value.slice A20 A20l A20c), (Value.int .i64 n21), (Value.string s22)] 71)) →
  ∃ A26, ∃ A26l, ∃ A26c, ∃ w27, Sem.run Tryz.prog (Builtin.append_ #[23, 23] 23 #[(Value.slice l_10 l_10l l_10c), (Value.slice (some ⟨Array.size (World.heap w24), 0, none⟩) 1 1)]) w25 = .ok (Value.slice A26 A26l A26c) w27 ∧
  I8 A26 A26l A26c (IntKind.wrap .i64 (t8_11 + 1)) w27 ∧ μ9 A26 A26l A26c (IntKind.wrap .i64 (t8_11 + 1)) w27 < μ9 l_10 l_10l l_10c t8_11 w13) ∨
  (∃ ch28, e23 = Ending.panicked ch28 ∧ R (Ending.panicked ch28) w24)))
  (R (Ending.returned (Value.slice l_10 l_10l l_10c)) w13))) ∨
  (∃ ch29, e6 = Ending.panicked ch29 ∧ R (Ending.panicked ch29) w7)) :
  Calls Tryz.prog 91 #[(Value.pointer r_1), (Value.func (.func one_f2) one_a3 one_c4)] w R :=
  V.Z.calls_of_Z ⟨V.assoc [(0, [5, 8])], V.assocP [], V.assocC [], V.assocS [], ⟨[], true⟩⟩ Tryz.func91 rfl rfl (Eq.mp (by kernel_rfl) h)

theorem image_reader_bound_nf (r_1 : Option Addr) (w : World) (R : Ending → World → Prop) (h :
  ∀ w2, w2 = (World.alloc w (.cells #[(Value.string ByteArray.empty), (Value.slice none 0 0), (Value.slice none 0 0), (Value.slice none 0 0), (Value.string ByteArray.empty), (Value.slice none 0 0), (Value.slice none 0 0), (Value.int .i64 0), (Value.string ByteArray.empty)] 71)) →
  Calls Tryz.prog 127 #[(Value.pointer r_1)] w2 fun e11 w12 =>
  (∃ s3, ∃ A4, ∃ A4l, ∃ A4c, ∃ A5, ∃ A5l, ∃ A5c, ∃ A6, ∃ A6l, ∃ A6c, ∃ s7, ∃ A8, ∃ A8l, ∃ A8c, ∃ A9, ∃ A9l, ∃ A9c, ∃ n10, e11 = Ending.returned (Value.agg #[(Value.string s3), (Value.slice A4 A4l A4c), (Value.slice A5 A5l A5c), (Value.slice A6 A6l A6c), (Value.string s7), (Value.slice A8 A8l A8c), (Value.slice A9 A9l A9c), (Value.int .i64 n10)]) ∧
  ∀ w13, w13 = (World.alloc w12 (.cells #[(Value.string ByteArray.empty), (Value.slice none 0 0), (Value.slice none 0 0), (Value.slice none 0 0), (Value.string ByteArray.empty), (Value.slice none 0 0), (Value.slice none 0 0), (Value.int .i64 0)] 68)) →
  ∃ w14, Sem.run Tryz.prog (Instr.storeAt 68 (Value.pointer (some ⟨Array.size (World.heap w12), 0, none⟩)) (Value.agg #[(Value.string s3), (Value.slice A4 A4l A4c), (Value.slice A5 A5l A5c), (Value.slice A6 A6l A6c), (Value.string s7), (Value.slice A8 A8l A8c), (Value.slice A9 A9l A9c), (Value.int .i64 n10)])) w13 = .ok () w14 ∧
  ∃ S15 : World → Prop, S15 (World.drew w14) ∧
  ∃ s17, ∃ A18, ∃ A18l, ∃ A18c, ∃ A19, ∃ A19l, ∃ A19c, ∃ A20, ∃ A20l, ∃ A20c, ∃ s21, ∃ A22, ∃ A22l, ∃ A22c, ∃ A23, ∃ A23l, ∃ A23c, ∃ n24, V.cellsC (fun a_ x_ => ∀ w16, S15 w16 → World.cell? w16 a_ = some x_) ⟨Array.size (World.heap w12), 0, none⟩ [(Value.string s17), (Value.slice A18 A18l A18c), (Value.slice A19 A19l A19c), (Value.slice A20 A20l A20c), (Value.string s21), (Value.slice A22 A22l A22c), (Value.slice A23 A23l A23c), (Value.int .i64 n24)] ∧
  Calls Tryz.prog 119 #[(Value.pointer r_1)] (World.drew w14) fun e26 w27 =>
  (∃ s25, e26 = Ending.returned (Value.string s25) ∧
  S15 w27 ∧
  ∃ w28, Sem.run Tryz.prog (Instr.storeAt 71 (Value.pointer (some ⟨Array.size (World.heap w), 0, none⟩)) (Value.agg #[(Value.string s17), (Value.slice A18 A18l A18c), (Value.slice A19 A19l A19c), (Value.slice A20 A20l A20c), (Value.string s21), (Value.slice A22 A22l A22c), (Value.slice A23 A23l A23c), (Value.int .i64 n24), (Value.string s25)])) w27 = .ok () w28 ∧
  ∃ s29, ∃ A30, ∃ A30l, ∃ A30c, ∃ A31, ∃ A31l, ∃ A31c, ∃ A32, ∃ A32l, ∃ A32c, ∃ s33, ∃ A34, ∃ A34l, ∃ A34c, ∃ A35, ∃ A35l, ∃ A35c, ∃ n36, ∃ s37, V.cellsC (fun a_ x_ => World.cell? w28 a_ = some x_) ⟨Array.size (World.heap w), 0, none⟩ [(Value.string s29), (Value.slice A30 A30l A30c), (Value.slice A31 A31l A31c), (Value.slice A32 A32l A32c), (Value.string s33), (Value.slice A34 A34l A34c), (Value.slice A35 A35l A35c), (Value.int .i64 n36), (Value.string s37)] ∧
  R (Ending.returned (Value.agg #[(Value.string s29), (Value.slice A30 A30l A30c), (Value.slice A31 A31l A31c), (Value.slice A32 A32l A32c), (Value.string s33), (Value.slice A34 A34l A34c), (Value.slice A35 A35l A35c), (Value.int .i64 n36), (Value.string s37)])) w28) ∨
  (∃ ch38, e26 = Ending.panicked ch38 ∧ R (Ending.panicked ch38) w27)) ∨
  (∃ ch39, e11 = Ending.panicked ch39 ∧ R (Ending.panicked ch39) w12)) :
  Calls Tryz.prog 92 #[(Value.pointer r_1)] w R :=
  V.Z.calls_of_Z ⟨V.assoc [], V.assocP [(2, V.line [0, 1, 2, 3, 4])], V.assocC [], V.assocS [], ⟨[], true⟩⟩ Tryz.func92 rfl rfl (Eq.mp (by kernel_rfl) h)

theorem image_readList_api_Pending__nf (r_1 : Option Addr) (one_f2 : Nat) (one_a3 : Array Value) (one_c4 : Array Value) (w : World) (R : Ending → World → Prop) (h :
  Calls Tryz.prog 87 #[(Value.pointer r_1)] w fun e6 w7 =>
  (∃ n5, e6 = Ending.returned (Value.int .i64 n5) ∧
  ∃ I8 : Option Addr → Nat → Nat → Int → World → Prop, ∃ μ9 : Option Addr → Nat → Nat → Int → World → Nat, I8 none 0 0 0 w7 ∧
  ∀ l_10 l_10l l_10c t8_11 (j12 : Nat → Value) (w13 : World), I8 l_10 l_10l l_10c t8_11 w13 →
  (V.sel (decide (t8_11 < n5))
  (V.when (V.hasB Tryz.prog one_f2) (Calls Tryz.prog one_f2 ⟨Array.toList one_a3 ++ [] ++ Array.toList one_c4⟩ w13 fun e26 w27 =>
  (∃ s14, ∃ A15, ∃ A15l, ∃ A15c, ∃ A16, ∃ A16l, ∃ A16c, ∃ A17, ∃ A17l, ∃ A17c, ∃ s18, ∃ A19, ∃ A19l, ∃ A19c, ∃ A20, ∃ A20l, ∃ A20c, ∃ n21, ∃ n22, ∃ n23, ∃ n24, ∃ b25, e26 = Ending.returned (Value.agg #[(Value.string s14), (Value.slice A15 A15l A15c), (Value.slice A16 A16l A16c), (Value.slice A17 A17l A17c), (Value.string s18), (Value.slice A19 A19l A19c), (Value.slice A20 A20l A20c), (Value.int .i64 n21), (Value.int .i64 n22), (Value.int .i64 n23), (Value.int .i64 n24), (Value.bool b25)]) ∧
  ∀ w28, w28 = (World.alloc w27 (.cells #[(Value.string s14), (Value.slice A15 A15l A15c), (Value.slice A16 A16l A16c), (Value.slice A17 A17l A17c), (Value.string s18), (Value.slice A19 A19l A19c), (Value.slice A20 A20l A20c), (Value.int .i64 n21), (Value.int .i64 n22), (Value.int .i64 n23), (Value.int .i64 n24), (Value.bool b25)] 73)) →
  ∃ A29, ∃ A29l, ∃ A29c, ∃ w30, Sem.run Tryz.prog (Builtin.append_ #[24, 24] 24 #[(Value.slice l_10 l_10l l_10c), (Value.slice (some ⟨Array.size (World.heap w27), 0, none⟩) 1 1)]) w28 = .ok (Value.slice A29 A29l A29c) w30 ∧
  I8 A29 A29l A29c (IntKind.wrap .i64 (t8_11 + 1)) w30 ∧ μ9 A29 A29l A29c (IntKind.wrap .i64 (t8_11 + 1)) w30 < μ9 l_10 l_10l l_10c t8_11 w13) ∨
  (∃ ch31, e26 = Ending.panicked ch31 ∧ R (Ending.panicked ch31) w27)))
  (R (Ending.returned (Value.slice l_10 l_10l l_10c)) w13))) ∨
  (∃ ch32, e6 = Ending.panicked ch32 ∧ R (Ending.panicked ch32) w7)) :
  Calls Tryz.prog 93 #[(Value.pointer r_1), (Value.func (.func one_f2) one_a3 one_c4)] w R :=
  V.Z.calls_of_Z ⟨V.assoc [(0, [5, 8])], V.assocP [], V.assocC [], V.assocS [], ⟨[], true⟩⟩ Tryz.func93 rfl rfl (Eq.mp (by kernel_rfl) h)

theorem image_reader_pending_nf (r_1 : Option Addr) (w : World) (R : Ending → World → Prop) (h :
  ∀ w2, w2 = (World.alloc w (.cells #[(Value.string ByteArray.empty), (Value.slice none 0 0), (Value.slice none 0 0), (Value.slice none 0 0), (Value.string ByteArray.empty), (Value.slice none 0 0), (Value.slice none 0 0), (Value.int .i64 0), (Value.int .i64 0), (Value.int .i64 0), (Value.int .i64 0), (Value.bool false)] 73)) →
  ∀ w3, w3 = (World.alloc w2 (.cells #[(Value.string ByteArray.empty), (Value.slice none 0 0), (Value.slice none 0 0), (Value.slice none 0 0), (Value.string ByteArray.empty), (Value.slice none 0 0), (Value.slice none 0 0), (Value.int .i64 0), (Value.int .i64 0), (Value.int .i64 0), (Value.int .i64 0), (Value.bool false)] 73)) →
  Calls Tryz.prog 127 #[(Value.pointer r_1)] w3 fun e12 w13 =>
  (∃ s4, ∃ A5, ∃ A5l, ∃ A5c, ∃ A6, ∃ A6l, ∃ A6c, ∃ A7, ∃ A7l, ∃ A7c, ∃ s8, ∃ A9, ∃ A9l, ∃ A9c, ∃ A10, ∃ A10l, ∃ A10c, ∃ n11, e12 = Ending.returned (Value.agg #[(Value.string s4), (Value.slice A5 A5l A5c), (Value.slice A6 A6l A6c), (Value.slice A7 A7l A7c), (Value.string s8), (Value.slice A9 A9l A9c), (Value.slice A10 A10l A10c), (Value.int .i64 n11)]) ∧
  ∃ w14, Sem.run Tryz.prog (Instr.storeAt 68 (Value.pointer (some (Addr.add ⟨Array.size (World.heap w2), 0, none⟩ 0))) (Value.agg #[(Value.string s4), (Value.slice A5 A5l A5c), (Value.slice A6 A6l A6c), (Value.slice A7 A7l A7c), (Value.string s8), (Value.slice A9 A9l A9c), (Value.slice A10 A10l A10c), (Value.int .i64 n11)])) w13 = .ok () w14 ∧
  Calls Tryz.prog 88 #[(Value.pointer r_1)] w14 fun e16 w17 =>
  (∃ n15, e16 = Ending.returned (Value.int .i64 n15) ∧
  ∃ w18, Sem.run Tryz.prog (Instr.storeAt 3 (Value.pointer (some (Addr.add ⟨Array.size (World.heap w2), 0, none⟩ 8))) (Value.int .i64 n15)) w17 = .ok () w18 ∧
  Calls Tryz.prog 88 #[(Value.pointer r_1)] w18 fun e20 w21 =>
  (∃ n19, e20 = Ending.returned (Value.int .i64 n19) ∧
  ∃ w22, Sem.run Tryz.prog (Instr.storeAt 3 (Value.pointer (some (Addr.add ⟨Array.size (World.heap w2), 0, none⟩ 9))) (Value.int .i64 n19)) w21 = .ok () w22 ∧
  Calls Tryz.prog 88 #[(Value.pointer r_1)] w22 fun e24 w25 =>
  (∃ n23, e24 = Ending.returned (Value.int .i64 n23) ∧
  ∃ w26, Sem.run Tryz.prog (Instr.storeAt 3 (Value.pointer (some (Addr.add ⟨Array.size (World.heap w2), 0, none⟩ 10))) (Value.int .i64 n23)) w25 = .ok () w26 ∧
  Calls Tryz.prog 126 #[(Value.pointer r_1)] w26 fun e28 w29 =>
  (∃ b27, e28 = Ending.returned (Value.bool b27) ∧
  ∃ w30, Sem.run Tryz.prog (Instr.storeAt 4 (Value.pointer (some (Addr.add ⟨Array.size (World.heap w2), 0, none⟩ 11))) (Value.bool b27)) w29 = .ok () w30 ∧
  ∃ s31, ∃ A32, ∃ A32l, ∃ A32c, ∃ A33, ∃ A33l, ∃ A33c, ∃ A34, ∃ A34l, ∃ A34c, ∃ s35, ∃ A36, ∃ A36l, ∃ A36c, ∃ A37, ∃ A37l, ∃ A37c, ∃ n38, ∃ n39, ∃ n40, ∃ n41, ∃ b42, V.cellsC (fun a_ x_ => World.cell? w30 a_ = some x_) ⟨Array.size (World.heap w2), 0, none⟩ [(Value.string s31), (Value.slice A32 A32l A32c), (Value.slice A33 A33l A33c), (Value.slice A34 A34l A34c), (Value.string s35), (Value.slice A36 A36l A36c), (Value.slice A37 A37l A37c), (Value.int .i64 n38), (Value.int .i64 n39), (Value.int .i64 n40), (Value.int .i64 n41), (Value.bool b42)] ∧
  ∃ w43, Sem.run Tryz.prog (Instr.storeAt 73 (Value.pointer (some ⟨Array.size (World.heap w), 0, none⟩)) (Value.agg #[(Value.string s31), (Value.slice A32 A32l A32c), (Value.slice A33 A33l A33c), (Value.slice A34 A34l A34c), (Value.string s35), (Value.slice A36 A36l A36c), (Value.slice A37 A37l A37c), (Value.int .i64 n38), (Value.int .i64 n39), (Value.int .i64 n40), (Value.int .i64 n41), (Value.bool b42)])) w30 = .ok () w43 ∧
  ∃ s44, ∃ A45, ∃ A45l, ∃ A45c, ∃ A46, ∃ A46l, ∃ A46c, ∃ A47, ∃ A47l, ∃ A47c, ∃ s48, ∃ A49, ∃ A49l, ∃ A49c, ∃ A50, ∃ A50l, ∃ A50c, ∃ n51, ∃ n52, ∃ n53, ∃ n54, ∃ b55, V.cellsC (fun a_ x_ => World.cell? w43 a_ = some x_) ⟨Array.size (World.heap w), 0, none⟩ [(Value.string s44), (Value.slice A45 A45l A45c), (Value.slice A46 A46l A46c), (Value.slice A47 A47l A47c), (Value.string s48), (Value.slice A49 A49l A49c), (Value.slice A50 A50l A50c), (Value.int .i64 n51), (Value.int .i64 n52), (Value.int .i64 n53), (Value.int .i64 n54), (Value.bool b55)] ∧
  R (Ending.returned (Value.agg #[(Value.string s44), (Value.slice A45 A45l A45c), (Value.slice A46 A46l A46c), (Value.slice A47 A47l A47c), (Value.string s48), (Value.slice A49 A49l A49c), (Value.slice A50 A50l A50c), (Value.int .i64 n51), (Value.int .i64 n52), (Value.int .i64 n53), (Value.int .i64 n54), (Value.bool b55)])) w43) ∨
  (∃ ch56, e28 = Ending.panicked ch56 ∧ R (Ending.panicked ch56) w29)) ∨
  (∃ ch57, e24 = Ending.panicked ch57 ∧ R (Ending.panicked ch57) w25)) ∨
  (∃ ch58, e20 = Ending.panicked ch58 ∧ R (Ending.panicked ch58) w21)) ∨
  (∃ ch59, e16 = Ending.panicked ch59 ∧ R (Ending.panicked ch59) w17)) ∨
  (∃ ch60, e12 = Ending.panicked ch60 ∧ R (Ending.panicked ch60) w13)) :
  Calls Tryz.prog 94 #[(Value.pointer r_1)] w R :=
  V.Z.calls_of_Z ⟨V.assoc [], V.assocP [], V.assocC [], V.assocS [], ⟨[], true⟩⟩ Tryz.func94 rfl rfl (Eq.mp (by kernel_rfl) h)

theorem image_reader_count_nf (r_1 : Option Addr) (w : World) (R : Ending → World → Prop) (h :
  V.ptr r_1 fun a2 =>
  ∃ n3, World.cell? w (Addr.add a2 1) = some (Value.int .i64 n3) ∧
  ∃ I4 : Int → Int → World → Prop, ∃ μ5 : Int → Int → World → Nat, I4 0 0 w ∧
  ∀ n_6 shift_7 (j8 : Nat → Value) (w9 : World), I4 n_6 shift_7 w9 →
  (Calls Tryz.prog 138 #[(Value.pointer r_1)] w9 fun e11 w12 =>
  (∃ n10, e11 = Ending.returned (Value.int .u8 n10) ∧
  ∃ J13 : World → Prop, (V.sel (shift_7 == 63)
  (V.sel (decide (n10 > 1))
  (Calls Tryz.prog 62 #[(Value.pointer r_1), (Value.int .i64 263), (Value.int .i64 n3)] w12 fun e14 w15 =>
  (e14 = Ending.returned undef ∧
  J13  w15) ∨
  (∃ ch16, e14 = Ending.panicked ch16 ∧ R (Ending.panicked ch16) w15))
  (V.sel (decide (shift_7 > 0))
  (V.sel (n10 == 0)
  (Calls Tryz.prog 62 #[(Value.pointer r_1), (Value.int .i64 263), (Value.int .i64 n3)] w12 fun e17 w18 =>
  (e17 = Ending.returned undef ∧
  J13  w18) ∨
  (∃ ch19, e17 = Ending.panicked ch19 ∧ R (Ending.panicked ch19) w18))
  (J13  w12))
  (J13  w12)))
  (V.sel (decide (shift_7 > 0))
  (V.sel (n10 == 0)
  (Calls Tryz.prog 62 #[(Value.pointer r_1), (Value.int .i64 263), (Value.int .i64 n3)] w12 fun e20 w21 =>
  (e20 = Ending.returned undef ∧
  J13  w21) ∨
  (∃ ch22, e20 = Ending.panicked ch22 ∧ R (Ending.panicked ch22) w21))
  (J13  w12))
  (J13  w12))) ∧
  ∀ (j23 : Nat → Value) (w24 : World), J13  w24 →
  V.when (decide (0 ≤ shift_7)) (V.lt (IntKind.wrap .u64 ((BitVec.toNat (BitVec.ofInt 64 n_6 ||| BitVec.ofInt 64 (IntKind.wrap .u64 ((IntKind.wrap .u64 ((IntKind.wrap .u8 ((BitVec.toNat (BitVec.ofInt 8 n10 &&& BitVec.ofInt 8 127) : Nat) : Int)))) * 2 ^ (min (Int.toNat shift_7) 64)))) : Nat) : Int)) fun x25 =>
  V.sel (decide (n10 < 128))
  (R (Ending.returned (Value.int .u64 x25)) w24)
  (I4 x25 (IntKind.wrap .i64 (shift_7 + 7)) w24 ∧ μ5 x25 (IntKind.wrap .i64 (shift_7 + 7)) w24 < μ5 n_6 shift_7 w9))) ∨
  (∃ ch26, e11 = Ending.panicked ch26 ∧ R (Ending.panicked ch26) w12))) :
  Calls Tryz.prog 118 #[(Value.pointer r_1)] w R :=
  V.Z.calls_of_Z ⟨V.assoc [(0, [4, 5])], V.assocP [], V.assocC [(1000009, ([], []))], V.assocS [], ⟨[], true⟩⟩ Tryz.func118 rfl rfl (Eq.mp (by kernel_rfl) h)

theorem image_reader_text_nf (r_1 : Option Addr) (w : World) (R : Ending → World → Prop) (h :
  V.ptr r_1 fun a2 =>
  ∃ n3, World.cell? w (Addr.add a2 1) = some (Value.int .i64 n3) ∧
  Calls Tryz.prog 118 #[(Value.pointer r_1)] w fun e5 w6 =>
  (∃ n4, e5 = Ending.returned (Value.int .u64 n4) ∧
  ∃ J7 : World → Prop, (V.ptr r_1 fun a8 =>
  ∃ A9, ∃ A9l, ∃ A9c, World.cell? w6 (Addr.add a8 2) = some (Value.slice A9 A9l A9c) ∧
  V.sel (decide (n4 ≥ (IntKind.wrap .u64 (((A9l : Nat) : Int)))))
  (Calls Tryz.prog 62 #[(Value.pointer r_1), (Value.int .i64 263), (Value.int .i64 n3)] w6 fun e10 w11 =>
  (e10 = Ending.returned undef ∧
  J7  w11) ∨
  (∃ ch12, e10 = Ending.panicked ch12 ∧ R (Ending.panicked ch12) w11))
  (J7  w6)) ∧
  ∀ (j13 : Nat → Value) (w14 : World), J7  w14 →
  V.ptr r_1 fun a15 =>
  ∃ A16, ∃ A16l, ∃ A16c, World.cell? w14 (Addr.add a15 4) = some (Value.slice A16 A16l A16c) ∧
  V.when (decide ((0 : Int) ≤ n4 ∧ (n4 : Int) < ((A16l : Nat) : Int))) (V.ptr A16 fun a17 =>
  ∃ w18, Sem.run Tryz.prog (Instr.storeAt 4 (Value.pointer (some (Addr.add a17 ((Int.toNat n4) * 1)))) (Value.bool true)) w14 = .ok () w18 ∧
  V.ptr r_1 fun a19 =>
  ∃ A20, ∃ A20l, ∃ A20c, World.cell? w18 (Addr.add a19 2) = some (Value.slice A20 A20l A20c) ∧
  V.when (decide ((0 : Int) ≤ n4 ∧ (n4 : Int) < ((A20l : Nat) : Int))) (V.ptr A20 fun a21 =>
  ∃ s22, World.cell? w18 (Addr.add a21 ((Int.toNat n4) * 1)) = some (Value.string s22) ∧
  R (Ending.returned (Value.string s22)) w18))) ∨
  (∃ ch23, e5 = Ending.panicked ch23 ∧ R (Ending.panicked ch23) w6)) :
  Calls Tryz.prog 119 #[(Value.pointer r_1)] w R :=
  V.Z.calls_of_Z ⟨V.assoc [], V.assocP [], V.assocC [(1000006, ([], []))], V.assocS [], ⟨[], true⟩⟩ Tryz.func119 rfl rfl (Eq.mp (by kernel_rfl) h)

theorem image_readList_api_Label__nf (r_1 : Option Addr) (one_f2 : Nat) (one_a3 : Array Value) (one_c4 : Array Value) (w : World) (R : Ending → World → Prop) (h :
  Calls Tryz.prog 87 #[(Value.pointer r_1)] w fun e6 w7 =>
  (∃ n5, e6 = Ending.returned (Value.int .i64 n5) ∧
  ∃ I8 : Option Addr → Nat → Nat → Int → World → Prop, ∃ μ9 : Option Addr → Nat → Nat → Int → World → Nat, I8 none 0 0 0 w7 ∧
  ∀ l_10 l_10l l_10c t8_11 (j12 : Nat → Value) (w13 : World), I8 l_10 l_10l l_10c t8_11 w13 →
  (V.sel (decide (t8_11 < n5))
  (V.when (V.hasB Tryz.prog one_f2) (Calls Tryz.prog one_f2 ⟨Array.toList one_a3 ++ [] ++ Array.toList one_c4⟩ w13 fun e16 w17 =>
  (∃ s14, ∃ s15, e16 = Ending.returned (Value.agg #[(Value.string s14), (Value.string s15)]) ∧
  ∀ w18, w18 = (World.alloc w17 (.cells #[(Value.string s14), (Value.string s15)] 87)) →
  ∃ A19, ∃ A19l, ∃ A19c, ∃ w20, Sem.run Tryz.prog (Builtin.append_ #[49, 49] 49 #[(Value.slice l_10 l_10l l_10c), (Value.slice (some ⟨Array.size (World.heap w17), 0, none⟩) 1 1)]) w18 = .ok (Value.slice A19 A19l A19c) w20 ∧
  I8 A19 A19l A19c (IntKind.wrap .i64 (t8_11 + 1)) w20 ∧ μ9 A19 A19l A19c (IntKind.wrap .i64 (t8_11 + 1)) w20 < μ9 l_10 l_10l l_10c t8_11 w13) ∨
  (∃ ch21, e16 = Ending.panicked ch21 ∧ R (Ending.panicked ch21) w17)))
  (R (Ending.returned (Value.slice l_10 l_10l l_10c)) w13))) ∨
  (∃ ch22, e6 = Ending.panicked ch22 ∧ R (Ending.panicked ch22) w7)) :
  Calls Tryz.prog 120 #[(Value.pointer r_1), (Value.func (.func one_f2) one_a3 one_c4)] w R :=
  V.Z.calls_of_Z ⟨V.assoc [(0, [5, 8])], V.assocP [], V.assocC [], V.assocS [], ⟨[], true⟩⟩ Tryz.func120 rfl rfl (Eq.mp (by kernel_rfl) h)

theorem image_reader_label_nf (r_1 : Option Addr) (w : World) (R : Ending → World → Prop) (h :
  ∀ w2, w2 = (World.alloc w (.cells #[(Value.string ByteArray.empty), (Value.string ByteArray.empty)] 87)) →
  Calls Tryz.prog 119 #[(Value.pointer r_1)] w2 fun e4 w5 =>
  (∃ s3, e4 = Ending.returned (Value.string s3) ∧
  Calls Tryz.prog 119 #[(Value.pointer r_1)] w5 fun e7 w8 =>
  (∃ s6, e7 = Ending.returned (Value.string s6) ∧
  ∃ w9, Sem.run Tryz.prog (Instr.storeAt 87 (Value.pointer (some ⟨Array.size (World.heap w), 0, none⟩)) (Value.agg #[(Value.string s3), (Value.string s6)])) w8 = .ok () w9 ∧
  ∃ s10, ∃ s11, V.cellsC (fun a_ x_ => World.cell? w9 a_ = some x_) ⟨Array.size (World.heap w), 0, none⟩ [(Value.string s10), (Value.string s11)] ∧
  R (Ending.returned (Value.agg #[(Value.string s10), (Value.string s11)])) w9) ∨
  (∃ ch12, e7 = Ending.panicked ch12 ∧ R (Ending.panicked ch12) w8)) ∨
  (∃ ch13, e4 = Ending.panicked ch13 ∧ R (Ending.panicked ch13) w5)) :
  Calls Tryz.prog 121 #[(Value.pointer r_1)] w R :=
  V.Z.calls_of_Z ⟨V.assoc [], V.assocP [], V.assocC [], V.assocS [], ⟨[], true⟩⟩ Tryz.func121 rfl rfl (Eq.mp (by kernel_rfl) h)

theorem image_readList_api_Taint__nf (r_1 : Option Addr) (one_f2 : Nat) (one_a3 : Array Value) (one_c4 : Array Value) (w : World) (R : Ending → World → Prop) (h :
  Calls Tryz.prog 87 #[(Value.pointer r_1)] w fun e6 w7 =>
  (∃ n5, e6 = Ending.returned (Value.int .i64 n5) ∧
  ∃ I8 : Option Addr → Nat → Nat → Int → World → Prop, ∃ μ9 : Option Addr → Nat → Nat → Int → World → Nat, I8 none 0 0 0 w7 ∧
  ∀ l_10 l_10l l_10c t8_11 (j12 : Nat → Value) (w13 : World), I8 l_10 l_10l l_10c t8_11 w13 →
  (V.sel (decide (t8_11 < n5))
  (V.when (V.hasB Tryz.prog one_f2) (Calls Tryz.prog one_f2 ⟨Array.toList one_a3 ++ [] ++ Array.toList one_c4⟩ w13 fun e17 w18 =>
  (∃ s14, ∃ s15, ∃ s16, e17 = Ending.returned (Value.agg #[(Value.string s14), (Value.string s15), (Value.string s16)]) ∧
  ∀ w19, w19 = (World.alloc w18 (.cells #[(Value.string s14), (Value.string s15), (Value.string s16)] 89)) →
  ∃ A20, ∃ A20l, ∃ A20c, ∃ w21, Sem.run Tryz.prog (Builtin.append_ #[50, 50] 50 #[(Value.slice l_10 l_10l l_10c), (Value.slice (some ⟨Array.size (World.heap w18), 0, none⟩) 1 1)]) w19 = .ok (Value.slice A20 A20l A20c) w21 ∧
  I8 A20 A20l A20c (IntKind.wrap .i64 (t8_11 + 1)) w21 ∧ μ9 A20 A20l A20c (IntKind.wrap .i64 (t8_11 + 1)) w21 < μ9 l_10 l_10l l_10c t8_11 w13) ∨
  (∃ ch22, e17 = Ending.panicked ch22 ∧ R (Ending.panicked ch22) w18)))
  (R (Ending.returned (Value.slice l_10 l_10l l_10c)) w13))) ∨
  (∃ ch23, e6 = Ending.panicked ch23 ∧ R (Ending.panicked ch23) w7)) :
  Calls Tryz.prog 122 #[(Value.pointer r_1), (Value.func (.func one_f2) one_a3 one_c4)] w R :=
  V.Z.calls_of_Z ⟨V.assoc [(0, [5, 8])], V.assocP [], V.assocC [], V.assocS [], ⟨[], true⟩⟩ Tryz.func122 rfl rfl (Eq.mp (by kernel_rfl) h)

theorem image_reader_taint_nf (r_1 : Option Addr) (w : World) (R : Ending → World → Prop) (h :
  ∀ w2, w2 = (World.alloc w (.cells #[(Value.string ByteArray.empty), (Value.string ByteArray.empty), (Value.string ByteArray.empty)] 89)) →
  Calls Tryz.prog 119 #[(Value.pointer r_1)] w2 fun e4 w5 =>
  (∃ s3, e4 = Ending.returned (Value.string s3) ∧
  Calls Tryz.prog 119 #[(Value.pointer r_1)] w5 fun e7 w8 =>
  (∃ s6, e7 = Ending.returned (Value.string s6) ∧
  Calls Tryz.prog 119 #[(Value.pointer r_1)] w8 fun e10 w11 =>
  (∃ s9, e10 = Ending.returned (Value.string s9) ∧
  ∃ w12, Sem.run Tryz.prog (Instr.storeAt 89 (Value.pointer (some ⟨Array.size (World.heap w), 0, none⟩)) (Value.agg #[(Value.string s3), (Value.string s6), (Value.string s9)])) w11 = .ok () w12 ∧
  ∃ s13, ∃ s14, ∃ s15, V.cellsC (fun a_ x_ => World.cell? w12 a_ = some x_) ⟨Array.size (World.heap w), 0, none⟩ [(Value.string s13), (Value.string s14), (Value.string s15)] ∧
  R (Ending.returned (Value.agg #[(Value.string s13), (Value.string s14), (Value.string s15)])) w12) ∨
  (∃ ch16, e10 = Ending.panicked ch16 ∧ R (Ending.panicked ch16) w11)) ∨
  (∃ ch17, e7 = Ending.panicked ch17 ∧ R (Ending.panicked ch17) w8)) ∨
  (∃ ch18, e4 = Ending.panicked ch18 ∧ R (Ending.panicked ch18) w5)) :
  Calls Tryz.prog 123 #[(Value.pointer r_1)] w R :=
  V.Z.calls_of_Z ⟨V.assoc [], V.assocP [], V.assocC [], V.assocS [], ⟨[], true⟩⟩ Tryz.func123 rfl rfl (Eq.mp (by kernel_rfl) h)

end Go.Proofs.YtoaeefjcjdhlkaaGreat
