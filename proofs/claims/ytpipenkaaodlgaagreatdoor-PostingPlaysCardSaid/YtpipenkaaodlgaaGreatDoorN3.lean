/- Normal forms of the program's functions, printed by a program of mine; the kernel checks each. -/
import Derived.Test.YtpipenkaaodlgaaGreatDoorProg
import Derived.Test.YtpipenkaaodlgaaGreatDoorV2
set_option linter.unusedVariables false
set_option maxRecDepth 100000
namespace Go.Proofs.YtpipenkaaodlgaaGreatDoor
open Go

theorem berthref03_IsValue_nf (s_1 : ByteArray) (w : World) (R : Ending → World → Prop) (h :
  V.sel (ByteArray.toList s_1 == ByteArray.toList ByteArray.empty)
  (R (Ending.returned (Value.bool true)) w)
  (V.sel (decide (((ByteArray.size s_1 : Nat) : Int) > 63))
  (R (Ending.returned (Value.bool false)) w)
  (∃ I2 : Int → World → Prop, ∃ μ3 : Int → World → Nat, I2 0 w ∧
  ∀ i_4 (j5 : Nat → Value) (w6 : World), I2 i_4 w6 →
  (V.sel (decide (i_4 < ((ByteArray.size s_1 : Nat) : Int)))
  (V.when (decide ((0 : Int) ≤ i_4 ∧ (i_4 : Int) < ((ByteArray.size s_1 : Nat) : Int))) (Calls Tryz.prog 82 #[(Value.int .u8 (V.byteAt s_1 i_4))] w6 fun e8 w9 =>
  ∃ b7, e8 = Ending.returned (Value.bool b7) ∧
  V.sel (!b7)
  (R (Ending.returned (Value.bool false)) w9)
  (I2 (IntKind.wrap .i64 (i_4 + 1)) w9 ∧ μ3 (IntKind.wrap .i64 (i_4 + 1)) w9 < μ3 i_4 w6)))
  (V.when (decide ((0 : Int) ≤ 0 ∧ (0 : Int) < ((ByteArray.size s_1 : Nat) : Int))) (Calls Tryz.prog 83 #[(Value.int .u8 (V.byteAt s_1 0))] w6 fun e11 w12 =>
  ∃ b10, e11 = Ending.returned (Value.bool b10) ∧
  V.sel b10
  (V.when (decide ((0 : Int) ≤ (IntKind.wrap .i64 (((ByteArray.size s_1 : Nat) : Int) - 1)) ∧ ((IntKind.wrap .i64 (((ByteArray.size s_1 : Nat) : Int) - 1)) : Int) < ((ByteArray.size s_1 : Nat) : Int))) (Calls Tryz.prog 83 #[(Value.int .u8 (V.byteAt s_1 (IntKind.wrap .i64 (((ByteArray.size s_1 : Nat) : Int) - 1))))] w12 fun e14 w15 =>
  ∃ b13, e14 = Ending.returned (Value.bool b13) ∧
  R (Ending.returned (Value.bool b13)) w15))
  (V.when (decide ((0 : Int) ≤ 0 ∧ (0 : Int) < ((ByteArray.size s_1 : Nat) : Int))) (V.sel ((V.byteAt s_1 0) == 45)
  (V.when (decide ((0 : Int) ≤ (IntKind.wrap .i64 (((ByteArray.size s_1 : Nat) : Int) - 1)) ∧ ((IntKind.wrap .i64 (((ByteArray.size s_1 : Nat) : Int) - 1)) : Int) < ((ByteArray.size s_1 : Nat) : Int))) (Calls Tryz.prog 83 #[(Value.int .u8 (V.byteAt s_1 (IntKind.wrap .i64 (((ByteArray.size s_1 : Nat) : Int) - 1))))] w12 fun e17 w18 =>
  ∃ b16, e17 = Ending.returned (Value.bool b16) ∧
  R (Ending.returned (Value.bool b16)) w18))
  (R (Ending.returned (Value.bool false)) w12))))))))) :
  Calls Tryz.prog 58 #[(Value.string s_1)] w R :=
  V.calls_of_R ⟨V.assoc [(0, [3])], V.assocP [], V.assocC [], V.assocS [], ⟨[], true⟩⟩ Tryz.func58 rfl (Eq.mp (by kernel_rfl) h)

theorem bitset_Set_All_l1_nf (yl : Nat) (free0_1 : Option Addr) (w : World) (R : Ending → World → Prop) (h :
  V.ptr free0_1 fun a2 =>
  ∃ A3, ∃ A3l, ∃ A3c, World.cell? w a2 = some (Value.slice A3 A3l A3c) ∧
  ∃ I4 : Int → World → Prop, ∃ μ5 : Int → World → Nat, I4 0 w ∧
  ∀ t7_6 (j7 : Nat → Value) (w8 : World), I4 t7_6 w8 →
  (V.sel (decide (t7_6 < ((A3l : Nat) : Int)))
  (V.when (decide ((0 : Int) ≤ t7_6 ∧ (t7_6 : Int) < ((A3l : Nat) : Int))) (V.ptr A3 fun a9 =>
  ∃ n10, World.cell? w8 (Addr.add a9 ((Int.toNat t7_6) * 1)) = some (Value.int .i64 n10) ∧
  V.Yield Tryz.prog yl [(Value.int .i64 n10)] w8 fun e12 w13 =>
  ∃ b11, e12 = Ending.returned (Value.bool b11) ∧
  V.sel (!b11)
  (R (Ending.returned undef) w13)
  (I4 (IntKind.wrap .i64 (t7_6 + 1)) w13 ∧ μ5 (IntKind.wrap .i64 (t7_6 + 1)) w13 < μ5 t7_6 w8)))
  (R (Ending.returned undef) w8))) :
  Calls Tryz.prog 62 #[(Value.func (.yield yl) #[] #[]), (Value.pointer free0_1)] w R :=
  V.calls_of_R ⟨V.assoc [(0, [7])], V.assocP [], V.assocC [], V.assocS [], ⟨[], true⟩⟩ Tryz.func62 rfl (Eq.mp (by kernel_rfl) h)

theorem berthref07_Set_nf (x_1 : Int) (x_2 : Option Addr) (x_2l : Nat) (x_2c : Nat) (slot_3 : Int) (list_4 : Option Addr) (list_4l : Nat) (list_4c : Nat) (w : World) (R : Ending → World → Prop) (h :
  ∀ w5, w5 = (World.alloc w (.cells #[(Value.int .i64 x_1), (Value.slice x_2 x_2l x_2c)] 37)) →
  ∀ w6, w6 = (World.alloc w5 (.cells #[(Value.int .i64 0), (Value.slice none 0 0)] 37)) →
  V.sel (decide (slot_3 < 0))
  (∃ n7, ∃ A8, ∃ A8l, ∃ A8c, V.cellsC (fun a_ x_ => World.cell? w6 a_ = some x_) ⟨Array.size (World.heap w), 0, none⟩ [(Value.int .i64 n7), (Value.slice A8 A8l A8c)] ∧
  ∃ w9, Sem.run Tryz.prog (Instr.storeAt 37 (Value.pointer (some ⟨Array.size (World.heap w5), 0, none⟩)) (Value.agg #[(Value.int .i64 n7), (Value.slice A8 A8l A8c)])) w6 = .ok () w9 ∧
  ∃ n10, ∃ A11, ∃ A11l, ∃ A11c, V.cellsC (fun a_ x_ => World.cell? w9 a_ = some x_) ⟨Array.size (World.heap w5), 0, none⟩ [(Value.int .i64 n10), (Value.slice A11 A11l A11c)] ∧
  R (Ending.returned (Value.tuple #[(Value.agg #[(Value.int .i64 n10), (Value.slice A11 A11l A11c)]), (Value.int .i64 72)])) w9)
  (∃ n12, World.cell? w6 (Addr.add ⟨Array.size (World.heap w), 0, none⟩ 0) = some (Value.int .i64 n12) ∧
  V.sel (decide (slot_3 ≥ n12))
  (∃ n13, ∃ A14, ∃ A14l, ∃ A14c, V.cellsC (fun a_ x_ => World.cell? w6 a_ = some x_) ⟨Array.size (World.heap w), 0, none⟩ [(Value.int .i64 n13), (Value.slice A14 A14l A14c)] ∧
  ∃ w15, Sem.run Tryz.prog (Instr.storeAt 37 (Value.pointer (some ⟨Array.size (World.heap w5), 0, none⟩)) (Value.agg #[(Value.int .i64 n13), (Value.slice A14 A14l A14c)])) w6 = .ok () w15 ∧
  ∃ n16, ∃ A17, ∃ A17l, ∃ A17c, V.cellsC (fun a_ x_ => World.cell? w15 a_ = some x_) ⟨Array.size (World.heap w5), 0, none⟩ [(Value.int .i64 n16), (Value.slice A17 A17l A17c)] ∧
  R (Ending.returned (Value.tuple #[(Value.agg #[(Value.int .i64 n16), (Value.slice A17 A17l A17c)]), (Value.int .i64 72)])) w15)
  (∃ n18, ∃ A19, ∃ A19l, ∃ A19c, V.cellsC (fun a_ x_ => World.cell? w6 a_ = some x_) ⟨Array.size (World.heap w), 0, none⟩ [(Value.int .i64 n18), (Value.slice A19 A19l A19c)] ∧
  Calls Tryz.prog 32 #[(Value.agg #[(Value.int .i64 n18), (Value.slice A19 A19l A19c)]), (Value.int .i64 slot_3)] w6 fun e22 w23 =>
  ∃ n20, ∃ b21, e22 = Ending.returned (Value.tuple #[(Value.int .i64 n20), (Value.bool b21)]) ∧
  V.sel (!b21)
  (∃ n24, ∃ A25, ∃ A25l, ∃ A25c, V.cellsC (fun a_ x_ => World.cell? w23 a_ = some x_) ⟨Array.size (World.heap w), 0, none⟩ [(Value.int .i64 n24), (Value.slice A25 A25l A25c)] ∧
  ∃ w26, Sem.run Tryz.prog (Instr.storeAt 37 (Value.pointer (some ⟨Array.size (World.heap w5), 0, none⟩)) (Value.agg #[(Value.int .i64 n24), (Value.slice A25 A25l A25c)])) w23 = .ok () w26 ∧
  ∃ n27, ∃ A28, ∃ A28l, ∃ A28c, V.cellsC (fun a_ x_ => World.cell? w26 a_ = some x_) ⟨Array.size (World.heap w5), 0, none⟩ [(Value.int .i64 n27), (Value.slice A28 A28l A28c)] ∧
  R (Ending.returned (Value.tuple #[(Value.agg #[(Value.int .i64 n27), (Value.slice A28 A28l A28c)]), (Value.int .i64 71)])) w26)
  (Calls Tryz.prog 33 #[(Value.slice list_4 list_4l list_4c)] w23 fun e31 w32 =>
  ∃ n29, ∃ n30, e31 = Ending.returned (Value.tuple #[(Value.int .i64 n29), (Value.int .i64 n30)]) ∧
  V.sel (n30 != 0)
  (∃ n33, ∃ A34, ∃ A34l, ∃ A34c, V.cellsC (fun a_ x_ => World.cell? w32 a_ = some x_) ⟨Array.size (World.heap w), 0, none⟩ [(Value.int .i64 n33), (Value.slice A34 A34l A34c)] ∧
  ∃ w35, Sem.run Tryz.prog (Instr.storeAt 37 (Value.pointer (some ⟨Array.size (World.heap w5), 0, none⟩)) (Value.agg #[(Value.int .i64 n33), (Value.slice A34 A34l A34c)])) w32 = .ok () w35 ∧
  ∃ n36, ∃ A37, ∃ A37l, ∃ A37c, V.cellsC (fun a_ x_ => World.cell? w35 a_ = some x_) ⟨Array.size (World.heap w5), 0, none⟩ [(Value.int .i64 n36), (Value.slice A37 A37l A37c)] ∧
  R (Ending.returned (Value.tuple #[(Value.agg #[(Value.int .i64 n36), (Value.slice A37 A37l A37c)]), (Value.int .i64 n30)])) w35)
  (∃ S38 : World → Prop, S38 (World.drew w32) ∧
  ∃ n40, ∃ A41, ∃ A41l, ∃ A41c, V.cellsC (fun a_ x_ => ∀ w39, S38 w39 → World.cell? w39 a_ = some x_) ⟨Array.size (World.heap w), 0, none⟩ [(Value.int .i64 n40), (Value.slice A41 A41l A41c)] ∧
  ∀ w42, w42 = (World.alloc (World.drew w32) (.cells #[] 33)) →
  S38 w42 ∧
  ∃ A43, ∃ A43l, ∃ A43c, ∃ w44, Sem.run Tryz.prog (Builtin.append_ #[22, 22] 22 #[(Value.slice (some ⟨Array.size (World.heap (World.drew w32)), 0, none⟩) 0 0), (Value.slice list_4 list_4l list_4c)]) w42 = .ok (Value.slice A43 A43l A43c) w44 ∧
  S38 w44 ∧
  ∀ w45, w45 = (World.alloc w44 (.cells #[(Value.int .i64 slot_3), (Value.slice A43 A43l A43c)] 84)) →
  S38 w45 ∧
  Calls Tryz.prog 34 #[(Value.agg #[(Value.int .i64 n40), (Value.slice A41 A41l A41c)]), (Value.int .i64 n20), (Value.int .i64 1), (Value.slice (some ⟨Array.size (World.heap w44), 0, none⟩) 1 1)] w45 fun e48 w49 =>
  ∃ n46, ∃ A47, ∃ A47l, ∃ A47c, e48 = Ending.returned (Value.agg #[(Value.int .i64 n46), (Value.slice A47 A47l A47c)]) ∧
  S38 w49 ∧
  ∃ w50, Sem.run Tryz.prog (Instr.storeAt 37 (Value.pointer (some ⟨Array.size (World.heap w5), 0, none⟩)) (Value.agg #[(Value.int .i64 n46), (Value.slice A47 A47l A47c)])) w49 = .ok () w50 ∧
  S38 w50 ∧
  ∃ n51, ∃ A52, ∃ A52l, ∃ A52c, V.cellsC (fun a_ x_ => World.cell? w50 a_ = some x_) ⟨Array.size (World.heap w5), 0, none⟩ [(Value.int .i64 n51), (Value.slice A52 A52l A52c)] ∧
  R (Ending.returned (Value.tuple #[(Value.agg #[(Value.int .i64 n51), (Value.slice A52 A52l A52c)]), (Value.int .i64 0)])) w50))))) :
  Calls Tryz.prog 66 #[(Value.agg #[(Value.int .i64 x_1), (Value.slice x_2 x_2l x_2c)]), (Value.int .i64 slot_3), (Value.slice list_4 list_4l list_4c)] w R :=
  V.calls_of_R ⟨V.assoc [], V.assocP [(9, V.line [0, 1, 2, 4, 3, 5, 6, 7, 8, 9, 10])], V.assocC [], V.assocS [], ⟨[], true⟩⟩ Tryz.func66 rfl (Eq.mp (by kernel_rfl) h)

theorem posting_Index_Drop_nf (x_1 : Option Addr) (slot_2 : Int) (w : World) (R : Ending → World → Prop) (h :
  V.sel (Option.isNone x_1)
  (R (Ending.returned (Value.int .i64 1)) w)
  (V.sel (decide (slot_2 < 0))
  (R (Ending.returned (Value.int .i64 72)) w)
  (V.ptr x_1 fun a3 =>
  ∃ n4, World.cell? w (Addr.add a3 0) = some (Value.int .i64 n4) ∧
  V.sel (decide (slot_2 ≥ n4))
  (R (Ending.returned (Value.int .i64 72)) w)
  (V.ptr x_1 fun a5 =>
  ∃ p6, World.cell? w (Addr.add a5 1) = some (Value.pointer p6) ∧
  Calls Tryz.prog 27 #[(Value.pointer p6), (Value.int .i64 slot_2)] w fun e8 w9 =>
  ∃ b7, e8 = Ending.returned (Value.bool b7) ∧
  V.sel (!b7)
  (R (Ending.returned (Value.int .i64 71)) w9)
  (Calls Tryz.prog 31 #[(Value.pointer x_1), (Value.int .i64 slot_2)] w9 fun e10 w11 =>
  e10 = Ending.returned undef ∧
  V.ptr x_1 fun a12 =>
  ∃ p13, World.cell? w11 (Addr.add a12 1) = some (Value.pointer p13) ∧
  Calls Tryz.prog 44 #[(Value.pointer p13), (Value.int .i64 slot_2)] w11 fun e15 w16 =>
  ∃ b14, e15 = Ending.returned (Value.bool b14) ∧
  R (Ending.returned (Value.int .i64 0)) w16))))) :
  Calls Tryz.prog 67 #[(Value.pointer x_1), (Value.int .i64 slot_2)] w R :=
  V.calls_of_R ⟨V.assoc [], V.assocP [], V.assocC [], V.assocS [], ⟨[], true⟩⟩ Tryz.func67 rfl (Eq.mp (by kernel_rfl) h)

theorem berthref07_Drop_nf (x_1 : Int) (x_2 : Option Addr) (x_2l : Nat) (x_2c : Nat) (slot_3 : Int) (w : World) (R : Ending → World → Prop) (h :
  ∀ w4, w4 = (World.alloc w (.cells #[(Value.int .i64 x_1), (Value.slice x_2 x_2l x_2c)] 37)) →
  ∀ w5, w5 = (World.alloc w4 (.cells #[(Value.int .i64 0), (Value.slice none 0 0)] 37)) →
  V.sel (decide (slot_3 < 0))
  (∃ n6, ∃ A7, ∃ A7l, ∃ A7c, V.cellsC (fun a_ x_ => World.cell? w5 a_ = some x_) ⟨Array.size (World.heap w), 0, none⟩ [(Value.int .i64 n6), (Value.slice A7 A7l A7c)] ∧
  ∃ w8, Sem.run Tryz.prog (Instr.storeAt 37 (Value.pointer (some ⟨Array.size (World.heap w4), 0, none⟩)) (Value.agg #[(Value.int .i64 n6), (Value.slice A7 A7l A7c)])) w5 = .ok () w8 ∧
  ∃ n9, ∃ A10, ∃ A10l, ∃ A10c, V.cellsC (fun a_ x_ => World.cell? w8 a_ = some x_) ⟨Array.size (World.heap w4), 0, none⟩ [(Value.int .i64 n9), (Value.slice A10 A10l A10c)] ∧
  R (Ending.returned (Value.tuple #[(Value.agg #[(Value.int .i64 n9), (Value.slice A10 A10l A10c)]), (Value.int .i64 72)])) w8)
  (∃ n11, World.cell? w5 (Addr.add ⟨Array.size (World.heap w), 0, none⟩ 0) = some (Value.int .i64 n11) ∧
  V.sel (decide (slot_3 ≥ n11))
  (∃ n12, ∃ A13, ∃ A13l, ∃ A13c, V.cellsC (fun a_ x_ => World.cell? w5 a_ = some x_) ⟨Array.size (World.heap w), 0, none⟩ [(Value.int .i64 n12), (Value.slice A13 A13l A13c)] ∧
  ∃ w14, Sem.run Tryz.prog (Instr.storeAt 37 (Value.pointer (some ⟨Array.size (World.heap w4), 0, none⟩)) (Value.agg #[(Value.int .i64 n12), (Value.slice A13 A13l A13c)])) w5 = .ok () w14 ∧
  ∃ n15, ∃ A16, ∃ A16l, ∃ A16c, V.cellsC (fun a_ x_ => World.cell? w14 a_ = some x_) ⟨Array.size (World.heap w4), 0, none⟩ [(Value.int .i64 n15), (Value.slice A16 A16l A16c)] ∧
  R (Ending.returned (Value.tuple #[(Value.agg #[(Value.int .i64 n15), (Value.slice A16 A16l A16c)]), (Value.int .i64 72)])) w14)
  (∃ n17, ∃ A18, ∃ A18l, ∃ A18c, V.cellsC (fun a_ x_ => World.cell? w5 a_ = some x_) ⟨Array.size (World.heap w), 0, none⟩ [(Value.int .i64 n17), (Value.slice A18 A18l A18c)] ∧
  Calls Tryz.prog 32 #[(Value.agg #[(Value.int .i64 n17), (Value.slice A18 A18l A18c)]), (Value.int .i64 slot_3)] w5 fun e21 w22 =>
  ∃ n19, ∃ b20, e21 = Ending.returned (Value.tuple #[(Value.int .i64 n19), (Value.bool b20)]) ∧
  V.sel (!b20)
  (∃ n23, ∃ A24, ∃ A24l, ∃ A24c, V.cellsC (fun a_ x_ => World.cell? w22 a_ = some x_) ⟨Array.size (World.heap w), 0, none⟩ [(Value.int .i64 n23), (Value.slice A24 A24l A24c)] ∧
  ∃ w25, Sem.run Tryz.prog (Instr.storeAt 37 (Value.pointer (some ⟨Array.size (World.heap w4), 0, none⟩)) (Value.agg #[(Value.int .i64 n23), (Value.slice A24 A24l A24c)])) w22 = .ok () w25 ∧
  ∃ n26, ∃ A27, ∃ A27l, ∃ A27c, V.cellsC (fun a_ x_ => World.cell? w25 a_ = some x_) ⟨Array.size (World.heap w4), 0, none⟩ [(Value.int .i64 n26), (Value.slice A27 A27l A27c)] ∧
  R (Ending.returned (Value.tuple #[(Value.agg #[(Value.int .i64 n26), (Value.slice A27 A27l A27c)]), (Value.int .i64 71)])) w25)
  (∃ n28, ∃ A29, ∃ A29l, ∃ A29c, V.cellsC (fun a_ x_ => World.cell? w22 a_ = some x_) ⟨Array.size (World.heap w), 0, none⟩ [(Value.int .i64 n28), (Value.slice A29 A29l A29c)] ∧
  Calls Tryz.prog 34 #[(Value.agg #[(Value.int .i64 n28), (Value.slice A29 A29l A29c)]), (Value.int .i64 n19), (Value.int .i64 1), (Value.slice none 0 0)] w22 fun e32 w33 =>
  ∃ n30, ∃ A31, ∃ A31l, ∃ A31c, e32 = Ending.returned (Value.agg #[(Value.int .i64 n30), (Value.slice A31 A31l A31c)]) ∧
  ∃ w34, Sem.run Tryz.prog (Instr.storeAt 37 (Value.pointer (some ⟨Array.size (World.heap w4), 0, none⟩)) (Value.agg #[(Value.int .i64 n30), (Value.slice A31 A31l A31c)])) w33 = .ok () w34 ∧
  ∃ n35, ∃ A36, ∃ A36l, ∃ A36c, V.cellsC (fun a_ x_ => World.cell? w34 a_ = some x_) ⟨Array.size (World.heap w4), 0, none⟩ [(Value.int .i64 n35), (Value.slice A36 A36l A36c)] ∧
  R (Ending.returned (Value.tuple #[(Value.agg #[(Value.int .i64 n35), (Value.slice A36 A36l A36c)]), (Value.int .i64 0)])) w34)))) :
  Calls Tryz.prog 68 #[(Value.agg #[(Value.int .i64 x_1), (Value.slice x_2 x_2l x_2c)]), (Value.int .i64 slot_3)] w R :=
  V.calls_of_R ⟨V.assoc [], V.assocP [], V.assocC [], V.assocS [], ⟨[], true⟩⟩ Tryz.func68 rfl (Eq.mp (by kernel_rfl) h)

theorem berthref07_Live_nf (x_1 : Int) (x_2 : Option Addr) (x_2l : Nat) (x_2c : Nat) (w : World) (R : Ending → World → Prop) (h :
  ∀ w3, w3 = (World.alloc w (.cells #[(Value.int .i64 x_1), (Value.slice x_2 x_2l x_2c)] 37)) →
  ∃ I4 : Option Addr → Nat → Nat → Int → World → Prop, ∃ μ5 : Option Addr → Nat → Nat → Int → World → Nat, I4 none 0 0 0 w3 ∧
  ∀ l_6 l_6l l_6c i_7 (j8 : Nat → Value) (w9 : World), I4 l_6 l_6l l_6c i_7 w9 →
  (∃ A10, ∃ A10l, ∃ A10c, World.cell? w9 (Addr.add ⟨Array.size (World.heap w), 0, none⟩ 1) = some (Value.slice A10 A10l A10c) ∧
  V.sel (decide (i_7 < ((A10l : Nat) : Int)))
  (∃ A11, ∃ A11l, ∃ A11c, World.cell? w9 (Addr.add ⟨Array.size (World.heap w), 0, none⟩ 1) = some (Value.slice A11 A11l A11c) ∧
  V.when (decide ((0 : Int) ≤ i_7 ∧ (i_7 : Int) < ((A11l : Nat) : Int))) (V.ptr A11 fun a12 =>
  ∃ n13, World.cell? w9 (Addr.add (Addr.add a12 ((Int.toNat i_7) * 2)) 0) = some (Value.int .i64 n13) ∧
  ∀ w14, w14 = (World.alloc w9 (.cells #[(Value.int .i64 n13)] 3)) →
  ∃ A15, ∃ A15l, ∃ A15c, ∃ w16, Sem.run Tryz.prog (Builtin.append_ #[66, 66] 66 #[(Value.slice l_6 l_6l l_6c), (Value.slice (some ⟨Array.size (World.heap w9), 0, none⟩) 1 1)]) w14 = .ok (Value.slice A15 A15l A15c) w16 ∧
  I4 A15 A15l A15c (IntKind.wrap .i64 (i_7 + 1)) w16 ∧ μ5 A15 A15l A15c (IntKind.wrap .i64 (i_7 + 1)) w16 < μ5 l_6 l_6l l_6c i_7 w9))
  (R (Ending.returned (Value.slice l_6 l_6l l_6c)) w9))) :
  Calls Tryz.prog 69 #[(Value.agg #[(Value.int .i64 x_1), (Value.slice x_2 x_2l x_2c)])] w R :=
  V.calls_of_R ⟨V.assoc [(0, [3, 4])], V.assocP [], V.assocC [], V.assocS [], ⟨[], true⟩⟩ Tryz.func69 rfl (Eq.mp (by kernel_rfl) h)

theorem berthref07_Of_nf (x_1 : Int) (x_2 : Option Addr) (x_2l : Nat) (x_2c : Nat) (slot_3 : Int) (w : World) (R : Ending → World → Prop) (h :
  ∀ w4, w4 = (World.alloc w (.cells #[(Value.int .i64 x_1), (Value.slice x_2 x_2l x_2c)] 37)) →
  ∃ n5, ∃ A6, ∃ A6l, ∃ A6c, V.cellsC (fun a_ x_ => World.cell? w4 a_ = some x_) ⟨Array.size (World.heap w), 0, none⟩ [(Value.int .i64 n5), (Value.slice A6 A6l A6c)] ∧
  Calls Tryz.prog 32 #[(Value.agg #[(Value.int .i64 n5), (Value.slice A6 A6l A6c)]), (Value.int .i64 slot_3)] w4 fun e9 w10 =>
  ∃ n7, ∃ b8, e9 = Ending.returned (Value.tuple #[(Value.int .i64 n7), (Value.bool b8)]) ∧
  V.sel (!b8)
  (R (Ending.returned (Value.tuple #[(Value.slice none 0 0), (Value.bool false)])) w10)
  (∀ w11, w11 = (World.alloc w10 (.cells #[] 33)) →
  ∃ A12, ∃ A12l, ∃ A12c, World.cell? w11 (Addr.add ⟨Array.size (World.heap w), 0, none⟩ 1) = some (Value.slice A12 A12l A12c) ∧
  V.when (decide ((0 : Int) ≤ n7 ∧ (n7 : Int) < ((A12l : Nat) : Int))) (V.ptr A12 fun a13 =>
  ∃ A14, ∃ A14l, ∃ A14c, World.cell? w11 (Addr.add (Addr.add a13 ((Int.toNat n7) * 2)) 1) = some (Value.slice A14 A14l A14c) ∧
  ∃ A15, ∃ A15l, ∃ A15c, ∃ w16, Sem.run Tryz.prog (Builtin.append_ #[22, 22] 22 #[(Value.slice (some ⟨Array.size (World.heap w10), 0, none⟩) 0 0), (Value.slice A14 A14l A14c)]) w11 = .ok (Value.slice A15 A15l A15c) w16 ∧
  R (Ending.returned (Value.tuple #[(Value.slice A15 A15l A15c), (Value.bool true)])) w16))) :
  Calls Tryz.prog 70 #[(Value.agg #[(Value.int .i64 x_1), (Value.slice x_2 x_2l x_2c)]), (Value.int .i64 slot_3)] w R :=
  V.calls_of_R ⟨V.assoc [], V.assocP [], V.assocC [], V.assocS [], ⟨[], true⟩⟩ Tryz.func70 rfl (Eq.mp (by kernel_rfl) h)

theorem berthref07_In_nf (x_1 : Int) (x_2 : Option Addr) (x_2l : Nat) (x_2c : Nat) (key_3 : ByteArray) (values_4 : Option Addr) (values_4l : Nat) (values_4c : Nat) (w : World) (R : Ending → World → Prop) (h :
  ∀ w5, w5 = (World.alloc w (.cells #[(Value.int .i64 x_1), (Value.slice x_2 x_2l x_2c)] 37)) →
  ∃ I6 : Option Addr → Nat → Nat → Int → World → Prop, ∃ μ7 : Option Addr → Nat → Nat → Int → World → Nat, I6 none 0 0 0 w5 ∧
  ∀ l_8 l_8l l_8c i_9 (j10 : Nat → Value) (w11 : World), I6 l_8 l_8l l_8c i_9 w11 →
  (∃ A12, ∃ A12l, ∃ A12c, World.cell? w11 (Addr.add ⟨Array.size (World.heap w), 0, none⟩ 1) = some (Value.slice A12 A12l A12c) ∧
  V.sel (decide (i_9 < ((A12l : Nat) : Int)))
  (∃ A13, ∃ A13l, ∃ A13c, World.cell? w11 (Addr.add ⟨Array.size (World.heap w), 0, none⟩ 1) = some (Value.slice A13 A13l A13c) ∧
  V.when (decide ((0 : Int) ≤ i_9 ∧ (i_9 : Int) < ((A13l : Nat) : Int))) (V.ptr A13 fun a14 =>
  ∃ A15, ∃ A15l, ∃ A15c, World.cell? w11 (Addr.add (Addr.add a14 ((Int.toNat i_9) * 2)) 1) = some (Value.slice A15 A15l A15c) ∧
  Calls Tryz.prog 96 #[(Value.slice A15 A15l A15c), (Value.string key_3)] w11 fun e18 w19 =>
  ∃ s16, ∃ b17, e18 = Ending.returned (Value.tuple #[(Value.string s16), (Value.bool b17)]) ∧
  ∃ J20 : Bool → World → Prop, (∃ I21 : Bool → Int → World → Prop, ∃ μ22 : Bool → Int → World → Nat, I21 false 0 w19 ∧
  ∀ hit_23 j_24 (j25 : Nat → Value) (w26 : World), I21 hit_23 j_24 w26 →
  (V.sel (decide (j_24 < ((values_4l : Nat) : Int)))
  (V.sel b17
  (V.sel (!hit_23)
  (V.when (decide ((0 : Int) ≤ j_24 ∧ (j_24 : Int) < ((values_4l : Nat) : Int))) (V.ptr values_4 fun a27 =>
  ∃ s28, World.cell? w26 (Addr.add a27 ((Int.toNat j_24) * 1)) = some (Value.string s28) ∧
  I21 (ByteArray.toList s28 == ByteArray.toList s16) (IntKind.wrap .i64 (j_24 + 1)) w26 ∧ μ22 (ByteArray.toList s28 == ByteArray.toList s16) (IntKind.wrap .i64 (j_24 + 1)) w26 < μ22 hit_23 j_24 w26))
  (J20 hit_23 w26))
  (J20 hit_23 w26))
  (J20 hit_23 w26))) ∧
  ∀ hit_29 (j30 : Nat → Value) (w31 : World), J20 hit_29 w31 →
  V.sel hit_29
  (∃ A32, ∃ A32l, ∃ A32c, World.cell? w31 (Addr.add ⟨Array.size (World.heap w), 0, none⟩ 1) = some (Value.slice A32 A32l A32c) ∧
  V.when (decide ((0 : Int) ≤ i_9 ∧ (i_9 : Int) < ((A32l : Nat) : Int))) (V.ptr A32 fun a33 =>
  ∃ n34, World.cell? w31 (Addr.add (Addr.add a33 ((Int.toNat i_9) * 2)) 0) = some (Value.int .i64 n34) ∧
  ∀ w35, w35 = (World.alloc w31 (.cells #[(Value.int .i64 n34)] 3)) →
  ∃ A36, ∃ A36l, ∃ A36c, ∃ w37, Sem.run Tryz.prog (Builtin.append_ #[66, 66] 66 #[(Value.slice l_8 l_8l l_8c), (Value.slice (some ⟨Array.size (World.heap w31), 0, none⟩) 1 1)]) w35 = .ok (Value.slice A36 A36l A36c) w37 ∧
  I6 A36 A36l A36c (IntKind.wrap .i64 (i_9 + 1)) w37 ∧ μ7 A36 A36l A36c (IntKind.wrap .i64 (i_9 + 1)) w37 < μ7 l_8 l_8l l_8c i_9 w11))
  (I6 l_8 l_8l l_8c (IntKind.wrap .i64 (i_9 + 1)) w31 ∧ μ7 l_8 l_8l l_8c (IntKind.wrap .i64 (i_9 + 1)) w31 < μ7 l_8 l_8l l_8c i_9 w11)))
  (R (Ending.returned (Value.slice l_8 l_8l l_8c)) w11))) :
  Calls Tryz.prog 71 #[(Value.agg #[(Value.int .i64 x_1), (Value.slice x_2 x_2l x_2c)]), (Value.string key_3), (Value.slice values_4 values_4l values_4c)] w R :=
  V.calls_of_R ⟨V.assoc [(0, [7, 8]), (1, [11, 12])], V.assocP [], V.assocC [(1000012, ([11], [V.Sh.one .bool]))], V.assocS [], ⟨[], true⟩⟩ Tryz.func71 rfl (Eq.mp (by kernel_rfl) h)

theorem berthref07_Has_nf (x_1 : Int) (x_2 : Option Addr) (x_2l : Nat) (x_2c : Nat) (key_3 : ByteArray) (w : World) (R : Ending → World → Prop) (h :
  ∀ w4, w4 = (World.alloc w (.cells #[(Value.int .i64 x_1), (Value.slice x_2 x_2l x_2c)] 37)) →
  ∃ I5 : Option Addr → Nat → Nat → Int → World → Prop, ∃ μ6 : Option Addr → Nat → Nat → Int → World → Nat, I5 none 0 0 0 w4 ∧
  ∀ l_7 l_7l l_7c i_8 (j9 : Nat → Value) (w10 : World), I5 l_7 l_7l l_7c i_8 w10 →
  (∃ A11, ∃ A11l, ∃ A11c, World.cell? w10 (Addr.add ⟨Array.size (World.heap w), 0, none⟩ 1) = some (Value.slice A11 A11l A11c) ∧
  V.sel (decide (i_8 < ((A11l : Nat) : Int)))
  (∃ A12, ∃ A12l, ∃ A12c, World.cell? w10 (Addr.add ⟨Array.size (World.heap w), 0, none⟩ 1) = some (Value.slice A12 A12l A12c) ∧
  V.when (decide ((0 : Int) ≤ i_8 ∧ (i_8 : Int) < ((A12l : Nat) : Int))) (V.ptr A12 fun a13 =>
  ∃ A14, ∃ A14l, ∃ A14c, World.cell? w10 (Addr.add (Addr.add a13 ((Int.toNat i_8) * 2)) 1) = some (Value.slice A14 A14l A14c) ∧
  Calls Tryz.prog 96 #[(Value.slice A14 A14l A14c), (Value.string key_3)] w10 fun e17 w18 =>
  ∃ s15, ∃ b16, e17 = Ending.returned (Value.tuple #[(Value.string s15), (Value.bool b16)]) ∧
  V.sel b16
  (∃ A19, ∃ A19l, ∃ A19c, World.cell? w18 (Addr.add ⟨Array.size (World.heap w), 0, none⟩ 1) = some (Value.slice A19 A19l A19c) ∧
  V.when (decide ((0 : Int) ≤ i_8 ∧ (i_8 : Int) < ((A19l : Nat) : Int))) (V.ptr A19 fun a20 =>
  ∃ n21, World.cell? w18 (Addr.add (Addr.add a20 ((Int.toNat i_8) * 2)) 0) = some (Value.int .i64 n21) ∧
  ∀ w22, w22 = (World.alloc w18 (.cells #[(Value.int .i64 n21)] 3)) →
  ∃ A23, ∃ A23l, ∃ A23c, ∃ w24, Sem.run Tryz.prog (Builtin.append_ #[66, 66] 66 #[(Value.slice l_7 l_7l l_7c), (Value.slice (some ⟨Array.size (World.heap w18), 0, none⟩) 1 1)]) w22 = .ok (Value.slice A23 A23l A23c) w24 ∧
  I5 A23 A23l A23c (IntKind.wrap .i64 (i_8 + 1)) w24 ∧ μ6 A23 A23l A23c (IntKind.wrap .i64 (i_8 + 1)) w24 < μ6 l_7 l_7l l_7c i_8 w10))
  (I5 l_7 l_7l l_7c (IntKind.wrap .i64 (i_8 + 1)) w18 ∧ μ6 l_7 l_7l l_7c (IntKind.wrap .i64 (i_8 + 1)) w18 < μ6 l_7 l_7l l_7c i_8 w10)))
  (R (Ending.returned (Value.slice l_7 l_7l l_7c)) w10))) :
  Calls Tryz.prog 72 #[(Value.agg #[(Value.int .i64 x_1), (Value.slice x_2 x_2l x_2c)]), (Value.string key_3)] w R :=
  V.calls_of_R ⟨V.assoc [(0, [5, 6])], V.assocP [], V.assocC [], V.assocS [], ⟨[], true⟩⟩ Tryz.func72 rfl (Eq.mp (by kernel_rfl) h)

theorem berthref07_Keys_nf (x_1 : Int) (x_2 : Option Addr) (x_2l : Nat) (x_2c : Nat) (w : World) (R : Ending → World → Prop) (h :
  ∀ w3, w3 = (World.alloc w (.cells #[(Value.int .i64 x_1), (Value.slice x_2 x_2l x_2c)] 37)) →
  ∃ I4 : Option Addr → Nat → Nat → Int → World → Prop, ∃ μ5 : Option Addr → Nat → Nat → Int → World → Nat, I4 none 0 0 0 w3 ∧
  ∀ l_6 l_6l l_6c i_7 (j8 : Nat → Value) (w9 : World), I4 l_6 l_6l l_6c i_7 w9 →
  (∃ A10, ∃ A10l, ∃ A10c, World.cell? w9 (Addr.add ⟨Array.size (World.heap w), 0, none⟩ 1) = some (Value.slice A10 A10l A10c) ∧
  V.sel (decide (i_7 < ((A10l : Nat) : Int)))
  (∃ I11 : Option Addr → Nat → Nat → Int → World → Prop, ∃ μ12 : Option Addr → Nat → Nat → Int → World → Nat, I11 l_6 l_6l l_6c 0 w9 ∧
  ∀ l_13 l_13l l_13c j_14 (j15 : Nat → Value) (w16 : World), I11 l_13 l_13l l_13c j_14 w16 →
  (∃ A17, ∃ A17l, ∃ A17c, World.cell? w16 (Addr.add ⟨Array.size (World.heap w), 0, none⟩ 1) = some (Value.slice A17 A17l A17c) ∧
  V.when (decide ((0 : Int) ≤ i_7 ∧ (i_7 : Int) < ((A17l : Nat) : Int))) (V.ptr A17 fun a18 =>
  ∃ A19, ∃ A19l, ∃ A19c, World.cell? w16 (Addr.add (Addr.add a18 ((Int.toNat i_7) * 2)) 1) = some (Value.slice A19 A19l A19c) ∧
  V.sel (decide (j_14 < ((A19l : Nat) : Int)))
  (∃ A20, ∃ A20l, ∃ A20c, World.cell? w16 (Addr.add ⟨Array.size (World.heap w), 0, none⟩ 1) = some (Value.slice A20 A20l A20c) ∧
  V.when (decide ((0 : Int) ≤ i_7 ∧ (i_7 : Int) < ((A20l : Nat) : Int))) (V.ptr A20 fun a21 =>
  ∃ A22, ∃ A22l, ∃ A22c, World.cell? w16 (Addr.add (Addr.add a21 ((Int.toNat i_7) * 2)) 1) = some (Value.slice A22 A22l A22c) ∧
  V.when (decide ((0 : Int) ≤ j_14 ∧ (j_14 : Int) < ((A22l : Nat) : Int))) (V.ptr A22 fun a23 =>
  ∃ s24, World.cell? w16 (Addr.add (Addr.add a23 ((Int.toNat j_14) * 2)) 0) = some (Value.string s24) ∧
  Calls Tryz.prog 97 #[(Value.slice l_13 l_13l l_13c), (Value.string s24)] w16 fun e26 w27 =>
  ∃ A25, ∃ A25l, ∃ A25c, e26 = Ending.returned (Value.slice A25 A25l A25c) ∧
  I11 A25 A25l A25c (IntKind.wrap .i64 (j_14 + 1)) w27 ∧ μ12 A25 A25l A25c (IntKind.wrap .i64 (j_14 + 1)) w27 < μ12 l_13 l_13l l_13c j_14 w16)))
  (I4 l_13 l_13l l_13c (IntKind.wrap .i64 (i_7 + 1)) w16 ∧ μ5 l_13 l_13l l_13c (IntKind.wrap .i64 (i_7 + 1)) w16 < μ5 l_6 l_6l l_6c i_7 w9))))
  (R (Ending.returned (Value.slice l_6 l_6l l_6c)) w9))) :
  Calls Tryz.prog 73 #[(Value.agg #[(Value.int .i64 x_1), (Value.slice x_2 x_2l x_2c)])] w R :=
  V.calls_of_R ⟨V.assoc [(0, [3, 4]), (1, [3, 5])], V.assocP [], V.assocC [], V.assocS [], ⟨[], true⟩⟩ Tryz.func73 rfl (Eq.mp (by kernel_rfl) h)

theorem berthref07_Values_nf (x_1 : Int) (x_2 : Option Addr) (x_2l : Nat) (x_2c : Nat) (key_3 : ByteArray) (w : World) (R : Ending → World → Prop) (h :
  ∀ w4, w4 = (World.alloc w (.cells #[(Value.int .i64 x_1), (Value.slice x_2 x_2l x_2c)] 37)) →
  ∃ I5 : Option Addr → Nat → Nat → Int → World → Prop, ∃ μ6 : Option Addr → Nat → Nat → Int → World → Nat, I5 none 0 0 0 w4 ∧
  ∀ l_7 l_7l l_7c i_8 (j9 : Nat → Value) (w10 : World), I5 l_7 l_7l l_7c i_8 w10 →
  (∃ A11, ∃ A11l, ∃ A11c, World.cell? w10 (Addr.add ⟨Array.size (World.heap w), 0, none⟩ 1) = some (Value.slice A11 A11l A11c) ∧
  V.sel (decide (i_8 < ((A11l : Nat) : Int)))
  (∃ A12, ∃ A12l, ∃ A12c, World.cell? w10 (Addr.add ⟨Array.size (World.heap w), 0, none⟩ 1) = some (Value.slice A12 A12l A12c) ∧
  V.when (decide ((0 : Int) ≤ i_8 ∧ (i_8 : Int) < ((A12l : Nat) : Int))) (V.ptr A12 fun a13 =>
  ∃ A14, ∃ A14l, ∃ A14c, World.cell? w10 (Addr.add (Addr.add a13 ((Int.toNat i_8) * 2)) 1) = some (Value.slice A14 A14l A14c) ∧
  Calls Tryz.prog 96 #[(Value.slice A14 A14l A14c), (Value.string key_3)] w10 fun e17 w18 =>
  ∃ s15, ∃ b16, e17 = Ending.returned (Value.tuple #[(Value.string s15), (Value.bool b16)]) ∧
  V.sel b16
  (Calls Tryz.prog 97 #[(Value.slice l_7 l_7l l_7c), (Value.string s15)] w18 fun e20 w21 =>
  ∃ A19, ∃ A19l, ∃ A19c, e20 = Ending.returned (Value.slice A19 A19l A19c) ∧
  I5 A19 A19l A19c (IntKind.wrap .i64 (i_8 + 1)) w21 ∧ μ6 A19 A19l A19c (IntKind.wrap .i64 (i_8 + 1)) w21 < μ6 l_7 l_7l l_7c i_8 w10)
  (I5 l_7 l_7l l_7c (IntKind.wrap .i64 (i_8 + 1)) w18 ∧ μ6 l_7 l_7l l_7c (IntKind.wrap .i64 (i_8 + 1)) w18 < μ6 l_7 l_7l l_7c i_8 w10)))
  (R (Ending.returned (Value.slice l_7 l_7l l_7c)) w10))) :
  Calls Tryz.prog 74 #[(Value.agg #[(Value.int .i64 x_1), (Value.slice x_2 x_2l x_2c)]), (Value.string key_3)] w R :=
  V.calls_of_R ⟨V.assoc [(0, [5, 6])], V.assocP [], V.assocC [], V.assocS [], ⟨[], true⟩⟩ Tryz.func74 rfl (Eq.mp (by kernel_rfl) h)

theorem berthref07_Same_nf (a_1 : Int) (a_2 : Option Addr) (a_2l : Nat) (a_2c : Nat) (b_3 : Int) (b_4 : Option Addr) (b_4l : Nat) (b_4c : Nat) (w : World) (R : Ending → World → Prop) (h :
  ∀ w5, w5 = (World.alloc w (.cells #[(Value.int .i64 a_1), (Value.slice a_2 a_2l a_2c)] 37)) →
  ∀ w6, w6 = (World.alloc w5 (.cells #[(Value.int .i64 b_3), (Value.slice b_4 b_4l b_4c)] 37)) →
  ∃ A7, ∃ A7l, ∃ A7c, World.cell? w6 (Addr.add ⟨Array.size (World.heap w), 0, none⟩ 1) = some (Value.slice A7 A7l A7c) ∧
  ∃ A8, ∃ A8l, ∃ A8c, World.cell? w6 (Addr.add ⟨Array.size (World.heap w5), 0, none⟩ 1) = some (Value.slice A8 A8l A8c) ∧
  V.sel (((A7l : Nat) : Int) != ((A8l : Nat) : Int))
  (R (Ending.returned (Value.bool false)) w6)
  (∃ I9 : Int → World → Prop, ∃ μ10 : Int → World → Nat, I9 0 w6 ∧
  ∀ i_11 (j12 : Nat → Value) (w13 : World), I9 i_11 w13 →
  (∃ A14, ∃ A14l, ∃ A14c, World.cell? w13 (Addr.add ⟨Array.size (World.heap w), 0, none⟩ 1) = some (Value.slice A14 A14l A14c) ∧
  V.sel (decide (i_11 < ((A14l : Nat) : Int)))
  (∃ S15 : World → Prop, S15 (World.drew w13) ∧
  ∃ A17, ∃ A17l, ∃ A17c, (∀ w16, S15 w16 → World.cell? w16 (Addr.add ⟨Array.size (World.heap w), 0, none⟩ 1) = some (Value.slice A17 A17l A17c)) ∧
  V.when (decide ((0 : Int) ≤ i_11 ∧ (i_11 : Int) < ((A17l : Nat) : Int))) (V.ptr A17 fun a18 =>
  ∃ A19, ∃ A19l, ∃ A19c, (∀ w16, S15 w16 → World.cell? w16 (Addr.add (Addr.add a18 ((Int.toNat i_11) * 2)) 1) = some (Value.slice A19 A19l A19c)) ∧
  ∃ A20, ∃ A20l, ∃ A20c, (∀ w16, S15 w16 → World.cell? w16 (Addr.add ⟨Array.size (World.heap w5), 0, none⟩ 1) = some (Value.slice A20 A20l A20c)) ∧
  V.when (decide ((0 : Int) ≤ i_11 ∧ (i_11 : Int) < ((A20l : Nat) : Int))) (V.ptr A20 fun a21 =>
  ∃ A22, ∃ A22l, ∃ A22c, (∀ w16, S15 w16 → World.cell? w16 (Addr.add (Addr.add a21 ((Int.toNat i_11) * 2)) 1) = some (Value.slice A22 A22l A22c)) ∧
  Calls Tryz.prog 12 #[(Value.slice A19 A19l A19c), (Value.slice A22 A22l A22c)] (World.drew w13) fun e24 w25 =>
  ∃ b23, e24 = Ending.returned (Value.bool b23) ∧
  S15 w25 ∧
  V.sel (!b23)
  (R (Ending.returned (Value.bool false)) (World.drew w25))
  (∃ A26, ∃ A26l, ∃ A26c, World.cell? w25 (Addr.add ⟨Array.size (World.heap w), 0, none⟩ 1) = some (Value.slice A26 A26l A26c) ∧
  V.when (decide ((0 : Int) ≤ i_11 ∧ (i_11 : Int) < ((A26l : Nat) : Int))) (V.ptr A26 fun a27 =>
  ∃ n28, World.cell? w25 (Addr.add (Addr.add a27 ((Int.toNat i_11) * 2)) 0) = some (Value.int .i64 n28) ∧
  ∃ A29, ∃ A29l, ∃ A29c, World.cell? w25 (Addr.add ⟨Array.size (World.heap w5), 0, none⟩ 1) = some (Value.slice A29 A29l A29c) ∧
  V.when (decide ((0 : Int) ≤ i_11 ∧ (i_11 : Int) < ((A29l : Nat) : Int))) (V.ptr A29 fun a30 =>
  ∃ n31, World.cell? w25 (Addr.add (Addr.add a30 ((Int.toNat i_11) * 2)) 0) = some (Value.int .i64 n31) ∧
  V.sel (n28 != n31)
  (R (Ending.returned (Value.bool false)) (World.drew w25))
  (I9 (IntKind.wrap .i64 (i_11 + 1)) (World.drew w25) ∧ μ10 (IntKind.wrap .i64 (i_11 + 1)) (World.drew w25) < μ10 i_11 w13)))))))
  (R (Ending.returned (Value.bool true)) w13)))) :
  Calls Tryz.prog 75 #[(Value.agg #[(Value.int .i64 a_1), (Value.slice a_2 a_2l a_2c)]), (Value.agg #[(Value.int .i64 b_3), (Value.slice b_4 b_4l b_4c)])] w R :=
  V.calls_of_R ⟨V.assoc [(0, [5])], V.assocP [(6, V.line [0, 1, 2, 3, 4, 5, 6, 7, 8, 9, 10, 11, 12, 13]), (7, V.line [0, 1, 2, 3, 4, 5, 6, 7, 8, 9, 10, 11, 12, 13, 14, 15, 16])], V.assocC [], V.assocS [], ⟨[], true⟩⟩ Tryz.func75 rfl (Eq.mp (by kernel_rfl) h)

theorem labels_IsKey_nf (s_1 : ByteArray) (w : World) (R : Ending → World → Prop) (h :
  Calls Tryz.prog 98 #[(Value.string s_1), (Value.string ⟨#[47]⟩)] w fun e5 w6 =>
  ∃ s2, ∃ s3, ∃ b4, e5 = Ending.returned (Value.tuple #[(Value.string s2), (Value.string s3), (Value.bool b4)]) ∧
  V.sel b4
  (Calls Tryz.prog 99 #[(Value.string s2)] w6 fun e8 w9 =>
  ∃ b7, e8 = Ending.returned (Value.bool b7) ∧
  V.sel b7
  (Calls Tryz.prog 100 #[(Value.string s3)] w9 fun e11 w12 =>
  ∃ b10, e11 = Ending.returned (Value.bool b10) ∧
  R (Ending.returned (Value.bool b10)) w12)
  (R (Ending.returned (Value.bool false)) w9))
  (Calls Tryz.prog 100 #[(Value.string s_1)] w6 fun e14 w15 =>
  ∃ b13, e14 = Ending.returned (Value.bool b13) ∧
  R (Ending.returned (Value.bool b13)) w15)) :
  Calls Tryz.prog 77 #[(Value.string s_1)] w R :=
  V.calls_of_R ⟨V.assoc [], V.assocP [], V.assocC [], V.assocS [], ⟨[], true⟩⟩ Tryz.func77 rfl (Eq.mp (by kernel_rfl) h)

theorem labels_IsValue_nf (s_1 : ByteArray) (w : World) (R : Ending → World → Prop) (h :
  V.sel (ByteArray.toList s_1 == ByteArray.toList ByteArray.empty)
  (R (Ending.returned (Value.bool true)) w)
  (V.sel (decide (((ByteArray.size s_1 : Nat) : Int) > 63))
  (R (Ending.returned (Value.bool false)) w)
  (V.when (decide ((0 : Int) ≤ (IntKind.wrap .i64 (((ByteArray.size s_1 : Nat) : Int) - 1)) ∧ ((IntKind.wrap .i64 (((ByteArray.size s_1 : Nat) : Int) - 1)) : Int) < ((ByteArray.size s_1 : Nat) : Int))) (Calls Tryz.prog 101 #[(Value.int .u8 (V.byteAt s_1 (IntKind.wrap .i64 (((ByteArray.size s_1 : Nat) : Int) - 1))))] w fun e3 w4 =>
  ∃ b2, e3 = Ending.returned (Value.bool b2) ∧
  V.sel (!b2)
  (R (Ending.returned (Value.bool false)) w4)
  (V.when (decide ((0 : Int) ≤ 0 ∧ (0 : Int) < ((ByteArray.size s_1 : Nat) : Int))) (Calls Tryz.prog 101 #[(Value.int .u8 (V.byteAt s_1 0))] w4 fun e6 w7 =>
  ∃ b5, e6 = Ending.returned (Value.bool b5) ∧
  V.sel (!b5)
  (V.when (decide ((0 : Int) ≤ 0 ∧ (0 : Int) < ((ByteArray.size s_1 : Nat) : Int))) (V.sel ((V.byteAt s_1 0) != 45)
  (R (Ending.returned (Value.bool false)) w7)
  (∃ I8 : Int → World → Prop, ∃ μ9 : Int → World → Nat, I8 0 w7 ∧
  ∀ t31_10 (j11 : Nat → Value) (w12 : World), I8 t31_10 w12 →
  (V.sel (decide (t31_10 < ((ByteArray.size s_1 : Nat) : Int)))
  (V.when (decide ((0 : Int) ≤ t31_10 ∧ (t31_10 : Int) < ((ByteArray.size s_1 : Nat) : Int))) (Calls Tryz.prog 102 #[(Value.int .u8 (V.byteAt s_1 t31_10))] w12 fun e14 w15 =>
  ∃ b13, e14 = Ending.returned (Value.bool b13) ∧
  V.sel (!b13)
  (R (Ending.returned (Value.bool false)) w15)
  (I8 (IntKind.wrap .i64 (t31_10 + 1)) w15 ∧ μ9 (IntKind.wrap .i64 (t31_10 + 1)) w15 < μ9 t31_10 w12)))
  (R (Ending.returned (Value.bool true)) w12)))))
  (∃ I16 : Int → World → Prop, ∃ μ17 : Int → World → Nat, I16 0 w7 ∧
  ∀ t31_18 (j19 : Nat → Value) (w20 : World), I16 t31_18 w20 →
  (V.sel (decide (t31_18 < ((ByteArray.size s_1 : Nat) : Int)))
  (V.when (decide ((0 : Int) ≤ t31_18 ∧ (t31_18 : Int) < ((ByteArray.size s_1 : Nat) : Int))) (Calls Tryz.prog 102 #[(Value.int .u8 (V.byteAt s_1 t31_18))] w20 fun e22 w23 =>
  ∃ b21, e22 = Ending.returned (Value.bool b21) ∧
  V.sel (!b21)
  (R (Ending.returned (Value.bool false)) w23)
  (I16 (IntKind.wrap .i64 (t31_18 + 1)) w23 ∧ μ17 (IntKind.wrap .i64 (t31_18 + 1)) w23 < μ17 t31_18 w20)))
  (R (Ending.returned (Value.bool true)) w20))))))))) :
  Calls Tryz.prog 78 #[(Value.string s_1)] w R :=
  V.calls_of_R ⟨V.assoc [(0, [31])], V.assocP [], V.assocC [], V.assocS [], ⟨[], true⟩⟩ Tryz.func78 rfl (Eq.mp (by kernel_rfl) h)

theorem berthref03_cut_nf (s_1 : ByteArray) (c_2 : Int) (w : World) (R : Ending → World → Prop) (h :
  ∃ I3 : Option Addr → Nat → Nat → Int → Int → World → Prop, ∃ μ4 : Option Addr → Nat → Nat → Int → Int → World → Nat, I3 none 0 0 0 0 w ∧
  ∀ l_5 l_5l l_5c from_6 i_7 (j8 : Nat → Value) (w9 : World), I3 l_5 l_5l l_5c from_6 i_7 w9 →
  (V.sel (decide (i_7 < ((ByteArray.size s_1 : Nat) : Int)))
  (V.when (decide ((0 : Int) ≤ i_7 ∧ (i_7 : Int) < ((ByteArray.size s_1 : Nat) : Int))) (V.sel ((V.byteAt s_1 i_7) == c_2)
  (V.when (decide ((0 : Int) ≤ i_7 ∧ (i_7 : Int) ≤ (((ByteArray.size s_1) : Nat) : Int))) (V.when (decide ((0 : Int) ≤ from_6 ∧ (from_6 : Int) ≤ (((Int.toNat i_7) : Nat) : Int))) (∀ w10, w10 = (World.alloc w9 (.cells #[(Value.string (ByteArray.extract s_1 (Int.toNat from_6) (Int.toNat i_7)))] 9)) →
  ∃ A11, ∃ A11l, ∃ A11c, ∃ w12, Sem.run Tryz.prog (Builtin.append_ #[23, 23] 23 #[(Value.slice l_5 l_5l l_5c), (Value.slice (some ⟨Array.size (World.heap w9), 0, none⟩) 1 1)]) w10 = .ok (Value.slice A11 A11l A11c) w12 ∧
  I3 A11 A11l A11c (IntKind.wrap .i64 (i_7 + 1)) (IntKind.wrap .i64 (i_7 + 1)) w12 ∧ μ4 A11 A11l A11c (IntKind.wrap .i64 (i_7 + 1)) (IntKind.wrap .i64 (i_7 + 1)) w12 < μ4 l_5 l_5l l_5c from_6 i_7 w9)))
  (I3 l_5 l_5l l_5c from_6 (IntKind.wrap .i64 (i_7 + 1)) w9 ∧ μ4 l_5 l_5l l_5c from_6 (IntKind.wrap .i64 (i_7 + 1)) w9 < μ4 l_5 l_5l l_5c from_6 i_7 w9)))
  (V.when (decide ((0 : Int) ≤ from_6 ∧ (from_6 : Int) ≤ (((ByteArray.size s_1) : Nat) : Int))) (∀ w13, w13 = (World.alloc w9 (.cells #[(Value.string (ByteArray.extract s_1 (Int.toNat from_6) (ByteArray.size s_1)))] 9)) →
  ∃ A14, ∃ A14l, ∃ A14c, ∃ w15, Sem.run Tryz.prog (Builtin.append_ #[23, 23] 23 #[(Value.slice l_5 l_5l l_5c), (Value.slice (some ⟨Array.size (World.heap w9), 0, none⟩) 1 1)]) w13 = .ok (Value.slice A14 A14l A14c) w15 ∧
  R (Ending.returned (Value.slice A14 A14l A14c)) w15)))) :
  Calls Tryz.prog 79 #[(Value.string s_1), (Value.int .u8 c_2)] w R :=
  V.calls_of_R ⟨V.assoc [(0, [5, 6, 7])], V.assocP [], V.assocC [], V.assocS [], ⟨[], true⟩⟩ Tryz.func79 rfl (Eq.mp (by kernel_rfl) h)

theorem berthref03_short_nf (s_1 : ByteArray) (w : World) (R : Ending → World → Prop) (h :
  V.sel (ByteArray.toList s_1 == ByteArray.toList ByteArray.empty)
  (R (Ending.returned (Value.bool false)) w)
  (V.sel (decide (((ByteArray.size s_1 : Nat) : Int) > 63))
  (R (Ending.returned (Value.bool false)) w)
  (∃ I2 : Int → World → Prop, ∃ μ3 : Int → World → Nat, I2 0 w ∧
  ∀ i_4 (j5 : Nat → Value) (w6 : World), I2 i_4 w6 →
  (V.sel (decide (i_4 < ((ByteArray.size s_1 : Nat) : Int)))
  (V.when (decide ((0 : Int) ≤ i_4 ∧ (i_4 : Int) < ((ByteArray.size s_1 : Nat) : Int))) (Calls Tryz.prog 82 #[(Value.int .u8 (V.byteAt s_1 i_4))] w6 fun e8 w9 =>
  ∃ b7, e8 = Ending.returned (Value.bool b7) ∧
  V.sel (!b7)
  (R (Ending.returned (Value.bool false)) w9)
  (I2 (IntKind.wrap .i64 (i_4 + 1)) w9 ∧ μ3 (IntKind.wrap .i64 (i_4 + 1)) w9 < μ3 i_4 w6)))
  (V.when (decide ((0 : Int) ≤ 0 ∧ (0 : Int) < ((ByteArray.size s_1 : Nat) : Int))) (Calls Tryz.prog 83 #[(Value.int .u8 (V.byteAt s_1 0))] w6 fun e11 w12 =>
  ∃ b10, e11 = Ending.returned (Value.bool b10) ∧
  V.sel b10
  (V.when (decide ((0 : Int) ≤ (IntKind.wrap .i64 (((ByteArray.size s_1 : Nat) : Int) - 1)) ∧ ((IntKind.wrap .i64 (((ByteArray.size s_1 : Nat) : Int) - 1)) : Int) < ((ByteArray.size s_1 : Nat) : Int))) (Calls Tryz.prog 83 #[(Value.int .u8 (V.byteAt s_1 (IntKind.wrap .i64 (((ByteArray.size s_1 : Nat) : Int) - 1))))] w12 fun e14 w15 =>
  ∃ b13, e14 = Ending.returned (Value.bool b13) ∧
  R (Ending.returned (Value.bool b13)) w15))
  (R (Ending.returned (Value.bool false)) w12))))))) :
  Calls Tryz.prog 80 #[(Value.string s_1)] w R :=
  V.calls_of_R ⟨V.assoc [(0, [3])], V.assocP [], V.assocC [], V.assocS [], ⟨[], true⟩⟩ Tryz.func80 rfl (Eq.mp (by kernel_rfl) h)

theorem berthref03_IsName_nf (s_1 : ByteArray) (w : World) (R : Ending → World → Prop) (h :
  V.sel (decide (((ByteArray.size s_1 : Nat) : Int) > 63))
  (R (Ending.returned (Value.bool false)) w)
  (Calls Tryz.prog 79 #[(Value.string s_1), (Value.int .u8 46)] w fun e3 w4 =>
  ∃ A2, ∃ A2l, ∃ A2c, e3 = Ending.returned (Value.slice A2 A2l A2c) ∧
  ∃ I5 : Int → World → Prop, ∃ μ6 : Int → World → Nat, I5 0 w4 ∧
  ∀ i_7 (j8 : Nat → Value) (w9 : World), I5 i_7 w9 →
  (V.sel (decide (i_7 < ((A2l : Nat) : Int)))
  (V.when (decide ((0 : Int) ≤ i_7 ∧ (i_7 : Int) < ((A2l : Nat) : Int))) (V.ptr A2 fun a10 =>
  ∃ s11, World.cell? w9 (Addr.add a10 ((Int.toNat i_7) * 1)) = some (Value.string s11) ∧
  Calls Tryz.prog 103 #[(Value.string s11)] w9 fun e13 w14 =>
  ∃ b12, e13 = Ending.returned (Value.bool b12) ∧
  V.sel (!b12)
  (R (Ending.returned (Value.bool false)) w14)
  (I5 (IntKind.wrap .i64 (i_7 + 1)) w14 ∧ μ6 (IntKind.wrap .i64 (i_7 + 1)) w14 < μ6 i_7 w9)))
  (R (Ending.returned (Value.bool true)) w9)))) :
  Calls Tryz.prog 81 #[(Value.string s_1)] w R :=
  V.calls_of_R ⟨V.assoc [(0, [4])], V.assocP [], V.assocC [], V.assocS [], ⟨[], true⟩⟩ Tryz.func81 rfl (Eq.mp (by kernel_rfl) h)

theorem berthref03_inner_nf (c_1 : Int) (w : World) (R : Ending → World → Prop) (h :
  Calls Tryz.prog 83 #[(Value.int .u8 c_1)] w fun e3 w4 =>
  ∃ b2, e3 = Ending.returned (Value.bool b2) ∧
  V.sel b2
  (R (Ending.returned (Value.bool true)) w4)
  (V.sel (c_1 == 45)
  (R (Ending.returned (Value.bool true)) w4)
  (V.sel (c_1 == 95)
  (R (Ending.returned (Value.bool true)) w4)
  (R (Ending.returned (Value.bool (c_1 == 46))) w4)))) :
  Calls Tryz.prog 82 #[(Value.int .u8 c_1)] w R :=
  V.calls_of_R ⟨V.assoc [], V.assocP [], V.assocC [], V.assocS [], ⟨[], true⟩⟩ Tryz.func82 rfl (Eq.mp (by kernel_rfl) h)

theorem berthref03_word_nf (c_1 : Int) (w : World) (R : Ending → World → Prop) (h :
  Calls Tryz.prog 104 #[(Value.int .u8 c_1)] w fun e3 w4 =>
  ∃ b2, e3 = Ending.returned (Value.bool b2) ∧
  V.sel b2
  (R (Ending.returned (Value.bool true)) w4)
  (V.sel (decide (c_1 ≥ 65))
  (R (Ending.returned (Value.bool (decide (c_1 ≤ 90)))) w4)
  (R (Ending.returned (Value.bool false)) w4))) :
  Calls Tryz.prog 83 #[(Value.int .u8 c_1)] w R :=
  V.calls_of_R ⟨V.assoc [], V.assocP [], V.assocC [], V.assocS [], ⟨[], true⟩⟩ Tryz.func83 rfl (Eq.mp (by kernel_rfl) h)

theorem berthref03_Get_nf (list_1 : Option Addr) (list_1l : Nat) (list_1c : Nat) (key_2 : ByteArray) (w : World) (R : Ending → World → Prop) (h :
  Calls Tryz.prog 111 #[(Value.slice list_1 list_1l list_1c), (Value.string key_2)] w fun e4 w5 =>
  ∃ n3, e4 = Ending.returned (Value.int .i64 n3) ∧
  V.sel (decide (n3 < 0))
  (R (Ending.returned (Value.tuple #[(Value.string ByteArray.empty), (Value.bool false)])) w5)
  (V.when (decide ((0 : Int) ≤ n3 ∧ (n3 : Int) < ((list_1l : Nat) : Int))) (V.ptr list_1 fun a6 =>
  ∃ s7, World.cell? w5 (Addr.add (Addr.add a6 ((Int.toNat n3) * 2)) 1) = some (Value.string s7) ∧
  R (Ending.returned (Value.tuple #[(Value.string s7), (Value.bool true)])) w5))) :
  Calls Tryz.prog 96 #[(Value.slice list_1 list_1l list_1c), (Value.string key_2)] w R :=
  V.calls_of_R ⟨V.assoc [], V.assocP [], V.assocC [], V.assocS [], ⟨[], true⟩⟩ Tryz.func96 rfl (Eq.mp (by kernel_rfl) h)

theorem berthref07_put_nf (l_1 : Option Addr) (l_1l : Nat) (l_1c : Nat) (s_2 : ByteArray) (w : World) (R : Ending → World → Prop) (h :
  ∃ J3 : Option Addr → Nat → Nat → Int → World → Prop, (∃ I4 : Option Addr → Nat → Nat → Int → World → Prop, ∃ μ5 : Option Addr → Nat → Nat → Int → World → Nat, I4 none 0 0 0 w ∧
  ∀ out_6 out_6l out_6c i_7 (j8 : Nat → Value) (w9 : World), I4 out_6 out_6l out_6c i_7 w9 →
  (V.sel (decide (i_7 < ((l_1l : Nat) : Int)))
  (V.when (decide ((0 : Int) ≤ i_7 ∧ (i_7 : Int) < ((l_1l : Nat) : Int))) (V.ptr l_1 fun a10 =>
  ∃ s11, World.cell? w9 (Addr.add a10 ((Int.toNat i_7) * 1)) = some (Value.string s11) ∧
  V.sel (Op.bytesLess (ByteArray.toList s11) (ByteArray.toList s_2))
  (V.when (decide ((0 : Int) ≤ i_7 ∧ (i_7 : Int) < ((l_1l : Nat) : Int))) (V.ptr l_1 fun a12 =>
  ∃ s13, World.cell? w9 (Addr.add a12 ((Int.toNat i_7) * 1)) = some (Value.string s13) ∧
  ∀ w14, w14 = (World.alloc w9 (.cells #[(Value.string s13)] 9)) →
  ∃ A15, ∃ A15l, ∃ A15c, ∃ w16, Sem.run Tryz.prog (Builtin.append_ #[23, 23] 23 #[(Value.slice out_6 out_6l out_6c), (Value.slice (some ⟨Array.size (World.heap w9), 0, none⟩) 1 1)]) w14 = .ok (Value.slice A15 A15l A15c) w16 ∧
  I4 A15 A15l A15c (IntKind.wrap .i64 (i_7 + 1)) w16 ∧ μ5 A15 A15l A15c (IntKind.wrap .i64 (i_7 + 1)) w16 < μ5 out_6 out_6l out_6c i_7 w9))
  (J3 out_6 out_6l out_6c i_7 w9)))
  (J3 out_6 out_6l out_6c i_7 w9))) ∧
  ∀ out_17 out_17l out_17c i_18 (j19 : Nat → Value) (w20 : World), J3 out_17 out_17l out_17c i_18 w20 →
  ∃ J21 : Option Addr → Nat → Nat → World → Prop, (∃ J22 : Bool → World → Prop, (V.sel (decide (i_18 < ((l_1l : Nat) : Int)))
  (V.when (decide ((0 : Int) ≤ i_18 ∧ (i_18 : Int) < ((l_1l : Nat) : Int))) (V.ptr l_1 fun a23 =>
  ∃ s24, World.cell? w20 (Addr.add a23 ((Int.toNat i_18) * 1)) = some (Value.string s24) ∧
  J22 (ByteArray.toList s24 == ByteArray.toList s_2) w20))
  (J22 false w20)) ∧
  ∀ t39_25 (j26 : Nat → Value) (w27 : World), J22 t39_25 w27 →
  V.sel t39_25
  (R (Ending.returned (Value.slice l_1 l_1l l_1c)) w27)
  (J21 none 0 0 w27)) ∧
  ∀ t4_28 t4_28l t4_28c (j29 : Nat → Value) (w30 : World), J21 t4_28 t4_28l t4_28c w30 →
  ∀ w31, w31 = (World.alloc w30 (.cells #[(Value.string s_2)] 9)) →
  ∃ A32, ∃ A32l, ∃ A32c, ∃ w33, Sem.run Tryz.prog (Builtin.append_ #[23, 23] 23 #[(Value.slice out_17 out_17l out_17c), (Value.slice (some ⟨Array.size (World.heap w30), 0, none⟩) 1 1)]) w31 = .ok (Value.slice A32 A32l A32c) w33 ∧
  ∃ I34 : Option Addr → Nat → Nat → Int → World → Prop, ∃ μ35 : Option Addr → Nat → Nat → Int → World → Nat, I34 A32 A32l A32c i_18 w33 ∧
  ∀ out_36 out_36l out_36c i_37 (j38 : Nat → Value) (w39 : World), I34 out_36 out_36l out_36c i_37 w39 →
  (V.sel (decide (i_37 < ((l_1l : Nat) : Int)))
  (V.when (decide ((0 : Int) ≤ i_37 ∧ (i_37 : Int) < ((l_1l : Nat) : Int))) (V.ptr l_1 fun a40 =>
  ∃ s41, World.cell? w39 (Addr.add a40 ((Int.toNat i_37) * 1)) = some (Value.string s41) ∧
  ∀ w42, w42 = (World.alloc w39 (.cells #[(Value.string s41)] 9)) →
  ∃ A43, ∃ A43l, ∃ A43c, ∃ w44, Sem.run Tryz.prog (Builtin.append_ #[23, 23] 23 #[(Value.slice out_36 out_36l out_36c), (Value.slice (some ⟨Array.size (World.heap w39), 0, none⟩) 1 1)]) w42 = .ok (Value.slice A43 A43l A43c) w44 ∧
  I34 A43 A43l A43c (IntKind.wrap .i64 (i_37 + 1)) w44 ∧ μ35 A43 A43l A43c (IntKind.wrap .i64 (i_37 + 1)) w44 < μ35 out_36 out_36l out_36c i_37 w39))
  (R (Ending.returned (Value.slice out_36 out_36l out_36c)) w39))) :
  Calls Tryz.prog 97 #[(Value.slice l_1 l_1l l_1c), (Value.string s_2)] w R :=
  V.calls_of_R ⟨V.assoc [(0, [5, 6]), (1, [5, 6])], V.assocP [], V.assocC [(1000007, ([5, 6], [V.Sh.one .slice, V.Sh.one (.int .i64)])), (1000008, ([39], [V.Sh.one .bool])), (1000009, ([4], [V.Sh.one .slice]))], V.assocS [], ⟨[], true⟩⟩ Tryz.func97 rfl (Eq.mp (by kernel_rfl) h)

theorem strings_Cut_nf (s_1 : ByteArray) (sep_2 : ByteArray) (w : World) (R : Ending → World → Prop) (h :
  Calls Tryz.prog 112 #[(Value.string s_1), (Value.string sep_2)] w fun e6 w7 =>
  ∃ s3, ∃ s4, ∃ b5, e6 = Ending.returned (Value.tuple #[(Value.string s3), (Value.string s4), (Value.bool b5)]) ∧
  R (Ending.returned (Value.tuple #[(Value.string s3), (Value.string s4), (Value.bool b5)])) w7) :
  Calls Tryz.prog 98 #[(Value.string s_1), (Value.string sep_2)] w R :=
  V.calls_of_R ⟨V.assoc [], V.assocP [], V.assocC [], V.assocS [], ⟨[], true⟩⟩ Tryz.func98 rfl (Eq.mp (by kernel_rfl) h)

theorem labels_IsName_nf (s_1 : ByteArray) (w : World) (R : Ending → World → Prop) (h :
  V.sel (decide (((ByteArray.size s_1 : Nat) : Int) < 1))
  (R (Ending.returned (Value.bool false)) w)
  (V.sel (decide (((ByteArray.size s_1 : Nat) : Int) > 63))
  (R (Ending.returned (Value.bool false)) w)
  (Calls Tryz.prog 113 #[(Value.string s_1), (Value.string ⟨#[46]⟩)] w fun e3 w4 =>
  ∃ A2, ∃ A2l, ∃ A2c, e3 = Ending.returned (Value.slice A2 A2l A2c) ∧
  ∃ I5 : Int → World → Prop, ∃ μ6 : Int → World → Nat, I5 0 w4 ∧
  ∀ t17_7 (j8 : Nat → Value) (w9 : World), I5 t17_7 w9 →
  (V.sel (decide (t17_7 < ((A2l : Nat) : Int)))
  (V.when (decide ((0 : Int) ≤ t17_7 ∧ (t17_7 : Int) < ((A2l : Nat) : Int))) (V.ptr A2 fun a10 =>
  ∃ s11, World.cell? w9 (Addr.add a10 ((Int.toNat t17_7) * 1)) = some (Value.string s11) ∧
  V.sel (ByteArray.toList s11 == ByteArray.toList ByteArray.empty)
  (R (Ending.returned (Value.bool false)) w9)
  (V.when (decide ((0 : Int) ≤ 0 ∧ (0 : Int) < ((ByteArray.size s11 : Nat) : Int))) (Calls Tryz.prog 114 #[(Value.int .u8 (V.byteAt s11 0))] w9 fun e13 w14 =>
  ∃ b12, e13 = Ending.returned (Value.bool b12) ∧
  V.sel (!b12)
  (R (Ending.returned (Value.bool false)) w14)
  (V.when (decide ((0 : Int) ≤ (IntKind.wrap .i64 (((ByteArray.size s11 : Nat) : Int) - 1)) ∧ ((IntKind.wrap .i64 (((ByteArray.size s11 : Nat) : Int) - 1)) : Int) < ((ByteArray.size s11 : Nat) : Int))) (Calls Tryz.prog 114 #[(Value.int .u8 (V.byteAt s11 (IntKind.wrap .i64 (((ByteArray.size s11 : Nat) : Int) - 1))))] w14 fun e16 w17 =>
  ∃ b15, e16 = Ending.returned (Value.bool b15) ∧
  V.sel (!b15)
  (R (Ending.returned (Value.bool false)) w17)
  (∃ I18 : Int → World → Prop, ∃ μ19 : Int → World → Nat, I18 0 w17 ∧
  ∀ t40_20 (j21 : Nat → Value) (w22 : World), I18 t40_20 w22 →
  (V.sel (decide (t40_20 < ((ByteArray.size s11 : Nat) : Int)))
  (V.when (decide ((0 : Int) ≤ t40_20 ∧ (t40_20 : Int) < ((ByteArray.size s11 : Nat) : Int))) (Calls Tryz.prog 114 #[(Value.int .u8 (V.byteAt s11 t40_20))] w22 fun e24 w25 =>
  ∃ b23, e24 = Ending.returned (Value.bool b23) ∧
  V.sel (!b23)
  (V.when (decide ((0 : Int) ≤ t40_20 ∧ (t40_20 : Int) < ((ByteArray.size s11 : Nat) : Int))) (V.sel ((V.byteAt s11 t40_20) != 45)
  (R (Ending.returned (Value.bool false)) w25)
  (I18 (IntKind.wrap .i64 (t40_20 + 1)) w25 ∧ μ19 (IntKind.wrap .i64 (t40_20 + 1)) w25 < μ19 t40_20 w22)))
  (I18 (IntKind.wrap .i64 (t40_20 + 1)) w25 ∧ μ19 (IntKind.wrap .i64 (t40_20 + 1)) w25 < μ19 t40_20 w22)))
  (I5 (IntKind.wrap .i64 (t17_7 + 1)) w22 ∧ μ6 (IntKind.wrap .i64 (t17_7 + 1)) w22 < μ6 t17_7 w9)))))))))
  (R (Ending.returned (Value.bool true)) w9))))) :
  Calls Tryz.prog 99 #[(Value.string s_1)] w R :=
  V.calls_of_R ⟨V.assoc [(0, [17]), (1, [40])], V.assocP [], V.assocC [], V.assocS [], ⟨[], true⟩⟩ Tryz.func99 rfl (Eq.mp (by kernel_rfl) h)

theorem labels_isShort_nf (s_1 : ByteArray) (w : World) (R : Ending → World → Prop) (h :
  V.sel (decide (((ByteArray.size s_1 : Nat) : Int) < 1))
  (R (Ending.returned (Value.bool false)) w)
  (V.sel (decide (((ByteArray.size s_1 : Nat) : Int) > 63))
  (R (Ending.returned (Value.bool false)) w)
  (V.when (decide ((0 : Int) ≤ 0 ∧ (0 : Int) < ((ByteArray.size s_1 : Nat) : Int))) (Calls Tryz.prog 101 #[(Value.int .u8 (V.byteAt s_1 0))] w fun e3 w4 =>
  ∃ b2, e3 = Ending.returned (Value.bool b2) ∧
  V.sel (!b2)
  (R (Ending.returned (Value.bool false)) w4)
  (V.when (decide ((0 : Int) ≤ (IntKind.wrap .i64 (((ByteArray.size s_1 : Nat) : Int) - 1)) ∧ ((IntKind.wrap .i64 (((ByteArray.size s_1 : Nat) : Int) - 1)) : Int) < ((ByteArray.size s_1 : Nat) : Int))) (Calls Tryz.prog 101 #[(Value.int .u8 (V.byteAt s_1 (IntKind.wrap .i64 (((ByteArray.size s_1 : Nat) : Int) - 1))))] w4 fun e6 w7 =>
  ∃ b5, e6 = Ending.returned (Value.bool b5) ∧
  V.sel (!b5)
  (R (Ending.returned (Value.bool false)) w7)
  (∃ I8 : Int → World → Prop, ∃ μ9 : Int → World → Nat, I8 0 w7 ∧
  ∀ t29_10 (j11 : Nat → Value) (w12 : World), I8 t29_10 w12 →
  (V.sel (decide (t29_10 < ((ByteArray.size s_1 : Nat) : Int)))
  (V.when (decide ((0 : Int) ≤ t29_10 ∧ (t29_10 : Int) < ((ByteArray.size s_1 : Nat) : Int))) (Calls Tryz.prog 102 #[(Value.int .u8 (V.byteAt s_1 t29_10))] w12 fun e14 w15 =>
  ∃ b13, e14 = Ending.returned (Value.bool b13) ∧
  V.sel (!b13)
  (R (Ending.returned (Value.bool false)) w15)
  (I8 (IntKind.wrap .i64 (t29_10 + 1)) w15 ∧ μ9 (IntKind.wrap .i64 (t29_10 + 1)) w15 < μ9 t29_10 w12)))
  (R (Ending.returned (Value.bool true)) w12))))))))) :
  Calls Tryz.prog 100 #[(Value.string s_1)] w R :=
  V.calls_of_R ⟨V.assoc [(0, [29])], V.assocP [], V.assocC [], V.assocS [], ⟨[], true⟩⟩ Tryz.func100 rfl (Eq.mp (by kernel_rfl) h)

theorem labels_word_nf (c_1 : Int) (w : World) (R : Ending → World → Prop) (h :
  Calls Tryz.prog 114 #[(Value.int .u8 c_1)] w fun e3 w4 =>
  ∃ b2, e3 = Ending.returned (Value.bool b2) ∧
  V.sel b2
  (R (Ending.returned (Value.bool true)) w4)
  (V.sel (decide (c_1 ≥ 65))
  (R (Ending.returned (Value.bool (decide (c_1 ≤ 90)))) w4)
  (R (Ending.returned (Value.bool false)) w4))) :
  Calls Tryz.prog 101 #[(Value.int .u8 c_1)] w R :=
  V.calls_of_R ⟨V.assoc [], V.assocP [], V.assocC [], V.assocS [], ⟨[], true⟩⟩ Tryz.func101 rfl (Eq.mp (by kernel_rfl) h)

theorem labels_inner_nf (c_1 : Int) (w : World) (R : Ending → World → Prop) (h :
  Calls Tryz.prog 101 #[(Value.int .u8 c_1)] w fun e3 w4 =>
  ∃ b2, e3 = Ending.returned (Value.bool b2) ∧
  V.sel b2
  (R (Ending.returned (Value.bool true)) w4)
  (V.sel (c_1 == 45)
  (R (Ending.returned (Value.bool true)) w4)
  (V.sel (c_1 == 95)
  (R (Ending.returned (Value.bool true)) w4)
  (R (Ending.returned (Value.bool (c_1 == 46))) w4)))) :
  Calls Tryz.prog 102 #[(Value.int .u8 c_1)] w R :=
  V.calls_of_R ⟨V.assoc [], V.assocP [], V.assocC [], V.assocS [], ⟨[], true⟩⟩ Tryz.func102 rfl (Eq.mp (by kernel_rfl) h)

theorem berthref03_part_nf (s_1 : ByteArray) (w : World) (R : Ending → World → Prop) (h :
  V.sel (ByteArray.toList s_1 == ByteArray.toList ByteArray.empty)
  (R (Ending.returned (Value.bool false)) w)
  (∃ I2 : Int → World → Prop, ∃ μ3 : Int → World → Nat, I2 0 w ∧
  ∀ i_4 (j5 : Nat → Value) (w6 : World), I2 i_4 w6 →
  (V.sel (decide (i_4 < ((ByteArray.size s_1 : Nat) : Int)))
  (V.when (decide ((0 : Int) ≤ i_4 ∧ (i_4 : Int) < ((ByteArray.size s_1 : Nat) : Int))) (Calls Tryz.prog 104 #[(Value.int .u8 (V.byteAt s_1 i_4))] w6 fun e8 w9 =>
  ∃ b7, e8 = Ending.returned (Value.bool b7) ∧
  V.sel (!b7)
  (V.when (decide ((0 : Int) ≤ i_4 ∧ (i_4 : Int) < ((ByteArray.size s_1 : Nat) : Int))) (V.sel ((V.byteAt s_1 i_4) != 45)
  (R (Ending.returned (Value.bool false)) w9)
  (I2 (IntKind.wrap .i64 (i_4 + 1)) w9 ∧ μ3 (IntKind.wrap .i64 (i_4 + 1)) w9 < μ3 i_4 w6)))
  (I2 (IntKind.wrap .i64 (i_4 + 1)) w9 ∧ μ3 (IntKind.wrap .i64 (i_4 + 1)) w9 < μ3 i_4 w6)))
  (V.when (decide ((0 : Int) ≤ 0 ∧ (0 : Int) < ((ByteArray.size s_1 : Nat) : Int))) (Calls Tryz.prog 104 #[(Value.int .u8 (V.byteAt s_1 0))] w6 fun e11 w12 =>
  ∃ b10, e11 = Ending.returned (Value.bool b10) ∧
  V.sel b10
  (V.when (decide ((0 : Int) ≤ (IntKind.wrap .i64 (((ByteArray.size s_1 : Nat) : Int) - 1)) ∧ ((IntKind.wrap .i64 (((ByteArray.size s_1 : Nat) : Int) - 1)) : Int) < ((ByteArray.size s_1 : Nat) : Int))) (Calls Tryz.prog 104 #[(Value.int .u8 (V.byteAt s_1 (IntKind.wrap .i64 (((ByteArray.size s_1 : Nat) : Int) - 1))))] w12 fun e14 w15 =>
  ∃ b13, e14 = Ending.returned (Value.bool b13) ∧
  R (Ending.returned (Value.bool b13)) w15))
  (R (Ending.returned (Value.bool false)) w12)))))) :
  Calls Tryz.prog 103 #[(Value.string s_1)] w R :=
  V.calls_of_R ⟨V.assoc [(0, [3])], V.assocP [], V.assocC [], V.assocS [], ⟨[], true⟩⟩ Tryz.func103 rfl (Eq.mp (by kernel_rfl) h)

theorem berthref03_low_nf (c_1 : Int) (w : World) (R : Ending → World → Prop) (h :
  V.sel (decide (c_1 ≥ 97))
  (V.sel (decide (c_1 ≤ 122))
  (R (Ending.returned (Value.bool true)) w)
  (V.sel (decide (c_1 ≥ 48))
  (R (Ending.returned (Value.bool (decide (c_1 ≤ 57)))) w)
  (R (Ending.returned (Value.bool false)) w)))
  (V.sel (decide (c_1 ≥ 48))
  (R (Ending.returned (Value.bool (decide (c_1 ≤ 57)))) w)
  (R (Ending.returned (Value.bool false)) w))) :
  Calls Tryz.prog 104 #[(Value.int .u8 c_1)] w R :=
  V.calls_of_R ⟨V.assoc [], V.assocP [], V.assocC [], V.assocS [], ⟨[], true⟩⟩ Tryz.func104 rfl (Eq.mp (by kernel_rfl) h)

theorem berthref03_Find_nf (list_1 : Option Addr) (list_1l : Nat) (list_1c : Nat) (key_2 : ByteArray) (w : World) (R : Ending → World → Prop) (h :
  ∃ I3 : Int → World → Prop, ∃ μ4 : Int → World → Nat, I3 0 w ∧
  ∀ i_5 (j6 : Nat → Value) (w7 : World), I3 i_5 w7 →
  (V.sel (decide (i_5 < ((list_1l : Nat) : Int)))
  (V.when (decide ((0 : Int) ≤ i_5 ∧ (i_5 : Int) < ((list_1l : Nat) : Int))) (V.ptr list_1 fun a8 =>
  ∃ s9, World.cell? w7 (Addr.add (Addr.add a8 ((Int.toNat i_5) * 2)) 0) = some (Value.string s9) ∧
  V.sel (ByteArray.toList s9 == ByteArray.toList key_2)
  (R (Ending.returned (Value.int .i64 i_5)) w7)
  (I3 (IntKind.wrap .i64 (i_5 + 1)) w7 ∧ μ4 (IntKind.wrap .i64 (i_5 + 1)) w7 < μ4 i_5 w7)))
  (R (Ending.returned (Value.int .i64 (-1))) w7))) :
  Calls Tryz.prog 111 #[(Value.slice list_1 list_1l list_1c), (Value.string key_2)] w R :=
  V.calls_of_R ⟨V.assoc [(0, [5])], V.assocP [], V.assocC [], V.assocS [], ⟨[], true⟩⟩ Tryz.func111 rfl (Eq.mp (by kernel_rfl) h)

theorem internal_stringslite_Cut_nf (s_1 : ByteArray) (sep_2 : ByteArray) (w : World) (R : Ending → World → Prop) (h :
  Calls Tryz.prog 116 #[(Value.string s_1), (Value.string sep_2)] w fun e4 w5 =>
  ∃ n3, e4 = Ending.returned (Value.int .i64 n3) ∧
  V.sel (decide (n3 ≥ 0))
  (V.when (decide ((0 : Int) ≤ n3 ∧ (n3 : Int) ≤ (((ByteArray.size s_1) : Nat) : Int))) (V.when (decide ((0 : Int) ≤ (IntKind.wrap .i64 (n3 + ((ByteArray.size sep_2 : Nat) : Int))) ∧ ((IntKind.wrap .i64 (n3 + ((ByteArray.size sep_2 : Nat) : Int))) : Int) ≤ (((ByteArray.size s_1) : Nat) : Int))) (R (Ending.returned (Value.tuple #[(Value.string (ByteArray.extract s_1 0 (Int.toNat n3))), (Value.string (ByteArray.extract s_1 (Int.toNat (IntKind.wrap .i64 (n3 + ((ByteArray.size sep_2 : Nat) : Int)))) (ByteArray.size s_1))), (Value.bool true)])) (World.drew w5))))
  (R (Ending.returned (Value.tuple #[(Value.string s_1), (Value.string ByteArray.empty), (Value.bool false)])) w5)) :
  Calls Tryz.prog 112 #[(Value.string s_1), (Value.string sep_2)] w R :=
  V.calls_of_R ⟨V.assoc [], V.assocP [(3, V.line [0, 1, 2, 3, 4, 5, 6, 7, 8, 9, 10, 11])], V.assocC [], V.assocS [], ⟨[], true⟩⟩ Tryz.func112 rfl (Eq.mp (by kernel_rfl) h)

theorem strings_Split_nf (s_1 : ByteArray) (sep_2 : ByteArray) (w : World) (R : Ending → World → Prop) (h :
  Calls Tryz.prog 117 #[(Value.string s_1), (Value.string sep_2), (Value.int .i64 0), (Value.int .i64 (-1))] w fun e4 w5 =>
  ∃ A3, ∃ A3l, ∃ A3c, e4 = Ending.returned (Value.slice A3 A3l A3c) ∧
  R (Ending.returned (Value.slice A3 A3l A3c)) w5) :
  Calls Tryz.prog 113 #[(Value.string s_1), (Value.string sep_2)] w R :=
  V.calls_of_R ⟨V.assoc [], V.assocP [], V.assocC [], V.assocS [], ⟨[], true⟩⟩ Tryz.func113 rfl (Eq.mp (by kernel_rfl) h)

theorem labels_low_nf (c_1 : Int) (w : World) (R : Ending → World → Prop) (h :
  V.sel (decide (c_1 ≥ 97))
  (V.sel (decide (c_1 ≤ 122))
  (R (Ending.returned (Value.bool true)) w)
  (V.sel (decide (c_1 ≥ 48))
  (R (Ending.returned (Value.bool (decide (c_1 ≤ 57)))) w)
  (R (Ending.returned (Value.bool false)) w)))
  (V.sel (decide (c_1 ≥ 48))
  (R (Ending.returned (Value.bool (decide (c_1 ≤ 57)))) w)
  (R (Ending.returned (Value.bool false)) w))) :
  Calls Tryz.prog 114 #[(Value.int .u8 c_1)] w R :=
  V.calls_of_R ⟨V.assoc [], V.assocP [], V.assocC [], V.assocS [], ⟨[], true⟩⟩ Tryz.func114 rfl (Eq.mp (by kernel_rfl) h)

end Go.Proofs.YtpipenkaaodlgaaGreatDoor
