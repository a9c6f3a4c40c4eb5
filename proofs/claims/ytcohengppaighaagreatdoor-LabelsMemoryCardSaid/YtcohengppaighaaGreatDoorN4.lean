/- Normal forms of the program's functions, printed by a program of mine; the kernel checks each. -/
import Derived.Test.YtcohengppaighaaGreatDoorProg
import Derived.Test.YtcohengppaighaaGreatDoorV2
set_option linter.unusedVariables false
set_option maxRecDepth 100000
namespace Go.Proofs.YtcohengppaighaaGreatDoor
open Go

theorem berthref03_IsKey_nf (s_1 : ByteArray) (w : World) (R : Ending → World → Prop) (h :
  V.sel (decide (((ByteArray.size s_1 : Nat) : Int) > 127))
  (R (Ending.returned (Value.bool false)) w)
  (Calls Tryz.prog 58 #[(Value.string s_1), (Value.int .u8 47)] w fun e3 w4 =>
  ∃ A2, ∃ A2l, ∃ A2c, e3 = Ending.returned (Value.slice A2 A2l A2c) ∧
  V.sel (((A2l : Nat) : Int) == 1)
  (V.when (decide ((0 : Int) ≤ 0 ∧ (0 : Int) < ((A2l : Nat) : Int))) (V.ptr A2 fun a5 =>
  ∃ s6, World.cell? w4 (Addr.add a5 0) = some (Value.string s6) ∧
  Calls Tryz.prog 84 #[(Value.string s6)] w4 fun e8 w9 =>
  ∃ b7, e8 = Ending.returned (Value.bool b7) ∧
  R (Ending.returned (Value.bool b7)) w9))
  (V.sel (((A2l : Nat) : Int) == 2)
  (V.when (decide ((0 : Int) ≤ 0 ∧ (0 : Int) < ((A2l : Nat) : Int))) (V.ptr A2 fun a10 =>
  ∃ s11, World.cell? w4 (Addr.add a10 0) = some (Value.string s11) ∧
  Calls Tryz.prog 64 #[(Value.string s11)] w4 fun e13 w14 =>
  ∃ b12, e13 = Ending.returned (Value.bool b12) ∧
  V.sel b12
  (V.when (decide ((0 : Int) ≤ 1 ∧ (1 : Int) < ((A2l : Nat) : Int))) (V.ptr A2 fun a15 =>
  ∃ s16, World.cell? w14 (Addr.add a15 1) = some (Value.string s16) ∧
  Calls Tryz.prog 84 #[(Value.string s16)] w14 fun e18 w19 =>
  ∃ b17, e18 = Ending.returned (Value.bool b17) ∧
  R (Ending.returned (Value.bool b17)) w19))
  (R (Ending.returned (Value.bool false)) w14)))
  (R (Ending.returned (Value.bool false)) w4)))) :
  Calls Tryz.prog 54 #[(Value.string s_1)] w R :=
  V.calls_of_R ⟨V.assoc [], V.assocP [], V.assocC [], V.assocS [], ⟨[], true⟩⟩ Tryz.func54 rfl (Eq.mp (by kernel_rfl) h)

theorem berthref03_IsValue_nf (s_1 : ByteArray) (w : World) (R : Ending → World → Prop) (h :
  V.sel (ByteArray.toList s_1 == ByteArray.toList ByteArray.empty)
  (R (Ending.returned (Value.bool true)) w)
  (V.sel (decide (((ByteArray.size s_1 : Nat) : Int) > 63))
  (R (Ending.returned (Value.bool false)) w)
  (∃ I2 : Int → World → Prop, ∃ μ3 : Int → World → Nat, I2 0 w ∧
  ∀ i_4 (j5 : Nat → Value) (w6 : World), I2 i_4 w6 →
  (V.sel (decide (i_4 < ((ByteArray.size s_1 : Nat) : Int)))
  (V.when (decide ((0 : Int) ≤ i_4 ∧ (i_4 : Int) < ((ByteArray.size s_1 : Nat) : Int))) (Calls Tryz.prog 85 #[(Value.int .u8 (V.byteAt s_1 i_4))] w6 fun e8 w9 =>
  ∃ b7, e8 = Ending.returned (Value.bool b7) ∧
  V.sel (!b7)
  (R (Ending.returned (Value.bool false)) w9)
  (I2 (IntKind.wrap .i64 (i_4 + 1)) w9 ∧ μ3 (IntKind.wrap .i64 (i_4 + 1)) w9 < μ3 i_4 w6)))
  (V.when (decide ((0 : Int) ≤ 0 ∧ (0 : Int) < ((ByteArray.size s_1 : Nat) : Int))) (Calls Tryz.prog 86 #[(Value.int .u8 (V.byteAt s_1 0))] w6 fun e11 w12 =>
  ∃ b10, e11 = Ending.returned (Value.bool b10) ∧
  V.sel b10
  (V.when (decide ((0 : Int) ≤ (IntKind.wrap .i64 (((ByteArray.size s_1 : Nat) : Int) - 1)) ∧ ((IntKind.wrap .i64 (((ByteArray.size s_1 : Nat) : Int) - 1)) : Int) < ((ByteArray.size s_1 : Nat) : Int))) (Calls Tryz.prog 86 #[(Value.int .u8 (V.byteAt s_1 (IntKind.wrap .i64 (((ByteArray.size s_1 : Nat) : Int) - 1))))] w12 fun e14 w15 =>
  ∃ b13, e14 = Ending.returned (Value.bool b13) ∧
  R (Ending.returned (Value.bool b13)) w15))
  (V.when (decide ((0 : Int) ≤ 0 ∧ (0 : Int) < ((ByteArray.size s_1 : Nat) : Int))) (V.sel ((V.byteAt s_1 0) == 45)
  (V.when (decide ((0 : Int) ≤ (IntKind.wrap .i64 (((ByteArray.size s_1 : Nat) : Int) - 1)) ∧ ((IntKind.wrap .i64 (((ByteArray.size s_1 : Nat) : Int) - 1)) : Int) < ((ByteArray.size s_1 : Nat) : Int))) (Calls Tryz.prog 86 #[(Value.int .u8 (V.byteAt s_1 (IntKind.wrap .i64 (((ByteArray.size s_1 : Nat) : Int) - 1))))] w12 fun e17 w18 =>
  ∃ b16, e17 = Ending.returned (Value.bool b16) ∧
  R (Ending.returned (Value.bool b16)) w18))
  (R (Ending.returned (Value.bool false)) w12))))))))) :
  Calls Tryz.prog 55 #[(Value.string s_1)] w R :=
  V.calls_of_R ⟨V.assoc [(0, [3])], V.assocP [], V.assocC [], V.assocS [], ⟨[], true⟩⟩ Tryz.func55 rfl (Eq.mp (by kernel_rfl) h)

theorem berthref03_Find_nf (list_1 : Option Addr) (list_1l : Nat) (list_1c : Nat) (key_2 : ByteArray) (w : World) (R : Ending → World → Prop) (h :
  ∃ I3 : Int → World → Prop, ∃ μ4 : Int → World → Nat, I3 0 w ∧
  ∀ i_5 (j6 : Nat → Value) (w7 : World), I3 i_5 w7 →
  (V.sel (decide (i_5 < ((list_1l : Nat) : Int)))
  (V.when (decide ((0 : Int) ≤ i_5 ∧ (i_5 : Int) < ((list_1l : Nat) : Int))) (V.ptr list_1 fun a8 =>
  ∃ s9, World.cell? w7 (Addr.add (Addr.add a8 ((Int.toNat i_5) * 2)) 0) = some (Value.string s9) ∧
  V.sel (ByteArray.toList s9 == ByteArray.toList key_2)
  (R (Ending.returned (Value.int .i64 i_5)) w7)
  (I3 (IntKind.wrap .i64 (i_5 + 1)) w7 ∧ μ4 (IntKind.wrap .i64 (i_5 + 1)) w7 < μ4 i_5 w7)))
  (R (Ending.returned (Value.int .i64 (-1))) w7))) :
  Calls Tryz.prog 56 #[(Value.slice list_1 list_1l list_1c), (Value.string key_2)] w R :=
  V.calls_of_R ⟨V.assoc [(0, [5])], V.assocP [], V.assocC [], V.assocS [], ⟨[], true⟩⟩ Tryz.func56 rfl (Eq.mp (by kernel_rfl) h)

theorem berthref03_Rise_nf (list_1 : Option Addr) (list_1l : Nat) (list_1c : Nat) (w : World) (R : Ending → World → Prop) (h :
  ∃ I2 : Option Addr → Nat → Nat → World → Prop, ∃ μ3 : Option Addr → Nat → Nat → World → Nat, I2 none 0 0 w ∧
  ∀ out_4 out_4l out_4c (j5 : Nat → Value) (w6 : World), I2 out_4 out_4l out_4c w6 →
  (V.sel (decide (((out_4l : Nat) : Int) < ((list_1l : Nat) : Int)))
  (∃ I7 : Int → Int → World → Prop, ∃ μ8 : Int → Int → World → Nat, I7 (-1) 0 w6 ∧
  ∀ best_9 i_10 (j11 : Nat → Value) (w12 : World), I7 best_9 i_10 w12 →
  (V.sel (decide (i_10 < ((list_1l : Nat) : Int)))
  (V.sel (decide (((out_4l : Nat) : Int) > 0))
  (V.when (decide ((0 : Int) ≤ i_10 ∧ (i_10 : Int) < ((list_1l : Nat) : Int))) (V.ptr list_1 fun a13 =>
  ∃ s14, World.cell? w12 (Addr.add (Addr.add a13 ((Int.toNat i_10) * 2)) 0) = some (Value.string s14) ∧
  V.when (decide ((0 : Int) ≤ (IntKind.wrap .i64 (((out_4l : Nat) : Int) - 1)) ∧ ((IntKind.wrap .i64 (((out_4l : Nat) : Int) - 1)) : Int) < ((out_4l : Nat) : Int))) (V.ptr out_4 fun a15 =>
  ∃ s16, World.cell? w12 (Addr.add (Addr.add a15 ((Int.toNat (IntKind.wrap .i64 (((out_4l : Nat) : Int) - 1))) * 2)) 0) = some (Value.string s16) ∧
  V.sel ((Op.bytesLess (ByteArray.toList s14) (ByteArray.toList s16)) || (ByteArray.toList s14 == ByteArray.toList s16))
  (I7 best_9 (IntKind.wrap .i64 (i_10 + 1)) (World.drew w12) ∧ μ8 best_9 (IntKind.wrap .i64 (i_10 + 1)) (World.drew w12) < μ8 best_9 i_10 w12)
  (V.sel (decide (best_9 < 0))
  (I7 i_10 (IntKind.wrap .i64 (i_10 + 1)) (World.drew (World.drew w12)) ∧ μ8 i_10 (IntKind.wrap .i64 (i_10 + 1)) (World.drew (World.drew w12)) < μ8 best_9 i_10 w12)
  (V.when (decide ((0 : Int) ≤ i_10 ∧ (i_10 : Int) < ((list_1l : Nat) : Int))) (V.ptr list_1 fun a17 =>
  ∃ s18, World.cell? (World.drew w12) (Addr.add (Addr.add a17 ((Int.toNat i_10) * 2)) 0) = some (Value.string s18) ∧
  V.when (decide ((0 : Int) ≤ best_9 ∧ (best_9 : Int) < ((list_1l : Nat) : Int))) (V.ptr list_1 fun a19 =>
  ∃ s20, World.cell? (World.drew w12) (Addr.add (Addr.add a19 ((Int.toNat best_9) * 2)) 0) = some (Value.string s20) ∧
  V.sel (Op.bytesLess (ByteArray.toList s18) (ByteArray.toList s20))
  (I7 i_10 (IntKind.wrap .i64 (i_10 + 1)) (World.drew (World.drew w12)) ∧ μ8 i_10 (IntKind.wrap .i64 (i_10 + 1)) (World.drew (World.drew w12)) < μ8 best_9 i_10 w12)
  (I7 best_9 (IntKind.wrap .i64 (i_10 + 1)) (World.drew (World.drew w12)) ∧ μ8 best_9 (IntKind.wrap .i64 (i_10 + 1)) (World.drew (World.drew w12)) < μ8 best_9 i_10 w12))))))))
  (V.sel (decide (best_9 < 0))
  (I7 i_10 (IntKind.wrap .i64 (i_10 + 1)) (World.drew (World.drew w12)) ∧ μ8 i_10 (IntKind.wrap .i64 (i_10 + 1)) (World.drew (World.drew w12)) < μ8 best_9 i_10 w12)
  (V.when (decide ((0 : Int) ≤ i_10 ∧ (i_10 : Int) < ((list_1l : Nat) : Int))) (V.ptr list_1 fun a21 =>
  ∃ s22, World.cell? (World.drew w12) (Addr.add (Addr.add a21 ((Int.toNat i_10) * 2)) 0) = some (Value.string s22) ∧
  V.when (decide ((0 : Int) ≤ best_9 ∧ (best_9 : Int) < ((list_1l : Nat) : Int))) (V.ptr list_1 fun a23 =>
  ∃ s24, World.cell? (World.drew w12) (Addr.add (Addr.add a23 ((Int.toNat best_9) * 2)) 0) = some (Value.string s24) ∧
  V.sel (Op.bytesLess (ByteArray.toList s22) (ByteArray.toList s24))
  (I7 i_10 (IntKind.wrap .i64 (i_10 + 1)) (World.drew (World.drew w12)) ∧ μ8 i_10 (IntKind.wrap .i64 (i_10 + 1)) (World.drew (World.drew w12)) < μ8 best_9 i_10 w12)
  (I7 best_9 (IntKind.wrap .i64 (i_10 + 1)) (World.drew (World.drew w12)) ∧ μ8 best_9 (IntKind.wrap .i64 (i_10 + 1)) (World.drew (World.drew w12)) < μ8 best_9 i_10 w12))))))
  (V.sel (decide (best_9 < 0))
  (R (Ending.returned (Value.slice out_4 out_4l out_4c)) w12)
  (V.when (decide ((0 : Int) ≤ best_9 ∧ (best_9 : Int) < ((list_1l : Nat) : Int))) (V.ptr list_1 fun a25 =>
  ∃ s26, ∃ s27, V.cellsC (fun a_ x_ => World.cell? w12 a_ = some x_) (Addr.add a25 ((Int.toNat best_9) * 2)) [(Value.string s26), (Value.string s27)] ∧
  ∀ w28, w28 = (World.alloc w12 (.cells #[(Value.string s26), (Value.string s27)] 40)) →
  ∃ A29, ∃ A29l, ∃ A29c, ∃ w30, Sem.run Tryz.prog (Builtin.append_ #[22, 22] 22 #[(Value.slice out_4 out_4l out_4c), (Value.slice (some ⟨Array.size (World.heap w12), 0, none⟩) 1 1)]) w28 = .ok (Value.slice A29 A29l A29c) w30 ∧
  I2 A29 A29l A29c w30 ∧ μ3 A29 A29l A29c w30 < μ3 out_4 out_4l out_4c w6)))))
  (R (Ending.returned (Value.slice out_4 out_4l out_4c)) w6))) :
  Calls Tryz.prog 57 #[(Value.slice list_1 list_1l list_1c)] w R :=
  V.calls_of_R ⟨V.assoc [(0, [3]), (1, [4, 5])], V.assocP [(7, V.line [0, 1, 2, 3, 4, 5, 6, 7, 8, 9, 10, 11, 12, 13, 14, 15, 16, 17]), (8, V.line [0, 1, 2, 3, 4, 5, 6, 7, 8, 9, 10, 11, 12, 13, 14])], V.assocC [], V.assocS [], ⟨[], true⟩⟩ Tryz.func57 rfl (Eq.mp (by kernel_rfl) h)

theorem berthref03_cut_nf (s_1 : ByteArray) (c_2 : Int) (w : World) (R : Ending → World → Prop) (h :
  ∃ I3 : Option Addr → Nat → Nat → Int → Int → World → Prop, ∃ μ4 : Option Addr → Nat → Nat → Int → Int → World → Nat, I3 none 0 0 0 0 w ∧
  ∀ l_5 l_5l l_5c from_6 i_7 (j8 : Nat → Value) (w9 : World), I3 l_5 l_5l l_5c from_6 i_7 w9 →
  (V.sel (decide (i_7 < ((ByteArray.size s_1 : Nat) : Int)))
  (V.when (decide ((0 : Int) ≤ i_7 ∧ (i_7 : Int) < ((ByteArray.size s_1 : Nat) : Int))) (V.sel ((V.byteAt s_1 i_7) == c_2)
  (V.when (decide ((0 : Int) ≤ i_7 ∧ (i_7 : Int) ≤ (((ByteArray.size s_1) : Nat) : Int))) (V.when (decide ((0 : Int) ≤ from_6 ∧ (from_6 : Int) ≤ (((Int.toNat i_7) : Nat) : Int))) (∀ w10, w10 = (World.alloc w9 (.cells #[(Value.string (ByteArray.extract s_1 (Int.toNat from_6) (Int.toNat i_7)))] 9)) →
  ∃ A11, ∃ A11l, ∃ A11c, ∃ w12, Sem.run Tryz.prog (Builtin.append_ #[50, 50] 50 #[(Value.slice l_5 l_5l l_5c), (Value.slice (some ⟨Array.size (World.heap w9), 0, none⟩) 1 1)]) w10 = .ok (Value.slice A11 A11l A11c) w12 ∧
  I3 A11 A11l A11c (IntKind.wrap .i64 (i_7 + 1)) (IntKind.wrap .i64 (i_7 + 1)) w12 ∧ μ4 A11 A11l A11c (IntKind.wrap .i64 (i_7 + 1)) (IntKind.wrap .i64 (i_7 + 1)) w12 < μ4 l_5 l_5l l_5c from_6 i_7 w9)))
  (I3 l_5 l_5l l_5c from_6 (IntKind.wrap .i64 (i_7 + 1)) w9 ∧ μ4 l_5 l_5l l_5c from_6 (IntKind.wrap .i64 (i_7 + 1)) w9 < μ4 l_5 l_5l l_5c from_6 i_7 w9)))
  (V.when (decide ((0 : Int) ≤ from_6 ∧ (from_6 : Int) ≤ (((ByteArray.size s_1) : Nat) : Int))) (∀ w13, w13 = (World.alloc w9 (.cells #[(Value.string (ByteArray.extract s_1 (Int.toNat from_6) (ByteArray.size s_1)))] 9)) →
  ∃ A14, ∃ A14l, ∃ A14c, ∃ w15, Sem.run Tryz.prog (Builtin.append_ #[50, 50] 50 #[(Value.slice l_5 l_5l l_5c), (Value.slice (some ⟨Array.size (World.heap w9), 0, none⟩) 1 1)]) w13 = .ok (Value.slice A14 A14l A14c) w15 ∧
  R (Ending.returned (Value.slice A14 A14l A14c)) w15)))) :
  Calls Tryz.prog 58 #[(Value.string s_1), (Value.int .u8 c_2)] w R :=
  V.calls_of_R ⟨V.assoc [(0, [5, 6, 7])], V.assocP [], V.assocC [], V.assocS [], ⟨[], true⟩⟩ Tryz.func58 rfl (Eq.mp (by kernel_rfl) h)

theorem berthref03_Check_nf (list_1 : Option Addr) (list_1l : Nat) (list_1c : Nat) (w : World) (R : Ending → World → Prop) (h :
  V.sel (decide (((list_1l : Nat) : Int) > 32))
  (R (Ending.returned (Value.tuple #[(Value.int .i64 32), (Value.int .i64 34)])) w)
  (∃ I2 : Int → World → Prop, ∃ μ3 : Int → World → Nat, I2 0 w ∧
  ∀ i_4 (j5 : Nat → Value) (w6 : World), I2 i_4 w6 →
  (V.sel (decide (i_4 < ((list_1l : Nat) : Int)))
  (V.when (decide ((0 : Int) ≤ i_4 ∧ (i_4 : Int) < ((list_1l : Nat) : Int))) (V.ptr list_1 fun a7 =>
  ∃ s8, World.cell? w6 (Addr.add (Addr.add a7 ((Int.toNat i_4) * 2)) 0) = some (Value.string s8) ∧
  Calls Tryz.prog 54 #[(Value.string s8)] w6 fun e10 w11 =>
  ∃ b9, e10 = Ending.returned (Value.bool b9) ∧
  V.when (decide ((0 : Int) ≤ i_4 ∧ (i_4 : Int) < ((list_1l : Nat) : Int))) (V.ptr list_1 fun a12 =>
  ∃ s13, World.cell? w11 (Addr.add (Addr.add a12 ((Int.toNat i_4) * 2)) 1) = some (Value.string s13) ∧
  Calls Tryz.prog 55 #[(Value.string s13)] w11 fun e15 w16 =>
  ∃ b14, e15 = Ending.returned (Value.bool b14) ∧
  V.sel (!b9)
  (R (Ending.returned (Value.tuple #[(Value.int .i64 i_4), (Value.int .i64 31)])) w16)
  (V.sel (!b14)
  (R (Ending.returned (Value.tuple #[(Value.int .i64 i_4), (Value.int .i64 32)])) w16)
  (V.sel (decide (i_4 > 0))
  (V.when (decide ((0 : Int) ≤ i_4 ∧ (i_4 : Int) < ((list_1l : Nat) : Int))) (V.ptr list_1 fun a17 =>
  ∃ s18, World.cell? w16 (Addr.add (Addr.add a17 ((Int.toNat i_4) * 2)) 0) = some (Value.string s18) ∧
  V.when (decide ((0 : Int) ≤ (IntKind.wrap .i64 (i_4 - 1)) ∧ ((IntKind.wrap .i64 (i_4 - 1)) : Int) < ((list_1l : Nat) : Int))) (V.ptr list_1 fun a19 =>
  ∃ s20, World.cell? w16 (Addr.add (Addr.add a19 ((Int.toNat (IntKind.wrap .i64 (i_4 - 1))) * 2)) 0) = some (Value.string s20) ∧
  V.sel (ByteArray.toList s18 == ByteArray.toList s20)
  (R (Ending.returned (Value.tuple #[(Value.int .i64 i_4), (Value.int .i64 33)])) (World.drew w16))
  (V.sel (decide (i_4 > 0))
  (V.when (decide ((0 : Int) ≤ i_4 ∧ (i_4 : Int) < ((list_1l : Nat) : Int))) (V.ptr list_1 fun a21 =>
  ∃ s22, World.cell? (World.drew w16) (Addr.add (Addr.add a21 ((Int.toNat i_4) * 2)) 0) = some (Value.string s22) ∧
  V.when (decide ((0 : Int) ≤ (IntKind.wrap .i64 (i_4 - 1)) ∧ ((IntKind.wrap .i64 (i_4 - 1)) : Int) < ((list_1l : Nat) : Int))) (V.ptr list_1 fun a23 =>
  ∃ s24, World.cell? (World.drew w16) (Addr.add (Addr.add a23 ((Int.toNat (IntKind.wrap .i64 (i_4 - 1))) * 2)) 0) = some (Value.string s24) ∧
  V.sel (Op.bytesLess (ByteArray.toList s22) (ByteArray.toList s24))
  (R (Ending.returned (Value.tuple #[(Value.int .i64 i_4), (Value.int .i64 36)])) (World.drew (World.drew w16)))
  (I2 (IntKind.wrap .i64 (i_4 + 1)) (World.drew (World.drew w16)) ∧ μ3 (IntKind.wrap .i64 (i_4 + 1)) (World.drew (World.drew w16)) < μ3 i_4 w6))))
  (I2 (IntKind.wrap .i64 (i_4 + 1)) (World.drew (World.drew w16)) ∧ μ3 (IntKind.wrap .i64 (i_4 + 1)) (World.drew (World.drew w16)) < μ3 i_4 w6)))))
  (V.sel (decide (i_4 > 0))
  (V.when (decide ((0 : Int) ≤ i_4 ∧ (i_4 : Int) < ((list_1l : Nat) : Int))) (V.ptr list_1 fun a25 =>
  ∃ s26, World.cell? (World.drew w16) (Addr.add (Addr.add a25 ((Int.toNat i_4) * 2)) 0) = some (Value.string s26) ∧
  V.when (decide ((0 : Int) ≤ (IntKind.wrap .i64 (i_4 - 1)) ∧ ((IntKind.wrap .i64 (i_4 - 1)) : Int) < ((list_1l : Nat) : Int))) (V.ptr list_1 fun a27 =>
  ∃ s28, World.cell? (World.drew w16) (Addr.add (Addr.add a27 ((Int.toNat (IntKind.wrap .i64 (i_4 - 1))) * 2)) 0) = some (Value.string s28) ∧
  V.sel (Op.bytesLess (ByteArray.toList s26) (ByteArray.toList s28))
  (R (Ending.returned (Value.tuple #[(Value.int .i64 i_4), (Value.int .i64 36)])) (World.drew (World.drew w16)))
  (I2 (IntKind.wrap .i64 (i_4 + 1)) (World.drew (World.drew w16)) ∧ μ3 (IntKind.wrap .i64 (i_4 + 1)) (World.drew (World.drew w16)) < μ3 i_4 w6))))
  (I2 (IntKind.wrap .i64 (i_4 + 1)) (World.drew (World.drew w16)) ∧ μ3 (IntKind.wrap .i64 (i_4 + 1)) (World.drew (World.drew w16)) < μ3 i_4 w6)))))))
  (R (Ending.returned (Value.tuple #[(Value.int .i64 0), (Value.int .i64 0)])) w6)))) :
  Calls Tryz.prog 59 #[(Value.slice list_1 list_1l list_1c)] w R :=
  V.calls_of_R ⟨V.assoc [(0, [4])], V.assocP [(12, V.line [0, 1, 2, 3, 4, 5, 6, 7, 8, 9, 10, 11, 12, 13, 14, 15, 16]), (14, V.line [0, 1, 2, 3, 4, 5, 6, 7, 8, 9, 10, 11, 12, 13, 14, 15, 16])], V.assocC [], V.assocS [], ⟨[], true⟩⟩ Tryz.func59 rfl (Eq.mp (by kernel_rfl) h)

theorem berthref03_without_nf (list_1 : Option Addr) (list_1l : Nat) (list_1c : Nat) (key_2 : ByteArray) (w : World) (R : Ending → World → Prop) (h :
  ∃ I3 : Option Addr → Nat → Nat → Int → World → Prop, ∃ μ4 : Option Addr → Nat → Nat → Int → World → Nat, I3 none 0 0 0 w ∧
  ∀ out_5 out_5l out_5c i_6 (j7 : Nat → Value) (w8 : World), I3 out_5 out_5l out_5c i_6 w8 →
  (V.sel (decide (i_6 < ((list_1l : Nat) : Int)))
  (V.when (decide ((0 : Int) ≤ i_6 ∧ (i_6 : Int) < ((list_1l : Nat) : Int))) (V.ptr list_1 fun a9 =>
  ∃ s10, World.cell? w8 (Addr.add (Addr.add a9 ((Int.toNat i_6) * 2)) 0) = some (Value.string s10) ∧
  V.sel (!(ByteArray.toList s10 == ByteArray.toList key_2))
  (V.when (decide ((0 : Int) ≤ i_6 ∧ (i_6 : Int) < ((list_1l : Nat) : Int))) (V.ptr list_1 fun a11 =>
  ∃ s12, ∃ s13, V.cellsC (fun a_ x_ => World.cell? w8 a_ = some x_) (Addr.add a11 ((Int.toNat i_6) * 2)) [(Value.string s12), (Value.string s13)] ∧
  ∀ w14, w14 = (World.alloc w8 (.cells #[(Value.string s12), (Value.string s13)] 40)) →
  ∃ A15, ∃ A15l, ∃ A15c, ∃ w16, Sem.run Tryz.prog (Builtin.append_ #[22, 22] 22 #[(Value.slice out_5 out_5l out_5c), (Value.slice (some ⟨Array.size (World.heap w8), 0, none⟩) 1 1)]) w14 = .ok (Value.slice A15 A15l A15c) w16 ∧
  I3 A15 A15l A15c (IntKind.wrap .i64 (i_6 + 1)) w16 ∧ μ4 A15 A15l A15c (IntKind.wrap .i64 (i_6 + 1)) w16 < μ4 out_5 out_5l out_5c i_6 w8))
  (I3 out_5 out_5l out_5c (IntKind.wrap .i64 (i_6 + 1)) w8 ∧ μ4 out_5 out_5l out_5c (IntKind.wrap .i64 (i_6 + 1)) w8 < μ4 out_5 out_5l out_5c i_6 w8)))
  (R (Ending.returned (Value.slice out_5 out_5l out_5c)) w8))) :
  Calls Tryz.prog 60 #[(Value.slice list_1 list_1l list_1c), (Value.string key_2)] w R :=
  V.calls_of_R ⟨V.assoc [(0, [5, 6])], V.assocP [], V.assocC [], V.assocS [], ⟨[], true⟩⟩ Tryz.func60 rfl (Eq.mp (by kernel_rfl) h)

end Go.Proofs.YtcohengppaighaaGreatDoor
