/- Normal forms of the program's functions, printed by a program of mine; the kernel checks each. -/
import Derived.Test.YtpipenkaaodlgaaGreatDoorProg
import Derived.Test.YtpipenkaaodlgaaGreatDoorV2
set_option linter.unusedVariables false
set_option maxRecDepth 100000
namespace Go.Proofs.YtpipenkaaodlgaaGreatDoor
open Go

theorem posting_Index_leave_nf (x_1 : Option Addr) (slot_2 : Int) (w : World) (R : Ending → World → Prop) (h :
  V.ptr x_1 fun a3 =>
  ∃ m4, World.cell? w (Addr.add a3 2) = some (Value.map m4) ∧
  ∃ A5, ∃ A5l, ∃ A5c, ∃ w6, Sem.run Tryz.prog (Instr.lookup 70 (Value.map m4) (Value.int .i64 slot_2) false) w = .ok (Value.slice A5 A5l A5c) w6 ∧
  ∃ I7 : Int → World → Prop, ∃ μ8 : Int → World → Nat, I7 0 w6 ∧
  ∀ t14_9 (j10 : Nat → Value) (w11 : World), I7 t14_9 w11 →
  (V.sel (decide (t14_9 < ((A5l : Nat) : Int)))
  (V.when (decide ((0 : Int) ≤ t14_9 ∧ (t14_9 : Int) < ((A5l : Nat) : Int))) (V.ptr A5 fun a12 =>
  ∃ s13, ∃ s14, V.cellsC (fun a_ x_ => World.cell? w11 a_ = some x_) (Addr.add a12 ((Int.toNat t14_9) * 2)) [(Value.string s13), (Value.string s14)] ∧
  ∀ w15, w15 = (World.alloc w11 (.cells #[(Value.string ByteArray.empty), (Value.string ByteArray.empty)] 33)) →
  ∃ w16, Sem.run Tryz.prog (Instr.storeAt 33 (Value.pointer (some ⟨Array.size (World.heap w11), 0, none⟩)) (Value.agg #[(Value.string s13), (Value.string s14)])) w15 = .ok () w16 ∧
  ∃ S17 : World → Prop, S17 (World.drew w16) ∧
  V.ptr x_1 fun a19 =>
  ∃ m20, (∀ w18, S17 w18 → World.cell? w18 (Addr.add a19 3) = some (Value.map m20)) ∧
  ∃ s21, (∀ w18, S17 w18 → World.cell? w18 (Addr.add ⟨Array.size (World.heap w11), 0, none⟩ 0) = some (Value.string s21)) ∧
  ∃ m22, ∃ w23, Sem.run Tryz.prog (Instr.lookup 71 (Value.map m20) (Value.string s21) false) (World.drew w16) = .ok (Value.map m22) w23 ∧
  S17 w23 ∧
  ∃ s24, World.cell? w23 (Addr.add ⟨Array.size (World.heap w11), 0, none⟩ 1) = some (Value.string s24) ∧
  ∃ p25, ∃ w26, Sem.run Tryz.prog (Instr.lookup 92 (Value.map m22) (Value.string s24) false) w23 = .ok (Value.pointer p25) w26 ∧
  Calls Tryz.prog 44 #[(Value.pointer p25), (Value.int .i64 slot_2)] w26 fun e28 w29 =>
  ∃ b27, e28 = Ending.returned (Value.bool b27) ∧
  ∃ J30 : World → Prop, (∃ s31, World.cell? w29 (Addr.add ⟨Array.size (World.heap w11), 0, none⟩ 1) = some (Value.string s31) ∧
  ∃ p32, ∃ w33, Sem.run Tryz.prog (Instr.lookup 92 (Value.map m22) (Value.string s31) false) w29 = .ok (Value.pointer p32) w33 ∧
  Calls Tryz.prog 46 #[(Value.pointer p32)] w33 fun e35 w36 =>
  ∃ n34, e35 = Ending.returned (Value.int .i64 n34) ∧
  V.sel (n34 == 0)
  (∃ s37, World.cell? w36 (Addr.add ⟨Array.size (World.heap w11), 0, none⟩ 1) = some (Value.string s37) ∧
  ∃ w38, Sem.run Tryz.prog (Builtin.delete_ #[92, 9] 0 #[(Value.map m22), (Value.string s37)]) w36 = .ok undef w38 ∧
  J30  w38)
  (J30  w36)) ∧
  ∀ (j39 : Nat → Value) (w40 : World), J30  w40 →
  ∃ n41, ∃ w42, Sem.run Tryz.prog (Builtin.len_ #[92] 3 #[(Value.map m22)]) w40 = .ok (Value.int .i64 n41) w42 ∧
  V.sel (n41 == 0)
  (∃ S43 : World → Prop, S43 (World.drew w42) ∧
  V.ptr x_1 fun a45 =>
  ∃ m46, (∀ w44, S43 w44 → World.cell? w44 (Addr.add a45 3) = some (Value.map m46)) ∧
  ∃ s47, (∀ w44, S43 w44 → World.cell? w44 (Addr.add ⟨Array.size (World.heap w11), 0, none⟩ 0) = some (Value.string s47)) ∧
  ∃ w48, Sem.run Tryz.prog (Builtin.delete_ #[71, 9] 0 #[(Value.map m46), (Value.string s47)]) (World.drew w42) = .ok undef w48 ∧
  S43 w48 ∧
  I7 (IntKind.wrap .i64 (t14_9 + 1)) w48 ∧ μ8 (IntKind.wrap .i64 (t14_9 + 1)) w48 < μ8 t14_9 w11)
  (I7 (IntKind.wrap .i64 (t14_9 + 1)) w42 ∧ μ8 (IntKind.wrap .i64 (t14_9 + 1)) w42 < μ8 t14_9 w11)))
  (V.ptr x_1 fun a49 =>
  ∃ m50, World.cell? w11 (Addr.add a49 2) = some (Value.map m50) ∧
  ∃ w51, Sem.run Tryz.prog (Builtin.delete_ #[70, 3] 0 #[(Value.map m50), (Value.int .i64 slot_2)]) w11 = .ok undef w51 ∧
  R (Ending.returned undef) w51))) :
  Calls Tryz.prog 31 #[(Value.pointer x_1), (Value.int .i64 slot_2)] w R :=
  V.calls_of_R ⟨V.assoc [(0, [14])], V.assocP [(3, V.line [0, 1, 2, 3, 4, 5, 6, 7]), (8, V.line [0, 1, 2, 3, 4, 5, 6])], V.assocC [(1000008, ([], []))], V.assocS [], ⟨[], true⟩⟩ Tryz.func31 rfl (Eq.mp (by kernel_rfl) h)

theorem berthref07_place_nf (x_1 : Int) (x_2 : Option Addr) (x_2l : Nat) (x_2c : Nat) (slot_3 : Int) (w : World) (R : Ending → World → Prop) (h :
  ∀ w4, w4 = (World.alloc w (.cells #[(Value.int .i64 x_1), (Value.slice x_2 x_2l x_2c)] 37)) →
  ∃ A5, ∃ A5l, ∃ A5c, World.cell? w4 (Addr.add ⟨Array.size (World.heap w), 0, none⟩ 1) = some (Value.slice A5 A5l A5c) ∧
  ∃ I6 : Int → Int → World → Prop, ∃ μ7 : Int → Int → World → Nat, I6 0 ((A5l : Nat) : Int) (World.drew w4) ∧
  ∀ lo_8 hi_9 (j10 : Nat → Value) (w11 : World), I6 lo_8 hi_9 w11 →
  (V.sel (decide (lo_8 < hi_9))
  (V.lt (IntKind.wrap .i64 (Int.tdiv (IntKind.wrap .i64 (lo_8 + hi_9)) 2)) fun x12 =>
  ∃ A13, ∃ A13l, ∃ A13c, World.cell? w11 (Addr.add ⟨Array.size (World.heap w), 0, none⟩ 1) = some (Value.slice A13 A13l A13c) ∧
  V.when (decide ((0 : Int) ≤ x12 ∧ (x12 : Int) < ((A13l : Nat) : Int))) (V.ptr A13 fun a14 =>
  ∃ n15, World.cell? w11 (Addr.add (Addr.add a14 ((Int.toNat x12) * 2)) 0) = some (Value.int .i64 n15) ∧
  V.sel (decide (n15 < slot_3))
  (I6 (IntKind.wrap .i64 (x12 + 1)) hi_9 w11 ∧ μ7 (IntKind.wrap .i64 (x12 + 1)) hi_9 w11 < μ7 lo_8 hi_9 w11)
  (I6 lo_8 x12 w11 ∧ μ7 lo_8 x12 w11 < μ7 lo_8 hi_9 w11)))
  (∃ A16, ∃ A16l, ∃ A16c, World.cell? w11 (Addr.add ⟨Array.size (World.heap w), 0, none⟩ 1) = some (Value.slice A16 A16l A16c) ∧
  V.sel (decide (lo_8 < ((A16l : Nat) : Int)))
  (∃ A17, ∃ A17l, ∃ A17c, World.cell? w11 (Addr.add ⟨Array.size (World.heap w), 0, none⟩ 1) = some (Value.slice A17 A17l A17c) ∧
  V.when (decide ((0 : Int) ≤ lo_8 ∧ (lo_8 : Int) < ((A17l : Nat) : Int))) (V.ptr A17 fun a18 =>
  ∃ n19, World.cell? w11 (Addr.add (Addr.add a18 ((Int.toNat lo_8) * 2)) 0) = some (Value.int .i64 n19) ∧
  R (Ending.returned (Value.tuple #[(Value.int .i64 lo_8), (Value.bool (n19 == slot_3))])) (World.drew w11)))
  (R (Ending.returned (Value.tuple #[(Value.int .i64 lo_8), (Value.bool false)])) (World.drew w11))))) :
  Calls Tryz.prog 32 #[(Value.agg #[(Value.int .i64 x_1), (Value.slice x_2 x_2l x_2c)]), (Value.int .i64 slot_3)] w R :=
  V.calls_of_R ⟨V.assoc [(0, [6, 7])], V.assocP [(1, V.line [0, 1, 2, 3, 4]), (7, V.line [0, 1, 2, 3, 4, 5, 6, 7, 8, 9, 10, 11, 12, 13, 14, 15, 16, 17])], V.assocC [], V.assocS [], ⟨[], true⟩⟩ Tryz.func32 rfl (Eq.mp (by kernel_rfl) h)

theorem berthref03_Check_nf (list_1 : Option Addr) (list_1l : Nat) (list_1c : Nat) (w : World) (R : Ending → World → Prop) (h :
  V.sel (decide (((list_1l : Nat) : Int) > 32))
  (R (Ending.returned (Value.tuple #[(Value.int .i64 32), (Value.int .i64 34)])) w)
  (∃ I2 : Int → World → Prop, ∃ μ3 : Int → World → Nat, I2 0 w ∧
  ∀ i_4 (j5 : Nat → Value) (w6 : World), I2 i_4 w6 →
  (V.sel (decide (i_4 < ((list_1l : Nat) : Int)))
  (V.when (decide ((0 : Int) ≤ i_4 ∧ (i_4 : Int) < ((list_1l : Nat) : Int))) (V.ptr list_1 fun a7 =>
  ∃ s8, World.cell? w6 (Addr.add (Addr.add a7 ((Int.toNat i_4) * 2)) 0) = some (Value.string s8) ∧
  Calls Tryz.prog 57 #[(Value.string s8)] w6 fun e10 w11 =>
  ∃ b9, e10 = Ending.returned (Value.bool b9) ∧
  V.when (decide ((0 : Int) ≤ i_4 ∧ (i_4 : Int) < ((list_1l : Nat) : Int))) (V.ptr list_1 fun a12 =>
  ∃ s13, World.cell? w11 (Addr.add (Addr.add a12 ((Int.toNat i_4) * 2)) 1) = some (Value.string s13) ∧
  Calls Tryz.prog 58 #[(Value.string s13)] w11 fun e15 w16 =>
  ∃ b14, e15 = Ending.returned (Value.bool b14) ∧
  V.sel (!b9)
  (R (Ending.returned (Value.tuple #[(Value.int .i64 i_4), (Value.int .i64 31)])) w16)
  (V.sel (!b14)
  (R (Ending.returned (Value.tuple #[(Value.int .i64 i_4), (Value.int .i64 32)])) w16)
  (V.sel (decide (i_4 > 0))
  (V.when (decide ((0 : Int) ≤ i_4 ∧ (i_4 : Int) < ((list_1l : Nat) : Int))) (V.ptr list_1 fun a17 =>
  ∃ s18, World.cell? w16 (Addr.add (Addr.add a17 ((Int.toNat i_4) * 2)) 0) = some (Value.string s18) ∧
  V.when (decide ((0 : Int) ≤ (IntKind.wrap .i64 (i_4 - 1)) ∧ ((IntKind.wrap .i64 (i_4 - 1)) : Int) < ((list_1l : Nat) : Int))) (V.ptr list_1 fun a19 =>
  ∃ s20, World.cell? w16 (Addr.add (Addr.add a19 ((Int.toNat (IntKind.wrap .i64 (i_4 - 1))) * 2)) 0) = some (Value.string s20) ∧
  V.sel (ByteArray.toList s18 == ByteArray.toList s20)
  (R (Ending.returned (Value.tuple #[(Value.int .i64 i_4), (Value.int .i64 33)])) (World.drew w16))
  (V.sel (decide (i_4 > 0))
  (V.when (decide ((0 : Int) ≤ i_4 ∧ (i_4 : Int) < ((list_1l : Nat) : Int))) (V.ptr list_1 fun a21 =>
  ∃ s22, World.cell? (World.drew w16) (Addr.add (Addr.add a21 ((Int.toNat i_4) * 2)) 0) = some (Value.string s22) ∧
  V.when (decide ((0 : Int) ≤ (IntKind.wrap .i64 (i_4 - 1)) ∧ ((IntKind.wrap .i64 (i_4 - 1)) : Int) < ((list_1l : Nat) : Int))) (V.ptr list_1 fun a23 =>
  ∃ s24, World.cell? (World.drew w16) (Addr.add (Addr.add a23 ((Int.toNat (IntKind.wrap .i64 (i_4 - 1))) * 2)) 0) = some (Value.string s24) ∧
  V.sel (Op.bytesLess (ByteArray.toList s22) (ByteArray.toList s24))
  (R (Ending.returned (Value.tuple #[(Value.int .i64 i_4), (Value.int .i64 36)])) (World.drew (World.drew w16)))
  (I2 (IntKind.wrap .i64 (i_4 + 1)) (World.drew (World.drew w16)) ∧ μ3 (IntKind.wrap .i64 (i_4 + 1)) (World.drew (World.drew w16)) < μ3 i_4 w6))))
  (I2 (IntKind.wrap .i64 (i_4 + 1)) (World.drew (World.drew w16)) ∧ μ3 (IntKind.wrap .i64 (i_4 + 1)) (World.drew (World.drew w16)) < μ3 i_4 w6)))))
  (V.sel (decide (i_4 > 0))
  (V.when (decide ((0 : Int) ≤ i_4 ∧ (i_4 : Int) < ((list_1l : Nat) : Int))) (V.ptr list_1 fun a25 =>
  ∃ s26, World.cell? (World.drew w16) (Addr.add (Addr.add a25 ((Int.toNat i_4) * 2)) 0) = some (Value.string s26) ∧
  V.when (decide ((0 : Int) ≤ (IntKind.wrap .i64 (i_4 - 1)) ∧ ((IntKind.wrap .i64 (i_4 - 1)) : Int) < ((list_1l : Nat) : Int))) (V.ptr list_1 fun a27 =>
  ∃ s28, World.cell? (World.drew w16) (Addr.add (Addr.add a27 ((Int.toNat (IntKind.wrap .i64 (i_4 - 1))) * 2)) 0) = some (Value.string s28) ∧
  V.sel (Op.bytesLess (ByteArray.toList s26) (ByteArray.toList s28))
  (R (Ending.returned (Value.tuple #[(Value.int .i64 i_4), (Value.int .i64 36)])) (World.drew (World.drew w16)))
  (I2 (IntKind.wrap .i64 (i_4 + 1)) (World.drew (World.drew w16)) ∧ μ3 (IntKind.wrap .i64 (i_4 + 1)) (World.drew (World.drew w16)) < μ3 i_4 w6))))
  (I2 (IntKind.wrap .i64 (i_4 + 1)) (World.drew (World.drew w16)) ∧ μ3 (IntKind.wrap .i64 (i_4 + 1)) (World.drew (World.drew w16)) < μ3 i_4 w6)))))))
  (R (Ending.returned (Value.tuple #[(Value.int .i64 0), (Value.int .i64 0)])) w6)))) :
  Calls Tryz.prog 33 #[(Value.slice list_1 list_1l list_1c)] w R :=
  V.calls_of_R ⟨V.assoc [(0, [4])], V.assocP [(12, V.line [0, 1, 2, 3, 4, 5, 6, 7, 8, 9, 10, 11, 12, 13, 14, 15, 16]), (14, V.line [0, 1, 2, 3, 4, 5, 6, 7, 8, 9, 10, 11, 12, 13, 14, 15, 16])], V.assocC [], V.assocS [], ⟨[], true⟩⟩ Tryz.func33 rfl (Eq.mp (by kernel_rfl) h)

theorem berthref07_with_nf (x_1 : Int) (x_2 : Option Addr) (x_2l : Nat) (x_2c : Nat) (k_3 : Int) (n_4 : Int) (more_5 : Option Addr) (more_5l : Nat) (more_5c : Nat) (w : World) (R : Ending → World → Prop) (h :
  ∀ w6, w6 = (World.alloc w (.cells #[(Value.int .i64 x_1), (Value.slice x_2 x_2l x_2c)] 37)) →
  ∀ w7, w7 = (World.alloc w6 (.cells #[(Value.int .i64 0), (Value.slice none 0 0)] 37)) →
  ∀ w8, w8 = (World.alloc w7 (.cells #[] 84)) →
  ∃ A9, ∃ A9l, ∃ A9c, World.cell? w8 (Addr.add ⟨Array.size (World.heap w), 0, none⟩ 1) = some (Value.slice A9 A9l A9c) ∧
  V.when (decide ((0 : Int) ≤ k_3 ∧ (k_3 : Int) ≤ ((A9c : Nat) : Int))) (∃ A10, ∃ A10l, ∃ A10c, ∃ w11, Sem.run Tryz.prog (Builtin.append_ #[35, 35] 35 #[(Value.slice (some ⟨Array.size (World.heap w7), 0, none⟩) 0 0), (Value.slice (V.cut A9 A9c 0 2) ((Int.toNat k_3) - 0) (A9c - 0))]) w8 = .ok (Value.slice A10 A10l A10c) w11 ∧
  ∃ A12, ∃ A12l, ∃ A12c, ∃ w13, Sem.run Tryz.prog (Builtin.append_ #[35, 35] 35 #[(Value.slice A10 A10l A10c), (Value.slice more_5 more_5l more_5c)]) w11 = .ok (Value.slice A12 A12l A12c) w13 ∧
  ∃ A14, ∃ A14l, ∃ A14c, World.cell? w13 (Addr.add ⟨Array.size (World.heap w), 0, none⟩ 1) = some (Value.slice A14 A14l A14c) ∧
  V.when (decide ((0 : Int) ≤ (IntKind.wrap .i64 (k_3 + n_4)) ∧ ((IntKind.wrap .i64 (k_3 + n_4)) : Int) ≤ ((A14l : Nat) : Int))) (∃ A15, ∃ A15l, ∃ A15c, ∃ w16, Sem.run Tryz.prog (Builtin.append_ #[35, 35] 35 #[(Value.slice A12 A12l A12c), (Value.slice (V.cut A14 A14c (Int.toNat (IntKind.wrap .i64 (k_3 + n_4))) 2) (A14l - (Int.toNat (IntKind.wrap .i64 (k_3 + n_4)))) (A14c - (Int.toNat (IntKind.wrap .i64 (k_3 + n_4)))))]) w13 = .ok (Value.slice A15 A15l A15c) w16 ∧
  ∃ n17, World.cell? w16 (Addr.add ⟨Array.size (World.heap w), 0, none⟩ 0) = some (Value.int .i64 n17) ∧
  ∃ w18, Sem.run Tryz.prog (Instr.storeAt 37 (Value.pointer (some ⟨Array.size (World.heap w6), 0, none⟩)) (Value.agg #[(Value.int .i64 n17), (Value.slice A15 A15l A15c)])) w16 = .ok () w18 ∧
  ∃ n19, ∃ A20, ∃ A20l, ∃ A20c, V.cellsC (fun a_ x_ => World.cell? w18 a_ = some x_) ⟨Array.size (World.heap w6), 0, none⟩ [(Value.int .i64 n19), (Value.slice A20 A20l A20c)] ∧
  R (Ending.returned (Value.agg #[(Value.int .i64 n19), (Value.slice A20 A20l A20c)])) w18))) :
  Calls Tryz.prog 34 #[(Value.agg #[(Value.int .i64 x_1), (Value.slice x_2 x_2l x_2c)]), (Value.int .i64 k_3), (Value.int .i64 n_4), (Value.slice more_5 more_5l more_5c)] w R :=
  V.calls_of_R ⟨V.assoc [], V.assocP [], V.assocC [], V.assocS [], ⟨[], true⟩⟩ Tryz.func34 rfl (Eq.mp (by kernel_rfl) h)

theorem posting_Index_Live_nf (x_1 : Option Addr) (w : World) (R : Ending → World → Prop) (h :
  V.sel (Option.isNone x_1)
  (Calls Tryz.prog 52 #[(Value.pointer x_1)] w fun e3 w4 =>
  ∃ p2, e3 = Ending.returned (Value.pointer p2) ∧
  R (Ending.returned (Value.pointer p2)) w4)
  (V.ptr x_1 fun a5 =>
  ∃ p6, World.cell? w (Addr.add a5 1) = some (Value.pointer p6) ∧
  Calls Tryz.prog 61 #[(Value.pointer p6)] w fun e8 w9 =>
  ∃ p7, e8 = Ending.returned (Value.pointer p7) ∧
  R (Ending.returned (Value.pointer p7)) w9)) :
  Calls Tryz.prog 36 #[(Value.pointer x_1)] w R :=
  V.calls_of_R ⟨V.assoc [], V.assocP [], V.assocC [], V.assocS [], ⟨[], true⟩⟩ Tryz.func36 rfl (Eq.mp (by kernel_rfl) h)

theorem bitset_Set_All_nf (s_1 : Option Addr) (w : World) (R : Ending → World → Prop) (h :
  Calls Tryz.prog 43 #[(Value.pointer s_1)] w fun e3 w4 =>
  ∃ A2, ∃ A2l, ∃ A2c, e3 = Ending.returned (Value.slice A2 A2l A2c) ∧
  ∀ w5, w5 = (World.alloc w4 (.cells #[(Value.slice none 0 0)] 66)) →
  ∃ w6, Sem.run Tryz.prog (Instr.storeAt 66 (Value.pointer (some ⟨Array.size (World.heap w4), 0, none⟩)) (Value.slice A2 A2l A2c)) w5 = .ok () w6 ∧
  R (Ending.returned (Value.func (.func 62) #[] #[(Value.pointer (some ⟨Array.size (World.heap w4), 0, none⟩))])) w6) :
  Calls Tryz.prog 37 #[(Value.pointer s_1)] w R :=
  V.calls_of_R ⟨V.assoc [], V.assocP [], V.assocC [], V.assocS [], ⟨[], true⟩⟩ Tryz.func37 rfl (Eq.mp (by kernel_rfl) h)

theorem slices_Equal___api_Label_api_Label__nf (s1_1 : Option Addr) (s1_1l : Nat) (s1_1c : Nat) (s2_2 : Option Addr) (s2_2l : Nat) (s2_2c : Nat) (w : World) (R : Ending → World → Prop) (h :
  V.sel (((s1_1l : Nat) : Int) != ((s2_2l : Nat) : Int))
  (R (Ending.returned (Value.bool false)) w)
  (∃ I3 : Int → World → Prop, ∃ μ4 : Int → World → Nat, I3 0 w ∧
  ∀ t13_5 (j6 : Nat → Value) (w7 : World), I3 t13_5 w7 →
  (V.sel (decide (t13_5 < ((s1_1l : Nat) : Int)))
  (V.when (decide ((0 : Int) ≤ t13_5 ∧ (t13_5 : Int) < ((s1_1l : Nat) : Int))) (V.ptr s1_1 fun a8 =>
  ∃ s9, ∃ s10, V.cellsC (fun a_ x_ => World.cell? w7 a_ = some x_) (Addr.add a8 ((Int.toNat t13_5) * 2)) [(Value.string s9), (Value.string s10)] ∧
  V.when (decide ((0 : Int) ≤ t13_5 ∧ (t13_5 : Int) < ((s2_2l : Nat) : Int))) (V.ptr s2_2 fun a11 =>
  ∃ s12, ∃ s13, V.cellsC (fun a_ x_ => World.cell? w7 a_ = some x_) (Addr.add a11 ((Int.toNat t13_5) * 2)) [(Value.string s12), (Value.string s13)] ∧
  V.sel (!((ByteArray.toList s9 == ByteArray.toList s12) && ((ByteArray.toList s10 == ByteArray.toList s13) && true)))
  (R (Ending.returned (Value.bool false)) (World.drew w7))
  (I3 (IntKind.wrap .i64 (t13_5 + 1)) (World.drew w7) ∧ μ4 (IntKind.wrap .i64 (t13_5 + 1)) (World.drew w7) < μ4 t13_5 w7))))
  (R (Ending.returned (Value.bool true)) w7)))) :
  Calls Tryz.prog 38 #[(Value.slice s1_1 s1_1l s1_1c), (Value.slice s2_2 s2_2l s2_2c)] w R :=
  V.calls_of_R ⟨V.assoc [(0, [13])], V.assocP [(6, V.line [0, 1, 2, 3, 4, 5, 6, 7, 8])], V.assocC [], V.assocS [], ⟨[], true⟩⟩ Tryz.func38 rfl (Eq.mp (by kernel_rfl) h)

theorem posting_Index_values_nf (x_1 : Option Addr) (key_2 : ByteArray) (w : World) (R : Ending → World → Prop) (h :
  V.sel (Option.isNone x_1)
  (R (Ending.returned (Value.map none)) w)
  (V.ptr x_1 fun a3 =>
  ∃ m4, World.cell? w (Addr.add a3 3) = some (Value.map m4) ∧
  ∃ m5, ∃ w6, Sem.run Tryz.prog (Instr.lookup 71 (Value.map m4) (Value.string key_2) false) w = .ok (Value.map m5) w6 ∧
  R (Ending.returned (Value.map m5)) w6)) :
  Calls Tryz.prog 40 #[(Value.pointer x_1), (Value.string key_2)] w R :=
  V.calls_of_R ⟨V.assoc [], V.assocP [], V.assocC [], V.assocS [], ⟨[], true⟩⟩ Tryz.func40 rfl (Eq.mp (by kernel_rfl) h)

theorem posting_Index_In_nf (x_1 : Option Addr) (key_2 : ByteArray) (values_3 : Option Addr) (values_3l : Nat) (values_3c : Nat) (w : World) (R : Ending → World → Prop) (h :
  Calls Tryz.prog 52 #[(Value.pointer x_1)] w fun e5 w6 =>
  ∃ p4, e5 = Ending.returned (Value.pointer p4) ∧
  ∃ I7 : Int → World → Prop, ∃ μ8 : Int → World → Nat, I7 0 w6 ∧
  ∀ t14_9 (j10 : Nat → Value) (w11 : World), I7 t14_9 w11 →
  (V.sel (decide (t14_9 < ((values_3l : Nat) : Int)))
  (V.when (decide ((0 : Int) ≤ t14_9 ∧ (t14_9 : Int) < ((values_3l : Nat) : Int))) (V.ptr values_3 fun a12 =>
  ∃ s13, World.cell? w11 (Addr.add a12 ((Int.toNat t14_9) * 1)) = some (Value.string s13) ∧
  Calls Tryz.prog 40 #[(Value.pointer x_1), (Value.string key_2)] w11 fun e15 w16 =>
  ∃ m14, e15 = Ending.returned (Value.map m14) ∧
  ∃ p17, ∃ w18, Sem.run Tryz.prog (Instr.lookup 92 (Value.map m14) (Value.string s13) false) w16 = .ok (Value.pointer p17) w18 ∧
  Calls Tryz.prog 53 #[(Value.pointer p4), (Value.pointer p17)] w18 fun e19 w20 =>
  e19 = Ending.returned undef ∧
  I7 (IntKind.wrap .i64 (t14_9 + 1)) w20 ∧ μ8 (IntKind.wrap .i64 (t14_9 + 1)) w20 < μ8 t14_9 w11))
  (R (Ending.returned (Value.pointer p4)) w11))) :
  Calls Tryz.prog 41 #[(Value.pointer x_1), (Value.string key_2), (Value.slice values_3 values_3l values_3c)] w R :=
  V.calls_of_R ⟨V.assoc [(0, [14])], V.assocP [], V.assocC [], V.assocS [], ⟨[], true⟩⟩ Tryz.func41 rfl (Eq.mp (by kernel_rfl) h)

theorem posting_Index_Has_nf (x_1 : Option Addr) (key_2 : ByteArray) (w : World) (R : Ending → World → Prop) (h :
  Calls Tryz.prog 52 #[(Value.pointer x_1)] w fun e4 w5 =>
  ∃ p3, e4 = Ending.returned (Value.pointer p3) ∧
  Calls Tryz.prog 40 #[(Value.pointer x_1), (Value.string key_2)] w5 fun e7 w8 =>
  ∃ m6, e7 = Ending.returned (Value.map m6) ∧
  ∃ p9, ∃ w10, Sem.run Tryz.prog (Instr.range 92 (Value.map m6)) w8 = .ok (Value.pointer p9) w10 ∧
  ∃ I11 : World → Prop, ∃ μ12 : World → Nat, I11 w10 ∧
  ∀ (j13 : Nat → Value) (w14 : World), I11 w14 →
  ((∃ w15, Sem.run Tryz.prog (Instr.next (Value.pointer p9) false 0) w14 = .ok (.tuple #[.bool false]) w15 ∧
  R (Ending.returned (Value.pointer p3)) w15) ∨
  (∃ k16, ∃ v17, ∃ w18, Sem.run Tryz.prog (Instr.next (Value.pointer p9) false 0) w14 = .ok (.tuple #[.bool true, k16, v17]) w18 ∧
  ∃ k19, ∃ v20, ∃ w21, Sem.run Tryz.prog (Instr.entry (Value.pointer p9)) w18 = .ok (.tuple #[.string k19, v20]) w21 ∧
  Calls Tryz.prog 53 #[(Value.pointer p3), v20] w21 fun e22 w23 =>
  e22 = Ending.returned undef ∧
  I11 w23 ∧ μ12 w23 < μ12 w14))) :
  Calls Tryz.prog 42 #[(Value.pointer x_1), (Value.string key_2)] w R :=
  V.calls_of_R ⟨V.assoc [(0, [])], V.assocP [], V.assocC [], V.assocS [], ⟨[], true⟩⟩ Tryz.func42 rfl (Eq.mp (by kernel_rfl) h)

theorem berthref01_SameInts_nf (a_1 : Option Addr) (a_1l : Nat) (a_1c : Nat) (b_2 : Option Addr) (b_2l : Nat) (b_2c : Nat) (w : World) (R : Ending → World → Prop) (h :
  V.sel (((a_1l : Nat) : Int) != ((b_2l : Nat) : Int))
  (R (Ending.returned (Value.bool false)) w)
  (∃ I3 : Int → World → Prop, ∃ μ4 : Int → World → Nat, I3 0 w ∧
  ∀ i_5 (j6 : Nat → Value) (w7 : World), I3 i_5 w7 →
  (V.sel (decide (i_5 < ((a_1l : Nat) : Int)))
  (V.when (decide ((0 : Int) ≤ i_5 ∧ (i_5 : Int) < ((a_1l : Nat) : Int))) (V.ptr a_1 fun a8 =>
  ∃ n9, World.cell? w7 (Addr.add a8 ((Int.toNat i_5) * 1)) = some (Value.int .i64 n9) ∧
  V.when (decide ((0 : Int) ≤ i_5 ∧ (i_5 : Int) < ((b_2l : Nat) : Int))) (V.ptr b_2 fun a10 =>
  ∃ n11, World.cell? w7 (Addr.add a10 ((Int.toNat i_5) * 1)) = some (Value.int .i64 n11) ∧
  V.sel (n9 != n11)
  (R (Ending.returned (Value.bool false)) (World.drew w7))
  (I3 (IntKind.wrap .i64 (i_5 + 1)) (World.drew w7) ∧ μ4 (IntKind.wrap .i64 (i_5 + 1)) (World.drew w7) < μ4 i_5 w7))))
  (R (Ending.returned (Value.bool true)) w7)))) :
  Calls Tryz.prog 45 #[(Value.slice a_1 a_1l a_1c), (Value.slice b_2 b_2l b_2c)] w R :=
  V.calls_of_R ⟨V.assoc [(0, [5])], V.assocP [(6, V.line [0, 1, 2, 3, 4, 5, 6, 7, 8])], V.assocC [], V.assocS [], ⟨[], true⟩⟩ Tryz.func45 rfl (Eq.mp (by kernel_rfl) h)

theorem berthref07_New_nf (size_1 : Int) (w : World) (R : Ending → World → Prop) (h :
  ∀ w2, w2 = (World.alloc w (.cells #[(Value.int .i64 0), (Value.slice none 0 0)] 37)) →
  ∃ J3 : Bool → World → Prop, (V.sel (decide (size_1 < 0))
  (J3 true w2)
  (J3 (decide (size_1 > 65536)) w2)) ∧
  ∀ t9_4 (j5 : Nat → Value) (w6 : World), J3 t9_4 w6 →
  V.sel t9_4
  (∃ w7, Sem.run Tryz.prog (Instr.storeAt 37 (Value.pointer (some ⟨Array.size (World.heap w), 0, none⟩)) (Value.agg #[(Value.int .i64 0), (Value.slice none 0 0)])) w6 = .ok () w7 ∧
  ∃ n8, ∃ A9, ∃ A9l, ∃ A9c, V.cellsC (fun a_ x_ => World.cell? w7 a_ = some x_) ⟨Array.size (World.heap w), 0, none⟩ [(Value.int .i64 n8), (Value.slice A9 A9l A9c)] ∧
  R (Ending.returned (Value.tuple #[(Value.agg #[(Value.int .i64 n8), (Value.slice A9 A9l A9c)]), (Value.int .i64 11)])) w7)
  (∃ w10, Sem.run Tryz.prog (Instr.storeAt 37 (Value.pointer (some ⟨Array.size (World.heap w), 0, none⟩)) (Value.agg #[(Value.int .i64 size_1), (Value.slice none 0 0)])) w6 = .ok () w10 ∧
  ∃ n11, ∃ A12, ∃ A12l, ∃ A12c, V.cellsC (fun a_ x_ => World.cell? w10 a_ = some x_) ⟨Array.size (World.heap w), 0, none⟩ [(Value.int .i64 n11), (Value.slice A12 A12l A12c)] ∧
  R (Ending.returned (Value.tuple #[(Value.agg #[(Value.int .i64 n11), (Value.slice A12 A12l A12c)]), (Value.int .i64 0)])) w10)) :
  Calls Tryz.prog 47 #[(Value.int .i64 size_1)] w R :=
  V.calls_of_R ⟨V.assoc [], V.assocP [], V.assocC [(1000003, ([9], [V.Sh.one .bool]))], V.assocS [], ⟨[], true⟩⟩ Tryz.func47 rfl (Eq.mp (by kernel_rfl) h)

theorem berthlaw07_Pair_changing_nf (g_1 : Option Addr) (o_2 : Int) (o_3 : Int) (o_4 : Int) (o_5 : Option Addr) (o_5l : Nat) (o_5c : Nat) (o_6 : ByteArray) (o_7 : ByteArray) (o_8 : Option Addr) (o_8l : Nat) (o_8c : Nat) (w : World) (R : Ending → World → Prop) (h :
  ∀ w9, w9 = (World.alloc w (.cells #[(Value.int .i64 o_2), (Value.int .i64 o_3), (Value.int .i64 o_4), (Value.slice o_5 o_5l o_5c), (Value.string o_6), (Value.string o_7), (Value.slice o_8 o_8l o_8c)] 25)) →
  ∃ n10, World.cell? w9 (Addr.add ⟨Array.size (World.heap w), 0, none⟩ 1) = some (Value.int .i64 n10) ∧
  V.lt (IntKind.wrap .i64 ((BitVec.toNat (BitVec.ofInt 64 n10 &&& BitVec.ofInt 64 1) : Nat) : Int)) fun x11 =>
  ∀ w12, w12 = (World.alloc w9 (.cells #[(Value.int .i64 0), (Value.slice none 0 0)] 37)) →
  ∃ J13 : Int → Int → World → Prop, (∃ n14, World.cell? w12 (Addr.add ⟨Array.size (World.heap w), 0, none⟩ 0) = some (Value.int .i64 n14) ∧
  V.sel (n14 == 2)
  (∃ S15 : World → Prop, S15 (World.drew w12) ∧
  V.ptr g_1 fun a17 =>
  V.when (decide ((0 : Int) ≤ x11 ∧ (x11 : Int) < 2)) (∃ p18, (∀ w16, S15 w16 → World.cell? w16 (Addr.add (Addr.add a17 0) ((Int.toNat x11) * 1)) = some (Value.pointer p18)) ∧
  ∃ n19, (∀ w16, S15 w16 → World.cell? w16 (Addr.add ⟨Array.size (World.heap w), 0, none⟩ 2) = some (Value.int .i64 n19)) ∧
  ∃ A20, ∃ A20l, ∃ A20c, (∀ w16, S15 w16 → World.cell? w16 (Addr.add ⟨Array.size (World.heap w), 0, none⟩ 3) = some (Value.slice A20 A20l A20c)) ∧
  Calls Tryz.prog 7 #[(Value.slice A20 A20l A20c)] (World.drew w12) fun e22 w23 =>
  ∃ A21, ∃ A21l, ∃ A21c, e22 = Ending.returned (Value.slice A21 A21l A21c) ∧
  S15 w23 ∧
  Calls Tryz.prog 8 #[(Value.pointer p18), (Value.int .i64 n19), (Value.slice A21 A21l A21c)] w23 fun e25 w26 =>
  ∃ n24, e25 = Ending.returned (Value.int .i64 n24) ∧
  S15 w26 ∧
  ∃ S27 : World → Prop, S27 (World.drew w26) ∧
  V.ptr g_1 fun a29 =>
  V.when (decide ((0 : Int) ≤ x11 ∧ (x11 : Int) < 2)) (∃ n30, ∃ A31, ∃ A31l, ∃ A31c, V.cellsC (fun a_ x_ => ∀ w28, S27 w28 → World.cell? w28 a_ = some x_) (Addr.add (Addr.add a29 2) ((Int.toNat x11) * 2)) [(Value.int .i64 n30), (Value.slice A31 A31l A31c)] ∧
  ∃ n32, (∀ w28, S27 w28 → World.cell? w28 (Addr.add ⟨Array.size (World.heap w), 0, none⟩ 2) = some (Value.int .i64 n32)) ∧
  ∃ A33, ∃ A33l, ∃ A33c, (∀ w28, S27 w28 → World.cell? w28 (Addr.add ⟨Array.size (World.heap w), 0, none⟩ 3) = some (Value.slice A33 A33l A33c)) ∧
  Calls Tryz.prog 10 #[(Value.agg #[(Value.int .i64 n30), (Value.slice A31 A31l A31c)]), (Value.int .i64 n32), (Value.slice A33 A33l A33c)] (World.drew w26) fun e37 w38 =>
  ∃ n34, ∃ A35, ∃ A35l, ∃ A35c, ∃ n36, e37 = Ending.returned (Value.tuple #[(Value.agg #[(Value.int .i64 n34), (Value.slice A35 A35l A35c)]), (Value.int .i64 n36)]) ∧
  S27 w38 ∧
  ∃ w39, Sem.run Tryz.prog (Instr.storeAt 37 (Value.pointer (some ⟨Array.size (World.heap w9), 0, none⟩)) (Value.agg #[(Value.int .i64 n34), (Value.slice A35 A35l A35c)])) w38 = .ok () w39 ∧
  S27 w39 ∧
  J13 n24 n36 w39)))
  (V.sel (n14 == 3)
  (∃ S40 : World → Prop, S40 (World.drew w12) ∧
  V.ptr g_1 fun a42 =>
  V.when (decide ((0 : Int) ≤ x11 ∧ (x11 : Int) < 2)) (∃ p43, (∀ w41, S40 w41 → World.cell? w41 (Addr.add (Addr.add a42 0) ((Int.toNat x11) * 1)) = some (Value.pointer p43)) ∧
  ∃ n44, (∀ w41, S40 w41 → World.cell? w41 (Addr.add ⟨Array.size (World.heap w), 0, none⟩ 2) = some (Value.int .i64 n44)) ∧
  ∃ A45, ∃ A45l, ∃ A45c, (∀ w41, S40 w41 → World.cell? w41 (Addr.add ⟨Array.size (World.heap w), 0, none⟩ 3) = some (Value.slice A45 A45l A45c)) ∧
  Calls Tryz.prog 7 #[(Value.slice A45 A45l A45c)] (World.drew w12) fun e47 w48 =>
  ∃ A46, ∃ A46l, ∃ A46c, e47 = Ending.returned (Value.slice A46 A46l A46c) ∧
  S40 w48 ∧
  Calls Tryz.prog 9 #[(Value.pointer p43), (Value.int .i64 n44), (Value.slice A46 A46l A46c)] w48 fun e50 w51 =>
  ∃ n49, e50 = Ending.returned (Value.int .i64 n49) ∧
  S40 w51 ∧
  ∃ S52 : World → Prop, S52 (World.drew w51) ∧
  V.ptr g_1 fun a54 =>
  V.when (decide ((0 : Int) ≤ x11 ∧ (x11 : Int) < 2)) (∃ n55, ∃ A56, ∃ A56l, ∃ A56c, V.cellsC (fun a_ x_ => ∀ w53, S52 w53 → World.cell? w53 a_ = some x_) (Addr.add (Addr.add a54 2) ((Int.toNat x11) * 2)) [(Value.int .i64 n55), (Value.slice A56 A56l A56c)] ∧
  ∃ n57, (∀ w53, S52 w53 → World.cell? w53 (Addr.add ⟨Array.size (World.heap w), 0, none⟩ 2) = some (Value.int .i64 n57)) ∧
  ∃ A58, ∃ A58l, ∃ A58c, (∀ w53, S52 w53 → World.cell? w53 (Addr.add ⟨Array.size (World.heap w), 0, none⟩ 3) = some (Value.slice A58 A58l A58c)) ∧
  Calls Tryz.prog 66 #[(Value.agg #[(Value.int .i64 n55), (Value.slice A56 A56l A56c)]), (Value.int .i64 n57), (Value.slice A58 A58l A58c)] (World.drew w51) fun e62 w63 =>
  ∃ n59, ∃ A60, ∃ A60l, ∃ A60c, ∃ n61, e62 = Ending.returned (Value.tuple #[(Value.agg #[(Value.int .i64 n59), (Value.slice A60 A60l A60c)]), (Value.int .i64 n61)]) ∧
  S52 w63 ∧
  ∃ w64, Sem.run Tryz.prog (Instr.storeAt 37 (Value.pointer (some ⟨Array.size (World.heap w9), 0, none⟩)) (Value.agg #[(Value.int .i64 n59), (Value.slice A60 A60l A60c)])) w63 = .ok () w64 ∧
  S52 w64 ∧
  J13 n49 n61 w64)))
  (∃ S65 : World → Prop, S65 (World.drew w12) ∧
  V.ptr g_1 fun a67 =>
  V.when (decide ((0 : Int) ≤ x11 ∧ (x11 : Int) < 2)) (∃ p68, (∀ w66, S65 w66 → World.cell? w66 (Addr.add (Addr.add a67 0) ((Int.toNat x11) * 1)) = some (Value.pointer p68)) ∧
  ∃ n69, (∀ w66, S65 w66 → World.cell? w66 (Addr.add ⟨Array.size (World.heap w), 0, none⟩ 2) = some (Value.int .i64 n69)) ∧
  Calls Tryz.prog 67 #[(Value.pointer p68), (Value.int .i64 n69)] (World.drew w12) fun e71 w72 =>
  ∃ n70, e71 = Ending.returned (Value.int .i64 n70) ∧
  S65 w72 ∧
  ∃ S73 : World → Prop, S73 (World.drew w72) ∧
  V.ptr g_1 fun a75 =>
  V.when (decide ((0 : Int) ≤ x11 ∧ (x11 : Int) < 2)) (∃ n76, ∃ A77, ∃ A77l, ∃ A77c, V.cellsC (fun a_ x_ => ∀ w74, S73 w74 → World.cell? w74 a_ = some x_) (Addr.add (Addr.add a75 2) ((Int.toNat x11) * 2)) [(Value.int .i64 n76), (Value.slice A77 A77l A77c)] ∧
  ∃ n78, (∀ w74, S73 w74 → World.cell? w74 (Addr.add ⟨Array.size (World.heap w), 0, none⟩ 2) = some (Value.int .i64 n78)) ∧
  Calls Tryz.prog 68 #[(Value.agg #[(Value.int .i64 n76), (Value.slice A77 A77l A77c)]), (Value.int .i64 n78)] (World.drew w72) fun e82 w83 =>
  ∃ n79, ∃ A80, ∃ A80l, ∃ A80c, ∃ n81, e82 = Ending.returned (Value.tuple #[(Value.agg #[(Value.int .i64 n79), (Value.slice A80 A80l A80c)]), (Value.int .i64 n81)]) ∧
  S73 w83 ∧
  ∃ w84, Sem.run Tryz.prog (Instr.storeAt 37 (Value.pointer (some ⟨Array.size (World.heap w9), 0, none⟩)) (Value.agg #[(Value.int .i64 n79), (Value.slice A80 A80l A80c)])) w83 = .ok () w84 ∧
  S73 w84 ∧
  J13 n70 n81 w84))))) ∧
  ∀ e_85 f_86 (j87 : Nat → Value) (w88 : World), J13 e_85 f_86 w88 →
  V.ptr g_1 fun a89 =>
  V.when (decide ((0 : Int) ≤ x11 ∧ (x11 : Int) < 2)) (∃ b90, World.cell? w88 (Addr.add (Addr.add a89 6) ((Int.toNat x11) * 1)) = some (Value.bool b90) ∧
  V.sel b90
  (Calls Tryz.prog 11 #[(Value.int .i64 e_85)] w88 fun e92 w93 =>
  ∃ n91, e92 = Ending.returned (Value.int .i64 n91) ∧
  R (Ending.returned (Value.bool (n91 == 1))) w93)
  (∃ S94 : World → Prop, S94 (World.drew w88) ∧
  ∃ n96, ∃ A97, ∃ A97l, ∃ A97c, V.cellsC (fun a_ x_ => ∀ w95, S94 w95 → World.cell? w95 a_ = some x_) ⟨Array.size (World.heap w9), 0, none⟩ [(Value.int .i64 n96), (Value.slice A97 A97l A97c)] ∧
  V.ptr g_1 fun a98 =>
  V.when (decide ((0 : Int) ≤ x11 ∧ (x11 : Int) < 2)) (∃ w99, Sem.run Tryz.prog (Instr.storeAt 37 (Value.pointer (some (Addr.add (Addr.add a98 2) ((Int.toNat x11) * 2)))) (Value.agg #[(Value.int .i64 n96), (Value.slice A97 A97l A97c)])) (World.drew w88) = .ok () w99 ∧
  S94 w99 ∧
  Calls Tryz.prog 11 #[(Value.int .i64 e_85)] w99 fun e101 w102 =>
  ∃ n100, e101 = Ending.returned (Value.int .i64 n100) ∧
  R (Ending.returned (Value.bool (n100 == f_86))) w102)))) :
  Calls Tryz.prog 48 #[(Value.pointer g_1), (Value.agg #[(Value.int .i64 o_2), (Value.int .i64 o_3), (Value.int .i64 o_4), (Value.slice o_5 o_5l o_5c), (Value.string o_6), (Value.string o_7), (Value.slice o_8 o_8l o_8c)])] w R :=
  V.calls_of_R ⟨V.assoc [], V.assocP [(9, V.line [0, 1, 2, 3, 4, 5, 6, 7, 8, 9, 10, 11, 12]), (10, V.line [0, 1, 2, 3, 4, 5, 6, 7, 8, 9, 10, 11, 12, 13, 14, 15]), (12, V.line [0, 1, 2, 3, 4, 5, 6, 7, 8, 9, 10, 11, 12]), (13, V.line [0, 1, 2, 3, 4, 5, 6, 7, 8, 9, 10, 11, 12, 13, 14, 15]), (6, V.line [0, 1, 2, 3, 4, 5, 6, 7, 8, 9]), (7, V.line [0, 1, 2, 3, 4, 5, 6, 7, 8, 9, 10, 11, 12, 13]), (16, V.line [0, 1, 2, 3, 4, 5, 6])], V.assocC [(1000015, ([6, 8], [V.Sh.one (.int .i64), V.Sh.one (.int .i64)]))], V.assocS [], ⟨[], true⟩⟩ Tryz.func48 rfl (Eq.mp (by kernel_rfl) h)

theorem berthlaw07_Pair_none_nf (g_1 : Option Addr) (o_2 : Int) (o_3 : Int) (o_4 : Int) (o_5 : Option Addr) (o_5l : Nat) (o_5c : Nat) (o_6 : ByteArray) (o_7 : ByteArray) (o_8 : Option Addr) (o_8l : Nat) (o_8c : Nat) (w : World) (R : Ending → World → Prop) (h :
  ∀ w9, w9 = (World.alloc w (.cells #[(Value.int .i64 o_2), (Value.int .i64 o_3), (Value.int .i64 o_4), (Value.slice o_5 o_5l o_5c), (Value.string o_6), (Value.string o_7), (Value.slice o_8 o_8l o_8c)] 25)) →
  ∃ n10, World.cell? w9 (Addr.add ⟨Array.size (World.heap w), 0, none⟩ 1) = some (Value.int .i64 n10) ∧
  V.ptr g_1 fun a11 =>
  V.when (decide ((0 : Int) ≤ (IntKind.wrap .i64 ((BitVec.toNat (BitVec.ofInt 64 n10 &&& BitVec.ofInt 64 1) : Nat) : Int)) ∧ ((IntKind.wrap .i64 ((BitVec.toNat (BitVec.ofInt 64 n10 &&& BitVec.ofInt 64 1) : Nat) : Int)) : Int) < 2)) (∃ p12, World.cell? w9 (Addr.add (Addr.add a11 0) ((Int.toNat (IntKind.wrap .i64 ((BitVec.toNat (BitVec.ofInt 64 n10 &&& BitVec.ofInt 64 1) : Nat) : Int))) * 1)) = some (Value.pointer p12) ∧
  ∃ J13 : Option Addr → Nat → Nat → World → Prop, (∃ S14 : World → Prop, S14 (World.drew (World.drew w9)) ∧
  ∃ s16, (∀ w15, S14 w15 → World.cell? w15 (Addr.add ⟨Array.size (World.heap w), 0, none⟩ 4) = some (Value.string s16)) ∧
  ∃ s17, (∀ w15, S14 w15 → World.cell? w15 (Addr.add ⟨Array.size (World.heap w), 0, none⟩ 5) = some (Value.string s17)) ∧
  ∃ s18, (∀ w15, S14 w15 → World.cell? w15 (Addr.add ⟨Array.size (World.heap w), 0, none⟩ 4) = some (Value.string s18)) ∧
  ∃ A19, ∃ A19l, ∃ A19c, (∀ w15, S14 w15 → World.cell? w15 (Addr.add ⟨Array.size (World.heap w), 0, none⟩ 6) = some (Value.slice A19 A19l A19c)) ∧
  ∃ s20, (∀ w15, S14 w15 → World.cell? w15 (Addr.add ⟨Array.size (World.heap w), 0, none⟩ 4) = some (Value.string s20)) ∧
  (Calls Tryz.prog 36 #[(Value.pointer p12)] (World.drew (World.drew w9)) fun e22 w23 =>
  ∃ p21, e22 = Ending.returned (Value.pointer p21) ∧
  S14 w23 ∧
  (Calls Tryz.prog 24 #[(Value.pointer p12), (Value.string s16), (Value.string s17)] w23 fun e25 w26 =>
  ∃ p24, e25 = Ending.returned (Value.pointer p24) ∧
  S14 w26 ∧
  ∀ w27, w27 = (World.alloc w26 (.cells #[] 9)) →
  S14 w27 ∧
  ∃ A28, ∃ A28l, ∃ A28c, ∃ w29, Sem.run Tryz.prog (Builtin.append_ #[23, 23] 23 #[(Value.slice (some ⟨Array.size (World.heap w26), 0, none⟩) 0 0), (Value.slice A19 A19l A19c)]) w27 = .ok (Value.slice A28 A28l A28c) w29 ∧
  S14 w29 ∧
  Calls Tryz.prog 41 #[(Value.pointer p12), (Value.string s18), (Value.slice A28 A28l A28c)] w29 fun e31 w32 =>
  ∃ p30, e31 = Ending.returned (Value.pointer p30) ∧
  S14 w32 ∧
  Calls Tryz.prog 42 #[(Value.pointer p12), (Value.string s20)] w32 fun e34 w35 =>
  ∃ p33, e34 = Ending.returned (Value.pointer p33) ∧
  S14 w35 ∧
  ∀ w36, w36 = (World.alloc w35 (.cells #[(Value.pointer p21), (Value.pointer p24), (Value.pointer p30), (Value.pointer p33)] 64)) →
  S14 w36 ∧
  J13 (some ⟨Array.size (World.heap w35), 0, none⟩) 4 4 w36) ∧
  (∀ w37, w37 = (World.alloc w23 (.cells #[] 9)) →
  S14 w37 ∧
  Calls Tryz.prog 24 #[(Value.pointer p12), (Value.string s16), (Value.string s17)] w37 fun e39 w40 =>
  ∃ p38, e39 = Ending.returned (Value.pointer p38) ∧
  S14 w40 ∧
  ∃ A41, ∃ A41l, ∃ A41c, ∃ w42, Sem.run Tryz.prog (Builtin.append_ #[23, 23] 23 #[(Value.slice (some ⟨Array.size (World.heap w23), 0, none⟩) 0 0), (Value.slice A19 A19l A19c)]) w40 = .ok (Value.slice A41 A41l A41c) w42 ∧
  S14 w42 ∧
  Calls Tryz.prog 41 #[(Value.pointer p12), (Value.string s18), (Value.slice A41 A41l A41c)] w42 fun e44 w45 =>
  ∃ p43, e44 = Ending.returned (Value.pointer p43) ∧
  S14 w45 ∧
  Calls Tryz.prog 42 #[(Value.pointer p12), (Value.string s20)] w45 fun e47 w48 =>
  ∃ p46, e47 = Ending.returned (Value.pointer p46) ∧
  S14 w48 ∧
  ∀ w49, w49 = (World.alloc w48 (.cells #[(Value.pointer p21), (Value.pointer p38), (Value.pointer p43), (Value.pointer p46)] 64)) →
  S14 w49 ∧
  J13 (some ⟨Array.size (World.heap w48), 0, none⟩) 4 4 w49) ∧ True) ∧
  (∀ w50, w50 = (World.alloc (World.drew (World.drew w9)) (.cells #[] 9)) →
  S14 w50 ∧
  Calls Tryz.prog 36 #[(Value.pointer p12)] w50 fun e52 w53 =>
  ∃ p51, e52 = Ending.returned (Value.pointer p51) ∧
  S14 w53 ∧
  Calls Tryz.prog 24 #[(Value.pointer p12), (Value.string s16), (Value.string s17)] w53 fun e55 w56 =>
  ∃ p54, e55 = Ending.returned (Value.pointer p54) ∧
  S14 w56 ∧
  ∃ A57, ∃ A57l, ∃ A57c, ∃ w58, Sem.run Tryz.prog (Builtin.append_ #[23, 23] 23 #[(Value.slice (some ⟨Array.size (World.heap (World.drew (World.drew w9))), 0, none⟩) 0 0), (Value.slice A19 A19l A19c)]) w56 = .ok (Value.slice A57 A57l A57c) w58 ∧
  S14 w58 ∧
  Calls Tryz.prog 41 #[(Value.pointer p12), (Value.string s18), (Value.slice A57 A57l A57c)] w58 fun e60 w61 =>
  ∃ p59, e60 = Ending.returned (Value.pointer p59) ∧
  S14 w61 ∧
  Calls Tryz.prog 42 #[(Value.pointer p12), (Value.string s20)] w61 fun e63 w64 =>
  ∃ p62, e63 = Ending.returned (Value.pointer p62) ∧
  S14 w64 ∧
  ∀ w65, w65 = (World.alloc w64 (.cells #[(Value.pointer p51), (Value.pointer p54), (Value.pointer p59), (Value.pointer p62)] 64)) →
  S14 w65 ∧
  J13 (some ⟨Array.size (World.heap w64), 0, none⟩) 4 4 w65) ∧ True) ∧
  ∀ sets_66 sets_66l sets_66c (j67 : Nat → Value) (w68 : World), J13 sets_66 sets_66l sets_66c w68 →
  ∃ I69 : Int → World → Prop, ∃ μ70 : Int → World → Nat, I69 0 w68 ∧
  ∀ i_71 (j72 : Nat → Value) (w73 : World), I69 i_71 w73 →
  (V.sel (decide (i_71 < ((sets_66l : Nat) : Int)))
  (V.when (decide ((0 : Int) ≤ i_71 ∧ (i_71 : Int) < ((sets_66l : Nat) : Int))) (V.ptr sets_66 fun a74 =>
  ∃ p75, World.cell? w73 (Addr.add a74 ((Int.toNat i_71) * 1)) = some (Value.pointer p75) ∧
  Calls Tryz.prog 46 #[(Value.pointer p75)] w73 fun e77 w78 =>
  ∃ n76, e77 = Ending.returned (Value.int .i64 n76) ∧
  V.sel (n76 != 0)
  (R (Ending.returned (Value.bool false)) w78)
  (I69 (IntKind.wrap .i64 (i_71 + 1)) w78 ∧ μ70 (IntKind.wrap .i64 (i_71 + 1)) w78 < μ70 i_71 w73)))
  (∃ s79, World.cell? w73 (Addr.add ⟨Array.size (World.heap w), 0, none⟩ 4) = some (Value.string s79) ∧
  ∃ s80, World.cell? w73 (Addr.add ⟨Array.size (World.heap w), 0, none⟩ 5) = some (Value.string s80) ∧
  Calls Tryz.prog 25 #[(Value.pointer p12), (Value.string s79), (Value.string s80)] w73 fun e82 w83 =>
  ∃ n81, e82 = Ending.returned (Value.int .i64 n81) ∧
  R (Ending.returned (Value.bool (n81 == 0))) w83)))) :
  Calls Tryz.prog 49 #[(Value.pointer g_1), (Value.agg #[(Value.int .i64 o_2), (Value.int .i64 o_3), (Value.int .i64 o_4), (Value.slice o_5 o_5l o_5c), (Value.string o_6), (Value.string o_7), (Value.slice o_8 o_8l o_8c)])] w R :=
  V.calls_of_R ⟨V.assoc [(0, [7])], V.assocP [(1, V.line [0, 1, 2, 3, 4, 5, 6, 7, 8]), (2, (V.Plan.one 0 (V.Plan.one 2 (V.Plan.one 3 (V.Plan.one 4 (V.Plan.one 5 (V.Plan.one 6 (V.Plan.one 8 (V.Plan.one 9 (V.Plan.one 10 (V.Plan.one 12 (V.Plan.one 13 (V.Plan.one 16 (V.Plan.one 17 (V.Plan.one 18 (V.Plan.alt 1 (V.Plan.alt 7 (V.Plan.one 11 (V.Plan.one 14 (V.Plan.one 15 (V.Plan.one 19 (V.Plan.one 20 (V.Plan.one 21 V.Plan.done)))))) (V.Plan.alt 11 (V.Plan.one 7 (V.Plan.one 14 (V.Plan.one 15 (V.Plan.one 19 (V.Plan.one 20 (V.Plan.one 21 V.Plan.done)))))) V.Plan.stop)) (V.Plan.alt 11 (V.Plan.one 1 (V.Plan.one 7 (V.Plan.one 14 (V.Plan.one 15 (V.Plan.one 19 (V.Plan.one 20 (V.Plan.one 21 V.Plan.done))))))) V.Plan.stop)))))))))))))))))], V.assocC [(2, ([6], [V.Sh.one .slice]))], V.assocS [], ⟨[], true⟩⟩ Tryz.func49 rfl (Eq.mp (by kernel_rfl) h)

theorem berthlaw07_Pair_asking_nf (g_1 : Option Addr) (o_2 : Int) (o_3 : Int) (o_4 : Int) (o_5 : Option Addr) (o_5l : Nat) (o_5c : Nat) (o_6 : ByteArray) (o_7 : ByteArray) (o_8 : Option Addr) (o_8l : Nat) (o_8c : Nat) (w : World) (R : Ending → World → Prop) (h :
  ∀ w9, w9 = (World.alloc w (.cells #[(Value.int .i64 o_2), (Value.int .i64 o_3), (Value.int .i64 o_4), (Value.slice o_5 o_5l o_5c), (Value.string o_6), (Value.string o_7), (Value.slice o_8 o_8l o_8c)] 25)) →
  ∃ S10 : World → Prop, S10 (World.drew w9) ∧
  ∃ n12, (∀ w11, S10 w11 → World.cell? w11 (Addr.add ⟨Array.size (World.heap w), 0, none⟩ 1) = some (Value.int .i64 n12)) ∧
  V.ptr g_1 fun a13 =>
  V.when (decide ((0 : Int) ≤ (IntKind.wrap .i64 ((BitVec.toNat (BitVec.ofInt 64 n12 &&& BitVec.ofInt 64 1) : Nat) : Int)) ∧ ((IntKind.wrap .i64 ((BitVec.toNat (BitVec.ofInt 64 n12 &&& BitVec.ofInt 64 1) : Nat) : Int)) : Int) < 2)) (∃ p14, (∀ w11, S10 w11 → World.cell? w11 (Addr.add (Addr.add a13 0) ((Int.toNat (IntKind.wrap .i64 ((BitVec.toNat (BitVec.ofInt 64 n12 &&& BitVec.ofInt 64 1) : Nat) : Int))) * 1)) = some (Value.pointer p14)) ∧
  ∃ n15, (∀ w11, S10 w11 → World.cell? w11 (Addr.add ⟨Array.size (World.heap w), 0, none⟩ 1) = some (Value.int .i64 n15)) ∧
  V.ptr g_1 fun a16 =>
  V.when (decide ((0 : Int) ≤ (IntKind.wrap .i64 ((BitVec.toNat (BitVec.ofInt 64 n15 &&& BitVec.ofInt 64 1) : Nat) : Int)) ∧ ((IntKind.wrap .i64 ((BitVec.toNat (BitVec.ofInt 64 n15 &&& BitVec.ofInt 64 1) : Nat) : Int)) : Int) < 2)) (∃ n17, ∃ A18, ∃ A18l, ∃ A18c, V.cellsC (fun a_ x_ => ∀ w11, S10 w11 → World.cell? w11 a_ = some x_) (Addr.add (Addr.add a16 2) ((Int.toNat (IntKind.wrap .i64 ((BitVec.toNat (BitVec.ofInt 64 n15 &&& BitVec.ofInt 64 1) : Nat) : Int))) * 2)) [(Value.int .i64 n17), (Value.slice A18 A18l A18c)] ∧
  ∀ w19, w19 = (World.alloc (World.drew w9) (.cells #[(Value.int .i64 0), (Value.slice none 0 0)] 37)) →
  S10 w19 ∧
  ∃ w20, Sem.run Tryz.prog (Instr.storeAt 37 (Value.pointer (some ⟨Array.size (World.heap (World.drew w9)), 0, none⟩)) (Value.agg #[(Value.int .i64 n17), (Value.slice A18 A18l A18c)])) w19 = .ok () w20 ∧
  ∃ n21, World.cell? w20 (Addr.add ⟨Array.size (World.heap w), 0, none⟩ 0) = some (Value.int .i64 n21) ∧
  V.sel (n21 == 5)
  (∃ S22 : World → Prop, S22 (World.drew w20) ∧
  ∃ n24, (∀ w23, S22 w23 → World.cell? w23 (Addr.add ⟨Array.size (World.heap (World.drew w9)), 0, none⟩ 0) = some (Value.int .i64 n24)) ∧
  ∃ n25, ∃ A26, ∃ A26l, ∃ A26c, V.cellsC (fun a_ x_ => ∀ w23, S22 w23 → World.cell? w23 a_ = some x_) ⟨Array.size (World.heap (World.drew w9)), 0, none⟩ [(Value.int .i64 n25), (Value.slice A26 A26l A26c)] ∧
  Calls Tryz.prog 36 #[(Value.pointer p14)] (World.drew w20) fun e28 w29 =>
  ∃ p27, e28 = Ending.returned (Value.pointer p27) ∧
  S22 w29 ∧
  Calls Tryz.prog 69 #[(Value.agg #[(Value.int .i64 n25), (Value.slice A26 A26l A26c)])] w29 fun e31 w32 =>
  ∃ A30, ∃ A30l, ∃ A30c, e31 = Ending.returned (Value.slice A30 A30l A30c) ∧
  S22 w32 ∧
  Calls Tryz.prog 23 #[(Value.pointer p27), (Value.int .i64 n24), (Value.slice A30 A30l A30c)] w32 fun e34 w35 =>
  ∃ b33, e34 = Ending.returned (Value.bool b33) ∧
  S22 w35 ∧
  R (Ending.returned (Value.bool b33)) w35)
  (V.sel (n21 == 6)
  (∃ n36, World.cell? w20 (Addr.add ⟨Array.size (World.heap w), 0, none⟩ 2) = some (Value.int .i64 n36) ∧
  Calls Tryz.prog 14 #[(Value.pointer p14), (Value.int .i64 n36)] w20 fun e39 w40 =>
  ∃ A37, ∃ A37l, ∃ A37c, ∃ b38, e39 = Ending.returned (Value.tuple #[(Value.slice A37 A37l A37c), (Value.bool b38)]) ∧
  ∃ n41, ∃ A42, ∃ A42l, ∃ A42c, V.cellsC (fun a_ x_ => World.cell? w40 a_ = some x_) ⟨Array.size (World.heap (World.drew w9)), 0, none⟩ [(Value.int .i64 n41), (Value.slice A42 A42l A42c)] ∧
  ∃ n43, World.cell? w40 (Addr.add ⟨Array.size (World.heap w), 0, none⟩ 2) = some (Value.int .i64 n43) ∧
  Calls Tryz.prog 70 #[(Value.agg #[(Value.int .i64 n41), (Value.slice A42 A42l A42c)]), (Value.int .i64 n43)] w40 fun e46 w47 =>
  ∃ A44, ∃ A44l, ∃ A44c, ∃ b45, e46 = Ending.returned (Value.tuple #[(Value.slice A44 A44l A44c), (Value.bool b45)]) ∧
  V.sel (b38 == b45)
  (Calls Tryz.prog 12 #[(Value.slice A37 A37l A37c), (Value.slice A44 A44l A44c)] w47 fun e49 w50 =>
  ∃ b48, e49 = Ending.returned (Value.bool b48) ∧
  R (Ending.returned (Value.bool b48)) w50)
  (R (Ending.returned (Value.bool false)) w47))
  (V.sel (n21 == 7)
  (∃ n51, ∃ A52, ∃ A52l, ∃ A52c, V.cellsC (fun a_ x_ => World.cell? w20 a_ = some x_) ⟨Array.size (World.heap (World.drew w9)), 0, none⟩ [(Value.int .i64 n51), (Value.slice A52 A52l A52c)] ∧
  ∃ s53, World.cell? w20 (Addr.add ⟨Array.size (World.heap w), 0, none⟩ 4) = some (Value.string s53) ∧
  ∃ s54, World.cell? w20 (Addr.add ⟨Array.size (World.heap w), 0, none⟩ 5) = some (Value.string s54) ∧
  ∀ w55, w55 = (World.alloc w20 (.cells #[(Value.string s54)] 9)) →
  Calls Tryz.prog 71 #[(Value.agg #[(Value.int .i64 n51), (Value.slice A52 A52l A52c)]), (Value.string s53), (Value.slice (some ⟨Array.size (World.heap w20), 0, none⟩) 1 1)] w55 fun e57 w58 =>
  ∃ A56, ∃ A56l, ∃ A56c, e57 = Ending.returned (Value.slice A56 A56l A56c) ∧
  ∃ S59 : World → Prop, S59 (World.drew w58) ∧
  ∃ s61, (∀ w60, S59 w60 → World.cell? w60 (Addr.add ⟨Array.size (World.heap w), 0, none⟩ 4) = some (Value.string s61)) ∧
  ∃ s62, (∀ w60, S59 w60 → World.cell? w60 (Addr.add ⟨Array.size (World.heap w), 0, none⟩ 5) = some (Value.string s62)) ∧
  ∃ n63, (∀ w60, S59 w60 → World.cell? w60 (Addr.add ⟨Array.size (World.heap (World.drew w9)), 0, none⟩ 0) = some (Value.int .i64 n63)) ∧
  Calls Tryz.prog 24 #[(Value.pointer p14), (Value.string s61), (Value.string s62)] (World.drew w58) fun e65 w66 =>
  ∃ p64, e65 = Ending.returned (Value.pointer p64) ∧
  S59 w66 ∧
  Calls Tryz.prog 23 #[(Value.pointer p64), (Value.int .i64 n63), (Value.slice A56 A56l A56c)] w66 fun e68 w69 =>
  ∃ b67, e68 = Ending.returned (Value.bool b67) ∧
  S59 w69 ∧
  V.sel b67
  (∃ s70, (∀ w60, S59 w60 → World.cell? w60 (Addr.add ⟨Array.size (World.heap w), 0, none⟩ 4) = some (Value.string s70)) ∧
  ∃ s71, (∀ w60, S59 w60 → World.cell? w60 (Addr.add ⟨Array.size (World.heap w), 0, none⟩ 5) = some (Value.string s71)) ∧
  Calls Tryz.prog 25 #[(Value.pointer p14), (Value.string s70), (Value.string s71)] w69 fun e73 w74 =>
  ∃ n72, e73 = Ending.returned (Value.int .i64 n72) ∧
  S59 w74 ∧
  R (Ending.returned (Value.bool (n72 == ((A56l : Nat) : Int)))) w74)
  (R (Ending.returned (Value.bool false)) w69))
  (V.sel (n21 == 8)
  (∃ S75 : World → Prop, S75 (World.drew w20) ∧
  ∃ s77, (∀ w76, S75 w76 → World.cell? w76 (Addr.add ⟨Array.size (World.heap w), 0, none⟩ 4) = some (Value.string s77)) ∧
  ∃ A78, ∃ A78l, ∃ A78c, (∀ w76, S75 w76 → World.cell? w76 (Addr.add ⟨Array.size (World.heap w), 0, none⟩ 6) = some (Value.slice A78 A78l A78c)) ∧
  ∃ n79, (∀ w76, S75 w76 → World.cell? w76 (Addr.add ⟨Array.size (World.heap (World.drew w9)), 0, none⟩ 0) = some (Value.int .i64 n79)) ∧
  ∃ n80, ∃ A81, ∃ A81l, ∃ A81c, V.cellsC (fun a_ x_ => ∀ w76, S75 w76 → World.cell? w76 a_ = some x_) ⟨Array.size (World.heap (World.drew w9)), 0, none⟩ [(Value.int .i64 n80), (Value.slice A81 A81l A81c)] ∧
  ∃ s82, (∀ w76, S75 w76 → World.cell? w76 (Addr.add ⟨Array.size (World.heap w), 0, none⟩ 4) = some (Value.string s82)) ∧
  ∃ A83, ∃ A83l, ∃ A83c, (∀ w76, S75 w76 → World.cell? w76 (Addr.add ⟨Array.size (World.heap w), 0, none⟩ 6) = some (Value.slice A83 A83l A83c)) ∧
  ∀ w84, w84 = (World.alloc (World.drew w20) (.cells #[] 9)) →
  S75 w84 ∧
  ∃ A85, ∃ A85l, ∃ A85c, ∃ w86, Sem.run Tryz.prog (Builtin.append_ #[23, 23] 23 #[(Value.slice (some ⟨Array.size (World.heap (World.drew w20)), 0, none⟩) 0 0), (Value.slice A78 A78l A78c)]) w84 = .ok (Value.slice A85 A85l A85c) w86 ∧
  S75 w86 ∧
  Calls Tryz.prog 41 #[(Value.pointer p14), (Value.string s77), (Value.slice A85 A85l A85c)] w86 fun e88 w89 =>
  ∃ p87, e88 = Ending.returned (Value.pointer p87) ∧
  S75 w89 ∧
  Calls Tryz.prog 71 #[(Value.agg #[(Value.int .i64 n80), (Value.slice A81 A81l A81c)]), (Value.string s82), (Value.slice A83 A83l A83c)] w89 fun e91 w92 =>
  ∃ A90, ∃ A90l, ∃ A90c, e91 = Ending.returned (Value.slice A90 A90l A90c) ∧
  S75 w92 ∧
  Calls Tryz.prog 23 #[(Value.pointer p87), (Value.int .i64 n79), (Value.slice A90 A90l A90c)] w92 fun e94 w95 =>
  ∃ b93, e94 = Ending.returned (Value.bool b93) ∧
  S75 w95 ∧
  R (Ending.returned (Value.bool b93)) w95)
  (V.sel (n21 == 9)
  (∃ S96 : World → Prop, S96 (World.drew w20) ∧
  ∃ s98, (∀ w97, S96 w97 → World.cell? w97 (Addr.add ⟨Array.size (World.heap w), 0, none⟩ 4) = some (Value.string s98)) ∧
  ∃ n99, (∀ w97, S96 w97 → World.cell? w97 (Addr.add ⟨Array.size (World.heap (World.drew w9)), 0, none⟩ 0) = some (Value.int .i64 n99)) ∧
  ∃ n100, ∃ A101, ∃ A101l, ∃ A101c, V.cellsC (fun a_ x_ => ∀ w97, S96 w97 → World.cell? w97 a_ = some x_) ⟨Array.size (World.heap (World.drew w9)), 0, none⟩ [(Value.int .i64 n100), (Value.slice A101 A101l A101c)] ∧
  ∃ s102, (∀ w97, S96 w97 → World.cell? w97 (Addr.add ⟨Array.size (World.heap w), 0, none⟩ 4) = some (Value.string s102)) ∧
  Calls Tryz.prog 42 #[(Value.pointer p14), (Value.string s98)] (World.drew w20) fun e104 w105 =>
  ∃ p103, e104 = Ending.returned (Value.pointer p103) ∧
  S96 w105 ∧
  Calls Tryz.prog 72 #[(Value.agg #[(Value.int .i64 n100), (Value.slice A101 A101l A101c)]), (Value.string s102)] w105 fun e107 w108 =>
  ∃ A106, ∃ A106l, ∃ A106c, e107 = Ending.returned (Value.slice A106 A106l A106c) ∧
  S96 w108 ∧
  Calls Tryz.prog 23 #[(Value.pointer p103), (Value.int .i64 n99), (Value.slice A106 A106l A106c)] w108 fun e110 w111 =>
  ∃ b109, e110 = Ending.returned (Value.bool b109) ∧
  S96 w111 ∧
  R (Ending.returned (Value.bool b109)) w111)
  (V.sel (n21 == 10)
  (∃ S112 : World → Prop, S112 (World.drew w20) ∧
  ∃ n114, ∃ A115, ∃ A115l, ∃ A115c, V.cellsC (fun a_ x_ => ∀ w113, S112 w113 → World.cell? w113 a_ = some x_) ⟨Array.size (World.heap (World.drew w9)), 0, none⟩ [(Value.int .i64 n114), (Value.slice A115 A115l A115c)] ∧
  Calls Tryz.prog 17 #[(Value.pointer p14)] (World.drew w20) fun e117 w118 =>
  ∃ A116, ∃ A116l, ∃ A116c, e117 = Ending.returned (Value.slice A116 A116l A116c) ∧
  S112 w118 ∧
  Calls Tryz.prog 73 #[(Value.agg #[(Value.int .i64 n114), (Value.slice A115 A115l A115c)])] w118 fun e120 w121 =>
  ∃ A119, ∃ A119l, ∃ A119c, e120 = Ending.returned (Value.slice A119 A119l A119c) ∧
  S112 w121 ∧
  Calls Tryz.prog 19 #[(Value.slice A116 A116l A116c), (Value.slice A119 A119l A119c)] w121 fun e123 w124 =>
  ∃ b122, e123 = Ending.returned (Value.bool b122) ∧
  S112 w124 ∧
  R (Ending.returned (Value.bool b122)) w124)
  (V.sel (n21 == 11)
  (∃ S125 : World → Prop, S125 (World.drew w20) ∧
  ∃ s127, (∀ w126, S125 w126 → World.cell? w126 (Addr.add ⟨Array.size (World.heap w), 0, none⟩ 4) = some (Value.string s127)) ∧
  ∃ n128, ∃ A129, ∃ A129l, ∃ A129c, V.cellsC (fun a_ x_ => ∀ w126, S125 w126 → World.cell? w126 a_ = some x_) ⟨Array.size (World.heap (World.drew w9)), 0, none⟩ [(Value.int .i64 n128), (Value.slice A129 A129l A129c)] ∧
  ∃ s130, (∀ w126, S125 w126 → World.cell? w126 (Addr.add ⟨Array.size (World.heap w), 0, none⟩ 4) = some (Value.string s130)) ∧
  Calls Tryz.prog 18 #[(Value.pointer p14), (Value.string s127)] (World.drew w20) fun e132 w133 =>
  ∃ A131, ∃ A131l, ∃ A131c, e132 = Ending.returned (Value.slice A131 A131l A131c) ∧
  S125 w133 ∧
  Calls Tryz.prog 74 #[(Value.agg #[(Value.int .i64 n128), (Value.slice A129 A129l A129c)]), (Value.string s130)] w133 fun e135 w136 =>
  ∃ A134, ∃ A134l, ∃ A134c, e135 = Ending.returned (Value.slice A134 A134l A134c) ∧
  S125 w136 ∧
  Calls Tryz.prog 19 #[(Value.slice A131 A131l A131c), (Value.slice A134 A134l A134c)] w136 fun e138 w139 =>
  ∃ b137, e138 = Ending.returned (Value.bool b137) ∧
  S125 w139 ∧
  R (Ending.returned (Value.bool b137)) w139)
  (∃ S140 : World → Prop, S140 (World.drew w20) ∧
  V.ptr g_1 fun a142 =>
  ∃ n143, ∃ A144, ∃ A144l, ∃ A144c, V.cellsC (fun a_ x_ => ∀ w141, S140 w141 → World.cell? w141 a_ = some x_) (Addr.add (Addr.add a142 2) 0) [(Value.int .i64 n143), (Value.slice A144 A144l A144c)] ∧
  V.ptr g_1 fun a145 =>
  ∃ n146, ∃ A147, ∃ A147l, ∃ A147c, V.cellsC (fun a_ x_ => ∀ w141, S140 w141 → World.cell? w141 a_ = some x_) (Addr.add (Addr.add a145 2) 2) [(Value.int .i64 n146), (Value.slice A147 A147l A147c)] ∧
  Calls Tryz.prog 75 #[(Value.agg #[(Value.int .i64 n143), (Value.slice A144 A144l A144c)]), (Value.agg #[(Value.int .i64 n146), (Value.slice A147 A147l A147c)])] (World.drew w20) fun e149 w150 =>
  ∃ b148, e149 = Ending.returned (Value.bool b148) ∧
  S140 w150 ∧
  ∃ S151 : World → Prop, S151 (World.drew w150) ∧
  V.ptr g_1 fun a153 =>
  ∃ p154, (∀ w152, S151 w152 → World.cell? w152 (Addr.add (Addr.add a153 0) 0) = some (Value.pointer p154)) ∧
  V.ptr g_1 fun a155 =>
  ∃ p156, (∀ w152, S151 w152 → World.cell? w152 (Addr.add (Addr.add a155 0) 1) = some (Value.pointer p156)) ∧
  Calls Tryz.prog 16 #[(Value.pointer p154), (Value.pointer p156)] (World.drew w150) fun e158 w159 =>
  ∃ b157, e158 = Ending.returned (Value.bool b157) ∧
  S151 w159 ∧
  V.sel (b157 == b148)
  (V.ptr g_1 fun a160 =>
  ∃ p161, (∀ w152, S151 w152 → World.cell? w152 (Addr.add (Addr.add a160 0) 1) = some (Value.pointer p161)) ∧
  V.ptr g_1 fun a162 =>
  ∃ p163, (∀ w152, S151 w152 → World.cell? w152 (Addr.add (Addr.add a162 0) 0) = some (Value.pointer p163)) ∧
  Calls Tryz.prog 16 #[(Value.pointer p161), (Value.pointer p163)] w159 fun e165 w166 =>
  ∃ b164, e165 = Ending.returned (Value.bool b164) ∧
  S151 w166 ∧
  V.sel (b164 == b148)
  (Calls Tryz.prog 16 #[(Value.pointer p14), (Value.pointer p14)] w166 fun e168 w169 =>
  ∃ b167, e168 = Ending.returned (Value.bool b167) ∧
  S151 w169 ∧
  R (Ending.returned (Value.bool b167)) w169)
  (R (Ending.returned (Value.bool false)) w166))
  (R (Ending.returned (Value.bool false)) w159))))))))))) :
  Calls Tryz.prog 50 #[(Value.pointer g_1), (Value.agg #[(Value.int .i64 o_2), (Value.int .i64 o_3), (Value.int .i64 o_4), (Value.slice o_5 o_5l o_5c), (Value.string o_6), (Value.string o_7), (Value.slice o_8 o_8l o_8c)])] w R :=
  V.calls_of_R ⟨V.assoc [], V.assocP [(1, V.line [0, 1, 2, 3, 4, 5, 6, 7, 8, 9, 10, 11, 12, 13, 14, 15, 16, 17, 18]), (4, V.line [0, 2, 3, 4, 1, 5, 6, 7]), (11, V.line [0, 1, 2, 3, 4, 6, 7, 8, 5, 9, 10, 11, 12, 13, 14, 15, 17, 18, 16, 19, 20, 21]), (13, V.line [0, 1, 2, 4, 5, 8, 9, 10, 11, 12, 13, 14, 3, 6, 7, 15, 16, 17]), (15, V.line [0, 1, 2, 4, 5, 6, 7, 8, 3, 9, 10, 11]), (17, V.line [0, 2, 1, 3, 4, 5]), (19, V.line [0, 1, 2, 4, 5, 6, 3, 7, 8, 9]), (20, V.line [0, 1, 2, 3, 4, 5, 6, 7, 8, 9, 10, 11]), (21, V.line [0, 1, 2, 3, 4, 5, 6, 7, 8, 9, 11, 10, 12, 13, 14, 15, 16, 17, 18, 19, 20, 21, 22, 23, 25, 24, 26, 27, 28, 29, 30, 31, 32, 33])], V.assocC [], V.assocS [], ⟨[], true⟩⟩ Tryz.func50 rfl (Eq.mp (by kernel_rfl) h)

theorem posting_Index_none_nf (x_1 : Option Addr) (w : World) (R : Ending → World → Prop) (h :
  V.sel (!(Option.isNone x_1))
  (V.ptr x_1 fun a2 =>
  ∃ n3, World.cell? w (Addr.add a2 0) = some (Value.int .i64 n3) ∧
  Calls Tryz.prog 26 #[(Value.int .i64 n3)] w fun e6 w7 =>
  ∃ p4, ∃ n5, e6 = Ending.returned (Value.tuple #[(Value.pointer p4), (Value.int .i64 n5)]) ∧
  R (Ending.returned (Value.pointer p4)) w7)
  (Calls Tryz.prog 26 #[(Value.int .i64 0)] w fun e10 w11 =>
  ∃ p8, ∃ n9, e10 = Ending.returned (Value.tuple #[(Value.pointer p8), (Value.int .i64 n9)]) ∧
  R (Ending.returned (Value.pointer p8)) w11)) :
  Calls Tryz.prog 52 #[(Value.pointer x_1)] w R :=
  V.calls_of_R ⟨V.assoc [], V.assocP [], V.assocC [], V.assocS [], ⟨[], true⟩⟩ Tryz.func52 rfl (Eq.mp (by kernel_rfl) h)

theorem labels_Check_nf (list_1 : Option Addr) (list_1l : Nat) (list_1c : Nat) (w : World) (R : Ending → World → Prop) (h :
  V.sel (decide (((list_1l : Nat) : Int) > 32))
  (R (Ending.returned (Value.tuple #[(Value.int .i64 32), (Value.int .i64 34)])) w)
  (∃ I2 : Int → World → Prop, ∃ μ3 : Int → World → Nat, I2 0 w ∧
  ∀ t11_4 (j5 : Nat → Value) (w6 : World), I2 t11_4 w6 →
  (V.sel (decide (t11_4 < ((list_1l : Nat) : Int)))
  (V.when (decide ((0 : Int) ≤ t11_4 ∧ (t11_4 : Int) < ((list_1l : Nat) : Int))) (V.ptr list_1 fun a7 =>
  ∃ s8, ∃ s9, V.cellsC (fun a_ x_ => World.cell? w6 a_ = some x_) (Addr.add a7 ((Int.toNat t11_4) * 2)) [(Value.string s8), (Value.string s9)] ∧
  ∀ w10, w10 = (World.alloc w6 (.cells #[(Value.string ByteArray.empty), (Value.string ByteArray.empty)] 33)) →
  ∃ w11, Sem.run Tryz.prog (Instr.storeAt 33 (Value.pointer (some ⟨Array.size (World.heap w6), 0, none⟩)) (Value.agg #[(Value.string s8), (Value.string s9)])) w10 = .ok () w11 ∧
  ∃ s12, World.cell? w11 (Addr.add ⟨Array.size (World.heap w6), 0, none⟩ 0) = some (Value.string s12) ∧
  Calls Tryz.prog 77 #[(Value.string s12)] w11 fun e14 w15 =>
  ∃ b13, e14 = Ending.returned (Value.bool b13) ∧
  V.sel (!b13)
  (R (Ending.returned (Value.tuple #[(Value.int .i64 t11_4), (Value.int .i64 31)])) w15)
  (∃ s16, World.cell? w15 (Addr.add ⟨Array.size (World.heap w6), 0, none⟩ 1) = some (Value.string s16) ∧
  Calls Tryz.prog 78 #[(Value.string s16)] w15 fun e18 w19 =>
  ∃ b17, e18 = Ending.returned (Value.bool b17) ∧
  V.sel (!b17)
  (R (Ending.returned (Value.tuple #[(Value.int .i64 t11_4), (Value.int .i64 32)])) w19)
  (V.sel (decide (t11_4 > 0))
  (∃ s20, World.cell? w19 (Addr.add ⟨Array.size (World.heap w6), 0, none⟩ 0) = some (Value.string s20) ∧
  V.when (decide ((0 : Int) ≤ (IntKind.wrap .i64 (t11_4 - 1)) ∧ ((IntKind.wrap .i64 (t11_4 - 1)) : Int) < ((list_1l : Nat) : Int))) (V.ptr list_1 fun a21 =>
  ∃ s22, World.cell? w19 (Addr.add (Addr.add a21 ((Int.toNat (IntKind.wrap .i64 (t11_4 - 1))) * 2)) 0) = some (Value.string s22) ∧
  V.sel (ByteArray.toList s20 == ByteArray.toList s22)
  (R (Ending.returned (Value.tuple #[(Value.int .i64 t11_4), (Value.int .i64 33)])) (World.drew w19))
  (V.sel (decide (t11_4 > 0))
  (∃ s23, World.cell? (World.drew w19) (Addr.add ⟨Array.size (World.heap w6), 0, none⟩ 0) = some (Value.string s23) ∧
  V.when (decide ((0 : Int) ≤ (IntKind.wrap .i64 (t11_4 - 1)) ∧ ((IntKind.wrap .i64 (t11_4 - 1)) : Int) < ((list_1l : Nat) : Int))) (V.ptr list_1 fun a24 =>
  ∃ s25, World.cell? (World.drew w19) (Addr.add (Addr.add a24 ((Int.toNat (IntKind.wrap .i64 (t11_4 - 1))) * 2)) 0) = some (Value.string s25) ∧
  V.sel (Op.bytesLess (ByteArray.toList s23) (ByteArray.toList s25))
  (R (Ending.returned (Value.tuple #[(Value.int .i64 t11_4), (Value.int .i64 36)])) (World.drew (World.drew w19)))
  (I2 (IntKind.wrap .i64 (t11_4 + 1)) (World.drew (World.drew w19)) ∧ μ3 (IntKind.wrap .i64 (t11_4 + 1)) (World.drew (World.drew w19)) < μ3 t11_4 w6)))
  (I2 (IntKind.wrap .i64 (t11_4 + 1)) (World.drew (World.drew w19)) ∧ μ3 (IntKind.wrap .i64 (t11_4 + 1)) (World.drew (World.drew w19)) < μ3 t11_4 w6))))
  (V.sel (decide (t11_4 > 0))
  (∃ s26, World.cell? (World.drew w19) (Addr.add ⟨Array.size (World.heap w6), 0, none⟩ 0) = some (Value.string s26) ∧
  V.when (decide ((0 : Int) ≤ (IntKind.wrap .i64 (t11_4 - 1)) ∧ ((IntKind.wrap .i64 (t11_4 - 1)) : Int) < ((list_1l : Nat) : Int))) (V.ptr list_1 fun a27 =>
  ∃ s28, World.cell? (World.drew w19) (Addr.add (Addr.add a27 ((Int.toNat (IntKind.wrap .i64 (t11_4 - 1))) * 2)) 0) = some (Value.string s28) ∧
  V.sel (Op.bytesLess (ByteArray.toList s26) (ByteArray.toList s28))
  (R (Ending.returned (Value.tuple #[(Value.int .i64 t11_4), (Value.int .i64 36)])) (World.drew (World.drew w19)))
  (I2 (IntKind.wrap .i64 (t11_4 + 1)) (World.drew (World.drew w19)) ∧ μ3 (IntKind.wrap .i64 (t11_4 + 1)) (World.drew (World.drew w19)) < μ3 t11_4 w6)))
  (I2 (IntKind.wrap .i64 (t11_4 + 1)) (World.drew (World.drew w19)) ∧ μ3 (IntKind.wrap .i64 (t11_4 + 1)) (World.drew (World.drew w19)) < μ3 t11_4 w6))))))
  (R (Ending.returned (Value.tuple #[(Value.int .i64 0), (Value.int .i64 0)])) w6)))) :
  Calls Tryz.prog 56 #[(Value.slice list_1 list_1l list_1c)] w R :=
  V.calls_of_R ⟨V.assoc [(0, [11])], V.assocP [(10, V.line [0, 1, 2, 3, 4, 5, 6, 7, 8, 9, 10, 11, 12, 13]), (12, V.line [0, 1, 2, 3, 4, 5, 6, 7, 8, 9, 10, 11, 12, 13])], V.assocC [], V.assocS [], ⟨[], true⟩⟩ Tryz.func56 rfl (Eq.mp (by kernel_rfl) h)

theorem berthref03_IsKey_nf (s_1 : ByteArray) (w : World) (R : Ending → World → Prop) (h :
  V.sel (decide (((ByteArray.size s_1 : Nat) : Int) > 127))
  (R (Ending.returned (Value.bool false)) w)
  (Calls Tryz.prog 79 #[(Value.string s_1), (Value.int .u8 47)] w fun e3 w4 =>
  ∃ A2, ∃ A2l, ∃ A2c, e3 = Ending.returned (Value.slice A2 A2l A2c) ∧
  V.sel (((A2l : Nat) : Int) == 1)
  (V.when (decide ((0 : Int) ≤ 0 ∧ (0 : Int) < ((A2l : Nat) : Int))) (V.ptr A2 fun a5 =>
  ∃ s6, World.cell? w4 (Addr.add a5 0) = some (Value.string s6) ∧
  Calls Tryz.prog 80 #[(Value.string s6)] w4 fun e8 w9 =>
  ∃ b7, e8 = Ending.returned (Value.bool b7) ∧
  R (Ending.returned (Value.bool b7)) w9))
  (V.sel (((A2l : Nat) : Int) == 2)
  (V.when (decide ((0 : Int) ≤ 0 ∧ (0 : Int) < ((A2l : Nat) : Int))) (V.ptr A2 fun a10 =>
  ∃ s11, World.cell? w4 (Addr.add a10 0) = some (Value.string s11) ∧
  Calls Tryz.prog 81 #[(Value.string s11)] w4 fun e13 w14 =>
  ∃ b12, e13 = Ending.returned (Value.bool b12) ∧
  V.sel b12
  (V.when (decide ((0 : Int) ≤ 1 ∧ (1 : Int) < ((A2l : Nat) : Int))) (V.ptr A2 fun a15 =>
  ∃ s16, World.cell? w14 (Addr.add a15 1) = some (Value.string s16) ∧
  Calls Tryz.prog 80 #[(Value.string s16)] w14 fun e18 w19 =>
  ∃ b17, e18 = Ending.returned (Value.bool b17) ∧
  R (Ending.returned (Value.bool b17)) w19))
  (R (Ending.returned (Value.bool false)) w14)))
  (R (Ending.returned (Value.bool false)) w4)))) :
  Calls Tryz.prog 57 #[(Value.string s_1)] w R :=
  V.calls_of_R ⟨V.assoc [], V.assocP [], V.assocC [], V.assocS [], ⟨[], true⟩⟩ Tryz.func57 rfl (Eq.mp (by kernel_rfl) h)

end Go.Proofs.YtpipenkaaodlgaaGreatDoor
