/- Normal forms of the program's functions, printed by a program of mine; the kernel checks each. -/
import Derived.Test.YtoaeefjcjdhlkaaGreatProg
import Derived.Test.YtoaeefjcjdhlkaaGreatV4
set_option linter.unusedVariables false
set_option maxRecDepth 100000
namespace Go.Proofs.YtoaeefjcjdhlkaaGreat
open Go

theorem image_readList_api_Item__nf (r_1 : Option Addr) (one_f2 : Nat) (one_a3 : Array Value) (one_c4 : Array Value) (w : World) (R : Ending → World → Prop) (h :
  Calls Tryz.prog 87 #[(Value.pointer r_1)] w fun e6 w7 =>
  (∃ n5, e6 = Ending.returned (Value.int .i64 n5) ∧
  ∃ I8 : Option Addr → Nat → Nat → Int → World → Prop, ∃ μ9 : Option Addr → Nat → Nat → Int → World → Nat, I8 none 0 0 0 w7 ∧
  ∀ l_10 l_10l l_10c t8_11 (j12 : Nat → Value) (w13 : World), I8 l_10 l_10l l_10c t8_11 w13 →
  (V.sel (decide (t8_11 < n5))
  (V.when (V.hasB Tryz.prog one_f2) (Calls Tryz.prog one_f2 ⟨Array.toList one_a3 ++ [] ++ Array.toList one_c4⟩ w13 fun e16 w17 =>
  (∃ s14, ∃ n15, e16 = Ending.returned (Value.agg #[(Value.string s14), (Value.int .i64 n15)]) ∧
  ∀ w18, w18 = (World.alloc w17 (.cells #[(Value.string s14), (Value.int .i64 n15)] 91)) →
  ∃ A19, ∃ A19l, ∃ A19c, ∃ w20, Sem.run Tryz.prog (Builtin.append_ #[51, 51] 51 #[(Value.slice l_10 l_10l l_10c), (Value.slice (some ⟨Array.size (World.heap w17), 0, none⟩) 1 1)]) w18 = .ok (Value.slice A19 A19l A19c) w20 ∧
  I8 A19 A19l A19c (IntKind.wrap .i64 (t8_11 + 1)) w20 ∧ μ9 A19 A19l A19c (IntKind.wrap .i64 (t8_11 + 1)) w20 < μ9 l_10 l_10l l_10c t8_11 w13) ∨
  (∃ ch21, e16 = Ending.panicked ch21 ∧ R (Ending.panicked ch21) w17)))
  (R (Ending.returned (Value.slice l_10 l_10l l_10c)) w13))) ∨
  (∃ ch22, e6 = Ending.panicked ch22 ∧ R (Ending.panicked ch22) w7)) :
  Calls Tryz.prog 124 #[(Value.pointer r_1), (Value.func (.func one_f2) one_a3 one_c4)] w R :=
  V.Z.calls_of_Z ⟨V.assoc [(0, [5, 8])], V.assocP [], V.assocC [], V.assocS [], ⟨[], true⟩⟩ Tryz.func124 rfl rfl (Eq.mp (by kernel_rfl) h)

theorem image_reader_item_nf (r_1 : Option Addr) (w : World) (R : Ending → World → Prop) (h :
  ∀ w2, w2 = (World.alloc w (.cells #[(Value.string ByteArray.empty), (Value.int .i64 0)] 91)) →
  Calls Tryz.prog 119 #[(Value.pointer r_1)] w2 fun e4 w5 =>
  (∃ s3, e4 = Ending.returned (Value.string s3) ∧
  Calls Tryz.prog 88 #[(Value.pointer r_1)] w5 fun e7 w8 =>
  (∃ n6, e7 = Ending.returned (Value.int .i64 n6) ∧
  ∃ w9, Sem.run Tryz.prog (Instr.storeAt 91 (Value.pointer (some ⟨Array.size (World.heap w), 0, none⟩)) (Value.agg #[(Value.string s3), (Value.int .i64 n6)])) w8 = .ok () w9 ∧
  ∃ s10, ∃ n11, V.cellsC (fun a_ x_ => World.cell? w9 a_ = some x_) ⟨Array.size (World.heap w), 0, none⟩ [(Value.string s10), (Value.int .i64 n11)] ∧
  R (Ending.returned (Value.agg #[(Value.string s10), (Value.int .i64 n11)])) w9) ∨
  (∃ ch12, e7 = Ending.panicked ch12 ∧ R (Ending.panicked ch12) w8)) ∨
  (∃ ch13, e4 = Ending.panicked ch13 ∧ R (Ending.panicked ch13) w5)) :
  Calls Tryz.prog 125 #[(Value.pointer r_1)] w R :=
  V.Z.calls_of_Z ⟨V.assoc [], V.assocP [], V.assocC [], V.assocS [], ⟨[], true⟩⟩ Tryz.func125 rfl rfl (Eq.mp (by kernel_rfl) h)

theorem image_reader_truth_nf (r_1 : Option Addr) (w : World) (R : Ending → World → Prop) (h :
  V.ptr r_1 fun a2 =>
  ∃ n3, World.cell? w (Addr.add a2 1) = some (Value.int .i64 n3) ∧
  Calls Tryz.prog 138 #[(Value.pointer r_1)] w fun e5 w6 =>
  (∃ n4, e5 = Ending.returned (Value.int .u8 n4) ∧
  V.sel (decide (n4 > 1))
  (Calls Tryz.prog 62 #[(Value.pointer r_1), (Value.int .i64 263), (Value.int .i64 n3)] w6 fun e7 w8 =>
  (e7 = Ending.returned undef ∧
  R (Ending.returned (Value.bool (n4 == 1))) w8) ∨
  (∃ ch9, e7 = Ending.panicked ch9 ∧ R (Ending.panicked ch9) w8))
  (R (Ending.returned (Value.bool (n4 == 1))) w6)) ∨
  (∃ ch10, e5 = Ending.panicked ch10 ∧ R (Ending.panicked ch10) w6)) :
  Calls Tryz.prog 126 #[(Value.pointer r_1)] w R :=
  V.Z.calls_of_Z ⟨V.assoc [], V.assocP [], V.assocC [], V.assocS [], ⟨[], true⟩⟩ Tryz.func126 rfl rfl (Eq.mp (by kernel_rfl) h)

theorem image_reader_pod_nf (r_1 : Option Addr) (w : World) (R : Ending → World → Prop) (h :
  ∀ w2, w2 = (World.alloc w (.cells #[(Value.string ByteArray.empty), (Value.slice none 0 0), (Value.slice none 0 0), (Value.slice none 0 0), (Value.string ByteArray.empty), (Value.slice none 0 0), (Value.slice none 0 0), (Value.int .i64 0)] 68)) →
  ∀ w3, w3 = (World.alloc w2 (.cells #[(Value.string ByteArray.empty), (Value.slice none 0 0), (Value.slice none 0 0), (Value.slice none 0 0), (Value.string ByteArray.empty), (Value.slice none 0 0), (Value.slice none 0 0), (Value.int .i64 0)] 68)) →
  Calls Tryz.prog 119 #[(Value.pointer r_1)] w3 fun e5 w6 =>
  (∃ s4, e5 = Ending.returned (Value.string s4) ∧
  ∃ w7, Sem.run Tryz.prog (Instr.storeAt 9 (Value.pointer (some (Addr.add ⟨Array.size (World.heap w2), 0, none⟩ 0))) (Value.string s4)) w6 = .ok () w7 ∧
  Calls Tryz.prog 120 #[(Value.pointer r_1), (Value.func (.func 121) #[(Value.pointer r_1)] #[])] w7 fun e9 w10 =>
  (∃ A8, ∃ A8l, ∃ A8c, e9 = Ending.returned (Value.slice A8 A8l A8c) ∧
  ∃ w11, Sem.run Tryz.prog (Instr.storeAt 49 (Value.pointer (some (Addr.add ⟨Array.size (World.heap w2), 0, none⟩ 1))) (Value.slice A8 A8l A8c)) w10 = .ok () w11 ∧
  Calls Tryz.prog 124 #[(Value.pointer r_1), (Value.func (.func 125) #[(Value.pointer r_1)] #[])] w11 fun e13 w14 =>
  (∃ A12, ∃ A12l, ∃ A12c, e13 = Ending.returned (Value.slice A12 A12l A12c) ∧
  ∃ w15, Sem.run Tryz.prog (Instr.storeAt 51 (Value.pointer (some (Addr.add ⟨Array.size (World.heap w2), 0, none⟩ 2))) (Value.slice A12 A12l A12c)) w14 = .ok () w15 ∧
  Calls Tryz.prog 139 #[(Value.pointer r_1), (Value.func (.func 140) #[(Value.pointer r_1)] #[])] w15 fun e17 w18 =>
  (∃ A16, ∃ A16l, ∃ A16c, e17 = Ending.returned (Value.slice A16 A16l A16c) ∧
  ∃ w19, Sem.run Tryz.prog (Instr.storeAt 64 (Value.pointer (some (Addr.add ⟨Array.size (World.heap w2), 0, none⟩ 3))) (Value.slice A16 A16l A16c)) w18 = .ok () w19 ∧
  Calls Tryz.prog 119 #[(Value.pointer r_1)] w19 fun e21 w22 =>
  (∃ s20, e21 = Ending.returned (Value.string s20) ∧
  ∃ w23, Sem.run Tryz.prog (Instr.storeAt 9 (Value.pointer (some (Addr.add ⟨Array.size (World.heap w2), 0, none⟩ 4))) (Value.string s20)) w22 = .ok () w23 ∧
  Calls Tryz.prog 141 #[(Value.pointer r_1), (Value.func (.func 142) #[(Value.pointer r_1)] #[])] w23 fun e25 w26 =>
  (∃ A24, ∃ A24l, ∃ A24c, e25 = Ending.returned (Value.slice A24 A24l A24c) ∧
  ∃ w27, Sem.run Tryz.prog (Instr.storeAt 65 (Value.pointer (some (Addr.add ⟨Array.size (World.heap w2), 0, none⟩ 5))) (Value.slice A24 A24l A24c)) w26 = .ok () w27 ∧
  Calls Tryz.prog 143 #[(Value.pointer r_1), (Value.func (.func 144) #[(Value.pointer r_1)] #[])] w27 fun e29 w30 =>
  (∃ A28, ∃ A28l, ∃ A28c, e29 = Ending.returned (Value.slice A28 A28l A28c) ∧
  ∃ w31, Sem.run Tryz.prog (Instr.storeAt 66 (Value.pointer (some (Addr.add ⟨Array.size (World.heap w2), 0, none⟩ 6))) (Value.slice A28 A28l A28c)) w30 = .ok () w31 ∧
  Calls Tryz.prog 88 #[(Value.pointer r_1)] w31 fun e33 w34 =>
  (∃ n32, e33 = Ending.returned (Value.int .i64 n32) ∧
  ∃ w35, Sem.run Tryz.prog (Instr.storeAt 3 (Value.pointer (some (Addr.add ⟨Array.size (World.heap w2), 0, none⟩ 7))) (Value.int .i64 n32)) w34 = .ok () w35 ∧
  ∃ s36, ∃ A37, ∃ A37l, ∃ A37c, ∃ A38, ∃ A38l, ∃ A38c, ∃ A39, ∃ A39l, ∃ A39c, ∃ s40, ∃ A41, ∃ A41l, ∃ A41c, ∃ A42, ∃ A42l, ∃ A42c, ∃ n43, V.cellsC (fun a_ x_ => World.cell? w35 a_ = some x_) ⟨Array.size (World.heap w2), 0, none⟩ [(Value.string s36), (Value.slice A37 A37l A37c), (Value.slice A38 A38l A38c), (Value.slice A39 A39l A39c), (Value.string s40), (Value.slice A41 A41l A41c), (Value.slice A42 A42l A42c), (Value.int .i64 n43)] ∧
  ∃ w44, Sem.run Tryz.prog (Instr.storeAt 68 (Value.pointer (some ⟨Array.size (World.heap w), 0, none⟩)) (Value.agg #[(Value.string s36), (Value.slice A37 A37l A37c), (Value.slice A38 A38l A38c), (Value.slice A39 A39l A39c), (Value.string s40), (Value.slice A41 A41l A41c), (Value.slice A42 A42l A42c), (Value.int .i64 n43)])) w35 = .ok () w44 ∧
  ∃ s45, ∃ A46, ∃ A46l, ∃ A46c, ∃ A47, ∃ A47l, ∃ A47c, ∃ A48, ∃ A48l, ∃ A48c, ∃ s49, ∃ A50, ∃ A50l, ∃ A50c, ∃ A51, ∃ A51l, ∃ A51c, ∃ n52, V.cellsC (fun a_ x_ => World.cell? w44 a_ = some x_) ⟨Array.size (World.heap w), 0, none⟩ [(Value.string s45), (Value.slice A46 A46l A46c), (Value.slice A47 A47l A47c), (Value.slice A48 A48l A48c), (Value.string s49), (Value.slice A50 A50l A50c), (Value.slice A51 A51l A51c), (Value.int .i64 n52)] ∧
  R (Ending.returned (Value.agg #[(Value.string s45), (Value.slice A46 A46l A46c), (Value.slice A47 A47l A47c), (Value.slice A48 A48l A48c), (Value.string s49), (Value.slice A50 A50l A50c), (Value.slice A51 A51l A51c), (Value.int .i64 n52)])) w44) ∨
  (∃ ch53, e33 = Ending.panicked ch53 ∧ R (Ending.panicked ch53) w34)) ∨
  (∃ ch54, e29 = Ending.panicked ch54 ∧ R (Ending.panicked ch54) w30)) ∨
  (∃ ch55, e25 = Ending.panicked ch55 ∧ R (Ending.panicked ch55) w26)) ∨
  (∃ ch56, e21 = Ending.panicked ch56 ∧ R (Ending.panicked ch56) w22)) ∨
  (∃ ch57, e17 = Ending.panicked ch57 ∧ R (Ending.panicked ch57) w18)) ∨
  (∃ ch58, e13 = Ending.panicked ch58 ∧ R (Ending.panicked ch58) w14)) ∨
  (∃ ch59, e9 = Ending.panicked ch59 ∧ R (Ending.panicked ch59) w10)) ∨
  (∃ ch60, e5 = Ending.panicked ch60 ∧ R (Ending.panicked ch60) w6)) :
  Calls Tryz.prog 127 #[(Value.pointer r_1)] w R :=
  V.Z.calls_of_Z ⟨V.assoc [], V.assocP [], V.assocC [], V.assocS [], ⟨[], true⟩⟩ Tryz.func127 rfl rfl (Eq.mp (by kernel_rfl) h)

theorem image_reader_one_nf (r_1 : Option Addr) (w : World) (R : Ending → World → Prop) (h :
  ∃ J2 : World → Prop, (V.ptr r_1 fun a3 =>
  ∃ n4, World.cell? w (Addr.add a3 1) = some (Value.int .i64 n4) ∧
  V.ptr r_1 fun a5 =>
  ∃ A6, ∃ A6l, ∃ A6c, World.cell? w (Addr.add a5 0) = some (Value.slice A6 A6l A6c) ∧
  V.sel (decide (n4 ≥ ((A6l : Nat) : Int)))
  (V.ptr r_1 fun a7 =>
  ∃ A8, ∃ A8l, ∃ A8c, World.cell? (World.drew w) (Addr.add a7 0) = some (Value.slice A8 A8l A8c) ∧
  Calls Tryz.prog 62 #[(Value.pointer r_1), (Value.int .i64 262), (Value.int .i64 ((A8l : Nat) : Int))] (World.drew w) fun e9 w10 =>
  (e9 = Ending.returned undef ∧
  J2  w10) ∨
  (∃ ch11, e9 = Ending.panicked ch11 ∧ R (Ending.panicked ch11) w10))
  (J2  (World.drew w))) ∧
  ∀ (j12 : Nat → Value) (w13 : World), J2  w13 →
  V.ptr r_1 fun a14 =>
  ∃ A15, ∃ A15l, ∃ A15c, World.cell? w13 (Addr.add a14 0) = some (Value.slice A15 A15l A15c) ∧
  V.ptr r_1 fun a16 =>
  ∃ n17, World.cell? w13 (Addr.add a16 1) = some (Value.int .i64 n17) ∧
  V.when (decide ((0 : Int) ≤ n17 ∧ (n17 : Int) < ((A15l : Nat) : Int))) (V.ptr A15 fun a18 =>
  ∃ n19, World.cell? w13 (Addr.add a18 ((Int.toNat n17) * 1)) = some (Value.int .u8 n19) ∧
  V.ptr r_1 fun a20 =>
  ∃ n21, World.cell? (World.drew w13) (Addr.add a20 1) = some (Value.int .i64 n21) ∧
  V.ptr r_1 fun a22 =>
  ∃ w23, Sem.run Tryz.prog (Instr.storeAt 3 (Value.pointer (some (Addr.add a22 1))) (Value.int .i64 (IntKind.wrap .i64 (n21 + 1)))) (World.drew w13) = .ok () w23 ∧
  R (Ending.returned (Value.int .u8 n19)) w23)) :
  Calls Tryz.prog 138 #[(Value.pointer r_1)] w R :=
  V.Z.calls_of_Z ⟨V.assoc [], V.assocP [(1, V.line [0, 1, 2, 3, 4, 5, 6, 7, 8, 9]), (3, V.line [0, 1, 2, 3, 4, 5, 6, 7, 8, 9, 10])], V.assocC [(1000004, ([], []))], V.assocS [], ⟨[], true⟩⟩ Tryz.func138 rfl rfl (Eq.mp (by kernel_rfl) h)

theorem image_readList_api_Toleration__nf (r_1 : Option Addr) (one_f2 : Nat) (one_a3 : Array Value) (one_c4 : Array Value) (w : World) (R : Ending → World → Prop) (h :
  Calls Tryz.prog 87 #[(Value.pointer r_1)] w fun e6 w7 =>
  (∃ n5, e6 = Ending.returned (Value.int .i64 n5) ∧
  ∃ I8 : Option Addr → Nat → Nat → Int → World → Prop, ∃ μ9 : Option Addr → Nat → Nat → Int → World → Nat, I8 none 0 0 0 w7 ∧
  ∀ l_10 l_10l l_10c t8_11 (j12 : Nat → Value) (w13 : World), I8 l_10 l_10l l_10c t8_11 w13 →
  (V.sel (decide (t8_11 < n5))
  (V.when (V.hasB Tryz.prog one_f2) (Calls Tryz.prog one_f2 ⟨Array.toList one_a3 ++ [] ++ Array.toList one_c4⟩ w13 fun e18 w19 =>
  (∃ s14, ∃ s15, ∃ s16, ∃ s17, e18 = Ending.returned (Value.agg #[(Value.string s14), (Value.string s15), (Value.string s16), (Value.string s17)]) ∧
  ∀ w20, w20 = (World.alloc w19 (.cells #[(Value.string s14), (Value.string s15), (Value.string s16), (Value.string s17)] 123)) →
  ∃ A21, ∃ A21l, ∃ A21c, ∃ w22, Sem.run Tryz.prog (Builtin.append_ #[64, 64] 64 #[(Value.slice l_10 l_10l l_10c), (Value.slice (some ⟨Array.size (World.heap w19), 0, none⟩) 1 1)]) w20 = .ok (Value.slice A21 A21l A21c) w22 ∧
  I8 A21 A21l A21c (IntKind.wrap .i64 (t8_11 + 1)) w22 ∧ μ9 A21 A21l A21c (IntKind.wrap .i64 (t8_11 + 1)) w22 < μ9 l_10 l_10l l_10c t8_11 w13) ∨
  (∃ ch23, e18 = Ending.panicked ch23 ∧ R (Ending.panicked ch23) w19)))
  (R (Ending.returned (Value.slice l_10 l_10l l_10c)) w13))) ∨
  (∃ ch24, e6 = Ending.panicked ch24 ∧ R (Ending.panicked ch24) w7)) :
  Calls Tryz.prog 139 #[(Value.pointer r_1), (Value.func (.func one_f2) one_a3 one_c4)] w R :=
  V.Z.calls_of_Z ⟨V.assoc [(0, [5, 8])], V.assocP [], V.assocC [], V.assocS [], ⟨[], true⟩⟩ Tryz.func139 rfl rfl (Eq.mp (by kernel_rfl) h)

theorem image_reader_toleration_nf (r_1 : Option Addr) (w : World) (R : Ending → World → Prop) (h :
  ∀ w2, w2 = (World.alloc w (.cells #[(Value.string ByteArray.empty), (Value.string ByteArray.empty), (Value.string ByteArray.empty), (Value.string ByteArray.empty)] 123)) →
  Calls Tryz.prog 119 #[(Value.pointer r_1)] w2 fun e4 w5 =>
  (∃ s3, e4 = Ending.returned (Value.string s3) ∧
  Calls Tryz.prog 119 #[(Value.pointer r_1)] w5 fun e7 w8 =>
  (∃ s6, e7 = Ending.returned (Value.string s6) ∧
  Calls Tryz.prog 119 #[(Value.pointer r_1)] w8 fun e10 w11 =>
  (∃ s9, e10 = Ending.returned (Value.string s9) ∧
  Calls Tryz.prog 119 #[(Value.pointer r_1)] w11 fun e13 w14 =>
  (∃ s12, e13 = Ending.returned (Value.string s12) ∧
  ∃ w15, Sem.run Tryz.prog (Instr.storeAt 123 (Value.pointer (some ⟨Array.size (World.heap w), 0, none⟩)) (Value.agg #[(Value.string s3), (Value.string s6), (Value.string s9), (Value.string s12)])) w14 = .ok () w15 ∧
  ∃ s16, ∃ s17, ∃ s18, ∃ s19, V.cellsC (fun a_ x_ => World.cell? w15 a_ = some x_) ⟨Array.size (World.heap w), 0, none⟩ [(Value.string s16), (Value.string s17), (Value.string s18), (Value.string s19)] ∧
  R (Ending.returned (Value.agg #[(Value.string s16), (Value.string s17), (Value.string s18), (Value.string s19)])) w15) ∨
  (∃ ch20, e13 = Ending.panicked ch20 ∧ R (Ending.panicked ch20) w14)) ∨
  (∃ ch21, e10 = Ending.panicked ch21 ∧ R (Ending.panicked ch21) w11)) ∨
  (∃ ch22, e7 = Ending.panicked ch22 ∧ R (Ending.panicked ch22) w8)) ∨
  (∃ ch23, e4 = Ending.panicked ch23 ∧ R (Ending.panicked ch23) w5)) :
  Calls Tryz.prog 140 #[(Value.pointer r_1)] w R :=
  V.Z.calls_of_Z ⟨V.assoc [], V.assocP [], V.assocC [], V.assocS [], ⟨[], true⟩⟩ Tryz.func140 rfl rfl (Eq.mp (by kernel_rfl) h)

theorem image_readList_api_Apart__nf (r_1 : Option Addr) (one_f2 : Nat) (one_a3 : Array Value) (one_c4 : Array Value) (w : World) (R : Ending → World → Prop) (h :
  Calls Tryz.prog 87 #[(Value.pointer r_1)] w fun e6 w7 =>
  (∃ n5, e6 = Ending.returned (Value.int .i64 n5) ∧
  ∃ I8 : Option Addr → Nat → Nat → Int → World → Prop, ∃ μ9 : Option Addr → Nat → Nat → Int → World → Nat, I8 none 0 0 0 w7 ∧
  ∀ l_10 l_10l l_10c t8_11 (j12 : Nat → Value) (w13 : World), I8 l_10 l_10l l_10c t8_11 w13 →
  (V.sel (decide (t8_11 < n5))
  (V.when (V.hasB Tryz.prog one_f2) (Calls Tryz.prog one_f2 ⟨Array.toList one_a3 ++ [] ++ Array.toList one_c4⟩ w13 fun e16 w17 =>
  (∃ s14, ∃ s15, e16 = Ending.returned (Value.agg #[(Value.string s14), (Value.string s15)]) ∧
  ∀ w18, w18 = (World.alloc w17 (.cells #[(Value.string s14), (Value.string s15)] 125)) →
  ∃ A19, ∃ A19l, ∃ A19c, ∃ w20, Sem.run Tryz.prog (Builtin.append_ #[65, 65] 65 #[(Value.slice l_10 l_10l l_10c), (Value.slice (some ⟨Array.size (World.heap w17), 0, none⟩) 1 1)]) w18 = .ok (Value.slice A19 A19l A19c) w20 ∧
  I8 A19 A19l A19c (IntKind.wrap .i64 (t8_11 + 1)) w20 ∧ μ9 A19 A19l A19c (IntKind.wrap .i64 (t8_11 + 1)) w20 < μ9 l_10 l_10l l_10c t8_11 w13) ∨
  (∃ ch21, e16 = Ending.panicked ch21 ∧ R (Ending.panicked ch21) w17)))
  (R (Ending.returned (Value.slice l_10 l_10l l_10c)) w13))) ∨
  (∃ ch22, e6 = Ending.panicked ch22 ∧ R (Ending.panicked ch22) w7)) :
  Calls Tryz.prog 141 #[(Value.pointer r_1), (Value.func (.func one_f2) one_a3 one_c4)] w R :=
  V.Z.calls_of_Z ⟨V.assoc [(0, [5, 8])], V.assocP [], V.assocC [], V.assocS [], ⟨[], true⟩⟩ Tryz.func141 rfl rfl (Eq.mp (by kernel_rfl) h)

theorem image_reader_apart_nf (r_1 : Option Addr) (w : World) (R : Ending → World → Prop) (h :
  ∀ w2, w2 = (World.alloc w (.cells #[(Value.string ByteArray.empty), (Value.string ByteArray.empty)] 125)) →
  Calls Tryz.prog 119 #[(Value.pointer r_1)] w2 fun e4 w5 =>
  (∃ s3, e4 = Ending.returned (Value.string s3) ∧
  Calls Tryz.prog 119 #[(Value.pointer r_1)] w5 fun e7 w8 =>
  (∃ s6, e7 = Ending.returned (Value.string s6) ∧
  ∃ w9, Sem.run Tryz.prog (Instr.storeAt 125 (Value.pointer (some ⟨Array.size (World.heap w), 0, none⟩)) (Value.agg #[(Value.string s3), (Value.string s6)])) w8 = .ok () w9 ∧
  ∃ s10, ∃ s11, V.cellsC (fun a_ x_ => World.cell? w9 a_ = some x_) ⟨Array.size (World.heap w), 0, none⟩ [(Value.string s10), (Value.string s11)] ∧
  R (Ending.returned (Value.agg #[(Value.string s10), (Value.string s11)])) w9) ∨
  (∃ ch12, e7 = Ending.panicked ch12 ∧ R (Ending.panicked ch12) w8)) ∨
  (∃ ch13, e4 = Ending.panicked ch13 ∧ R (Ending.panicked ch13) w5)) :
  Calls Tryz.prog 142 #[(Value.pointer r_1)] w R :=
  V.Z.calls_of_Z ⟨V.assoc [], V.assocP [], V.assocC [], V.assocS [], ⟨[], true⟩⟩ Tryz.func142 rfl rfl (Eq.mp (by kernel_rfl) h)

theorem image_readList_api_Prefer__nf (r_1 : Option Addr) (one_f2 : Nat) (one_a3 : Array Value) (one_c4 : Array Value) (w : World) (R : Ending → World → Prop) (h :
  Calls Tryz.prog 87 #[(Value.pointer r_1)] w fun e6 w7 =>
  (∃ n5, e6 = Ending.returned (Value.int .i64 n5) ∧
  ∃ I8 : Option Addr → Nat → Nat → Int → World → Prop, ∃ μ9 : Option Addr → Nat → Nat → Int → World → Nat, I8 none 0 0 0 w7 ∧
  ∀ l_10 l_10l l_10c t8_11 (j12 : Nat → Value) (w13 : World), I8 l_10 l_10l l_10c t8_11 w13 →
  (V.sel (decide (t8_11 < n5))
  (V.when (V.hasB Tryz.prog one_f2) (Calls Tryz.prog one_f2 ⟨Array.toList one_a3 ++ [] ++ Array.toList one_c4⟩ w13 fun e16 w17 =>
  (∃ n14, ∃ s15, e16 = Ending.returned (Value.agg #[(Value.int .i64 n14), (Value.string s15)]) ∧
  ∀ w18, w18 = (World.alloc w17 (.cells #[(Value.int .i64 n14), (Value.string s15)] 127)) →
  ∃ A19, ∃ A19l, ∃ A19c, ∃ w20, Sem.run Tryz.prog (Builtin.append_ #[66, 66] 66 #[(Value.slice l_10 l_10l l_10c), (Value.slice (some ⟨Array.size (World.heap w17), 0, none⟩) 1 1)]) w18 = .ok (Value.slice A19 A19l A19c) w20 ∧
  I8 A19 A19l A19c (IntKind.wrap .i64 (t8_11 + 1)) w20 ∧ μ9 A19 A19l A19c (IntKind.wrap .i64 (t8_11 + 1)) w20 < μ9 l_10 l_10l l_10c t8_11 w13) ∨
  (∃ ch21, e16 = Ending.panicked ch21 ∧ R (Ending.panicked ch21) w17)))
  (R (Ending.returned (Value.slice l_10 l_10l l_10c)) w13))) ∨
  (∃ ch22, e6 = Ending.panicked ch22 ∧ R (Ending.panicked ch22) w7)) :
  Calls Tryz.prog 143 #[(Value.pointer r_1), (Value.func (.func one_f2) one_a3 one_c4)] w R :=
  V.Z.calls_of_Z ⟨V.assoc [(0, [5, 8])], V.assocP [], V.assocC [], V.assocS [], ⟨[], true⟩⟩ Tryz.func143 rfl rfl (Eq.mp (by kernel_rfl) h)

theorem image_reader_prefer_nf (r_1 : Option Addr) (w : World) (R : Ending → World → Prop) (h :
  ∀ w2, w2 = (World.alloc w (.cells #[(Value.int .i64 0), (Value.string ByteArray.empty)] 127)) →
  Calls Tryz.prog 88 #[(Value.pointer r_1)] w2 fun e4 w5 =>
  (∃ n3, e4 = Ending.returned (Value.int .i64 n3) ∧
  Calls Tryz.prog 119 #[(Value.pointer r_1)] w5 fun e7 w8 =>
  (∃ s6, e7 = Ending.returned (Value.string s6) ∧
  ∃ w9, Sem.run Tryz.prog (Instr.storeAt 127 (Value.pointer (some ⟨Array.size (World.heap w), 0, none⟩)) (Value.agg #[(Value.int .i64 n3), (Value.string s6)])) w8 = .ok () w9 ∧
  ∃ n10, ∃ s11, V.cellsC (fun a_ x_ => World.cell? w9 a_ = some x_) ⟨Array.size (World.heap w), 0, none⟩ [(Value.int .i64 n10), (Value.string s11)] ∧
  R (Ending.returned (Value.agg #[(Value.int .i64 n10), (Value.string s11)])) w9) ∨
  (∃ ch12, e7 = Ending.panicked ch12 ∧ R (Ending.panicked ch12) w8)) ∨
  (∃ ch13, e4 = Ending.panicked ch13 ∧ R (Ending.panicked ch13) w5)) :
  Calls Tryz.prog 144 #[(Value.pointer r_1)] w R :=
  V.Z.calls_of_Z ⟨V.assoc [], V.assocP [], V.assocC [], V.assocS [], ⟨[], true⟩⟩ Tryz.func144 rfl rfl (Eq.mp (by kernel_rfl) h)

end Go.Proofs.YtoaeefjcjdhlkaaGreat
