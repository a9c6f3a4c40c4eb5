/- Normal forms of the program's functions, printed by a program of mine; the kernel checks each. -/
import Derived.Test.YtjlkdadafddodaaGreatDoorProg
import Derived.Test.YtjlkdadafddodaaGreatDoorV2
set_option linter.unusedVariables false
set_option maxRecDepth 100000
namespace Go.Proofs.YtjlkdadafddodaaGreatDoor
open Go

theorem berthlaw08_full_nf (size_1 : Int) (w : World) (R : Ending → World → Prop) (h :
  Calls Tryz.prog 53 #[(Value.int .i64 size_1)] w fun e4 w5 =>
  ∃ p2, ∃ n3, e4 = Ending.returned (Value.tuple #[(Value.pointer p2), (Value.int .i64 n3)]) ∧
  ∃ I6 : Int → World → Prop, ∃ μ7 : Int → World → Nat, I6 0 w5 ∧
  ∀ slot_8 (j9 : Nat → Value) (w10 : World), I6 slot_8 w10 →
  (V.sel (decide (slot_8 < size_1))
  (Calls Tryz.prog 40 #[(Value.pointer p2), (Value.int .i64 slot_8)] w10 fun e12 w13 =>
  ∃ b11, e12 = Ending.returned (Value.bool b11) ∧
  I6 (IntKind.wrap .i64 (slot_8 + 1)) w13 ∧ μ7 (IntKind.wrap .i64 (slot_8 + 1)) w13 < μ7 slot_8 w10)
  (R (Ending.returned (Value.pointer p2)) w10))) :
  Calls Tryz.prog 23 #[(Value.int .i64 size_1)] w R :=
  V.calls_of_R ⟨V.assoc [(0, [5])], V.assocP [], V.assocC [], V.assocS [], ⟨[], true⟩⟩ Tryz.func23 rfl (Eq.mp (by kernel_rfl) h)

theorem berthlaw08_World_own_nf (w_1 : Option Addr) (i_2 : Int) (what_3 : Int) (key_4 : ByteArray) (n_5 : Int) (hi_6 : Int) (ns_7 : Option Addr) (ns_7l : Nat) (ns_7c : Nat) (all_8 : Option Addr) (w : World) (R : Ending → World → Prop) (h :
  ∀ w9, w9 = (World.alloc w (.cells #[] 3)) →
  ∃ A10, ∃ A10l, ∃ A10c, ∃ w11, Sem.run Tryz.prog (Builtin.append_ #[23, 23] 23 #[(Value.slice (some ⟨Array.size (World.heap w), 0, none⟩) 0 0), (Value.slice ns_7 ns_7l ns_7c)]) w9 = .ok (Value.slice A10 A10l A10c) w11 ∧
  Calls Tryz.prog 54 #[(Value.pointer w_1), (Value.int .i64 i_2), (Value.int .i64 what_3), (Value.string key_4), (Value.int .i64 n_5), (Value.int .i64 hi_6), (Value.slice A10 A10l A10c)] w11 fun e13 w14 =>
  ∃ A12, ∃ A12l, ∃ A12c, e13 = Ending.returned (Value.slice A12 A12l A12c) ∧
  ∃ I15 : Option Addr → Nat → Nat → Int → World → Prop, ∃ μ16 : Option Addr → Nat → Nat → Int → World → Nat, I15 none 0 0 0 w14 ∧
  ∀ sets_17 sets_17l sets_17c k_18 (j19 : Nat → Value) (w20 : World), I15 sets_17 sets_17l sets_17c k_18 w20 →
  (V.sel (decide (k_18 < 6))
  (Calls Tryz.prog 55 #[(Value.pointer w_1), (Value.int .i64 i_2), (Value.int .i64 what_3), (Value.string key_4), (Value.int .i64 n_5), (Value.int .i64 hi_6), (Value.slice ns_7 ns_7l ns_7c)] w20 fun e22 w23 =>
  ∃ p21, e22 = Ending.returned (Value.pointer p21) ∧
  Calls Tryz.prog 9 #[(Value.pointer w_1), (Value.int .i64 i_2), (Value.pointer p21), (Value.slice A12 A12l A12c)] w23 fun e25 w26 =>
  ∃ b24, e25 = Ending.returned (Value.bool b24) ∧
  V.sel (!b24)
  (R (Ending.returned (Value.bool false)) w26)
  (∀ w27, w27 = (World.alloc w26 (.cells #[(Value.pointer p21)] 43)) →
  ∃ A28, ∃ A28l, ∃ A28c, ∃ w29, Sem.run Tryz.prog (Builtin.append_ #[104, 104] 104 #[(Value.slice sets_17 sets_17l sets_17c), (Value.slice (some ⟨Array.size (World.heap w26), 0, none⟩) 1 1)]) w27 = .ok (Value.slice A28 A28l A28c) w29 ∧
  I15 A28 A28l A28c (IntKind.wrap .i64 (k_18 + 1)) w29 ∧ μ16 A28 A28l A28c (IntKind.wrap .i64 (k_18 + 1)) w29 < μ16 sets_17 sets_17l sets_17c k_18 w20))
  (∃ I30 : Int → World → Prop, ∃ μ31 : Int → World → Nat, I30 0 w20 ∧
  ∀ t63_32 (j33 : Nat → Value) (w34 : World), I30 t63_32 w34 →
  (V.sel (decide (t63_32 < ((sets_17l : Nat) : Int)))
  (V.when (decide ((0 : Int) ≤ t63_32 ∧ (t63_32 : Int) < ((sets_17l : Nat) : Int))) (V.ptr sets_17 fun a35 =>
  ∃ p36, World.cell? w34 (Addr.add a35 ((Int.toNat t63_32) * 1)) = some (Value.pointer p36) ∧
  Calls Tryz.prog 9 #[(Value.pointer w_1), (Value.int .i64 i_2), (Value.pointer p36), (Value.slice A12 A12l A12c)] w34 fun e38 w39 =>
  ∃ b37, e38 = Ending.returned (Value.bool b37) ∧
  V.sel (!b37)
  (R (Ending.returned (Value.bool false)) w39)
  (I30 (IntKind.wrap .i64 (t63_32 + 1)) w39 ∧ μ31 (IntKind.wrap .i64 (t63_32 + 1)) w39 < μ31 t63_32 w34)))
  (V.ptr w_1 fun a40 =>
  V.when (decide ((0 : Int) ≤ i_2 ∧ (i_2 : Int) < 4)) (∃ p41, World.cell? w34 (Addr.add (Addr.add a40 0) ((Int.toNat i_2) * 1)) = some (Value.pointer p41) ∧
  V.sel (Option.isNone p41)
  (R (Ending.returned (Value.bool true)) w34)
  (∃ I42 : Int → World → Prop, ∃ μ43 : Int → World → Nat, I42 0 w34 ∧
  ∀ t83_44 (j45 : Nat → Value) (w46 : World), I42 t83_44 w46 →
  (V.sel (decide (t83_44 < ((sets_17l : Nat) : Int)))
  (V.when (decide ((0 : Int) ≤ t83_44 ∧ (t83_44 : Int) < ((sets_17l : Nat) : Int))) (V.ptr sets_17 fun a47 =>
  ∃ p48, World.cell? w46 (Addr.add a47 ((Int.toNat t83_44) * 1)) = some (Value.pointer p48) ∧
  Calls Tryz.prog 56 #[(Value.pointer p48), (Value.pointer all_8)] w46 fun e49 w50 =>
  e49 = Ending.returned undef ∧
  I42 (IntKind.wrap .i64 (t83_44 + 1)) w50 ∧ μ43 (IntKind.wrap .i64 (t83_44 + 1)) w50 < μ43 t83_44 w46))
  (∃ I51 : Int → World → Prop, ∃ μ52 : Int → World → Nat, I51 0 w46 ∧
  ∀ t93_53 (j54 : Nat → Value) (w55 : World), I51 t93_53 w55 →
  (V.sel (decide (t93_53 < ((sets_17l : Nat) : Int)))
  (V.when (decide ((0 : Int) ≤ t93_53 ∧ (t93_53 : Int) < ((sets_17l : Nat) : Int))) (V.ptr sets_17 fun a56 =>
  ∃ p57, World.cell? w55 (Addr.add a56 ((Int.toNat t93_53) * 1)) = some (Value.pointer p57) ∧
  Calls Tryz.prog 26 #[(Value.pointer p57)] w55 fun e59 w60 =>
  ∃ n58, e59 = Ending.returned (Value.int .i64 n58) ∧
  Calls Tryz.prog 41 #[(Value.pointer p57)] w60 fun e62 w63 =>
  ∃ n61, e62 = Ending.returned (Value.int .i64 n61) ∧
  V.sel (n58 != (IntKind.wrap .i64 (n61 - ((A12l : Nat) : Int))))
  (R (Ending.returned (Value.bool false)) w63)
  (∃ I64 : Int → World → Prop, ∃ μ65 : Int → World → Nat, I64 0 w63 ∧
  ∀ t107_66 (j67 : Nat → Value) (w68 : World), I64 t107_66 w68 →
  (V.sel (decide (t107_66 < ((A12l : Nat) : Int)))
  (V.when (decide ((0 : Int) ≤ t107_66 ∧ (t107_66 : Int) < ((A12l : Nat) : Int))) (V.ptr A12 fun a69 =>
  ∃ n70, World.cell? w68 (Addr.add a69 ((Int.toNat t107_66) * 1)) = some (Value.int .i64 n70) ∧
  Calls Tryz.prog 57 #[(Value.pointer p57), (Value.int .i64 n70)] w68 fun e72 w73 =>
  ∃ b71, e72 = Ending.returned (Value.bool b71) ∧
  V.sel b71
  (R (Ending.returned (Value.bool false)) w73)
  (I64 (IntKind.wrap .i64 (t107_66 + 1)) w73 ∧ μ65 (IntKind.wrap .i64 (t107_66 + 1)) w73 < μ65 t107_66 w68)))
  (I51 (IntKind.wrap .i64 (t93_53 + 1)) w68 ∧ μ52 (IntKind.wrap .i64 (t93_53 + 1)) w68 < μ52 t93_53 w55)))))
  (Calls Tryz.prog 55 #[(Value.pointer w_1), (Value.int .i64 i_2), (Value.int .i64 what_3), (Value.string key_4), (Value.int .i64 n_5), (Value.int .i64 hi_6), (Value.slice ns_7 ns_7l ns_7c)] w55 fun e75 w76 =>
  ∃ p74, e75 = Ending.returned (Value.pointer p74) ∧
  Calls Tryz.prog 9 #[(Value.pointer w_1), (Value.int .i64 i_2), (Value.pointer p74), (Value.slice A12 A12l A12c)] w76 fun e78 w79 =>
  ∃ b77, e78 = Ending.returned (Value.bool b77) ∧
  R (Ending.returned (Value.bool b77)) w79))))))))))) :
  Calls Tryz.prog 24 #[(Value.pointer w_1), (Value.int .i64 i_2), (Value.int .i64 what_3), (Value.string key_4), (Value.int .i64 n_5), (Value.int .i64 hi_6), (Value.slice ns_7 ns_7l ns_7c), (Value.pointer all_8)] w R :=
  V.calls_of_R ⟨V.assoc [(0, [18, 19]), (1, [63]), (2, [83]), (3, [93]), (4, [107])], V.assocP [], V.assocC [], V.assocS [], ⟨[], true⟩⟩ Tryz.func24 rfl (Eq.mp (by kernel_rfl) h)

theorem berthref08_Index_Numbers_nf (x_1 : Int) (x_2 : Option Addr) (x_2l : Nat) (x_2c : Nat) (key_3 : ByteArray) (w : World) (R : Ending → World → Prop) (h :
  ∀ w4, w4 = (World.alloc w (.cells #[(Value.int .i64 x_1), (Value.slice x_2 x_2l x_2c)] 36)) →
  ∀ w5, w5 = (World.alloc w4 (.cells #[] 3)) →
  ∃ I6 : Option Addr → Nat → Nat → Int → World → Prop, ∃ μ7 : Option Addr → Nat → Nat → Int → World → Nat, I6 (some ⟨Array.size (World.heap w4), 0, none⟩) 0 0 0 w5 ∧
  ∀ all_8 all_8l all_8c i_9 (j10 : Nat → Value) (w11 : World), I6 all_8 all_8l all_8c i_9 w11 →
  (∃ A12, ∃ A12l, ∃ A12c, World.cell? w11 (Addr.add ⟨Array.size (World.heap w), 0, none⟩ 1) = some (Value.slice A12 A12l A12c) ∧
  V.sel (decide (i_9 < ((A12l : Nat) : Int)))
  (∃ A13, ∃ A13l, ∃ A13c, World.cell? w11 (Addr.add ⟨Array.size (World.heap w), 0, none⟩ 1) = some (Value.slice A13 A13l A13c) ∧
  V.when (decide ((0 : Int) ≤ i_9 ∧ (i_9 : Int) < ((A13l : Nat) : Int))) (V.ptr A13 fun a14 =>
  ∃ s15, World.cell? w11 (Addr.add (Addr.add a14 ((Int.toNat i_9) * 3)) 0) = some (Value.string s15) ∧
  V.sel (ByteArray.toList s15 == ByteArray.toList key_3)
  (∃ A16, ∃ A16l, ∃ A16c, World.cell? w11 (Addr.add ⟨Array.size (World.heap w), 0, none⟩ 1) = some (Value.slice A16 A16l A16c) ∧
  V.when (decide ((0 : Int) ≤ i_9 ∧ (i_9 : Int) < ((A16l : Nat) : Int))) (V.ptr A16 fun a17 =>
  ∃ n18, World.cell? w11 (Addr.add (Addr.add a17 ((Int.toNat i_9) * 3)) 2) = some (Value.int .i64 n18) ∧
  ∀ w19, w19 = (World.alloc w11 (.cells #[(Value.int .i64 n18)] 3)) →
  ∃ A20, ∃ A20l, ∃ A20c, ∃ w21, Sem.run Tryz.prog (Builtin.append_ #[23, 23] 23 #[(Value.slice all_8 all_8l all_8c), (Value.slice (some ⟨Array.size (World.heap w11), 0, none⟩) 1 1)]) w19 = .ok (Value.slice A20 A20l A20c) w21 ∧
  I6 A20 A20l A20c (IntKind.wrap .i64 (i_9 + 1)) w21 ∧ μ7 A20 A20l A20c (IntKind.wrap .i64 (i_9 + 1)) w21 < μ7 all_8 all_8l all_8c i_9 w11))
  (I6 all_8 all_8l all_8c (IntKind.wrap .i64 (i_9 + 1)) w11 ∧ μ7 all_8 all_8l all_8c (IntKind.wrap .i64 (i_9 + 1)) w11 < μ7 all_8 all_8l all_8c i_9 w11)))
  (Calls Tryz.prog 31 #[(Value.slice all_8 all_8l all_8c)] w11 fun e23 w24 =>
  ∃ A22, ∃ A22l, ∃ A22c, e23 = Ending.returned (Value.slice A22 A22l A22c) ∧
  R (Ending.returned (Value.slice A22 A22l A22c)) w24))) :
  Calls Tryz.prog 25 #[(Value.agg #[(Value.int .i64 x_1), (Value.slice x_2 x_2l x_2c)]), (Value.string key_3)] w R :=
  V.calls_of_R ⟨V.assoc [(0, [5, 6])], V.assocP [], V.assocC [], V.assocS [], ⟨[], true⟩⟩ Tryz.func25 rfl (Eq.mp (by kernel_rfl) h)

theorem ordered_Index_empty_nf (x_1 : Option Addr) (w : World) (R : Ending → World → Prop) (h :
  V.sel (!(Option.isNone x_1))
  (V.ptr x_1 fun a2 =>
  ∃ n3, World.cell? w (Addr.add a2 0) = some (Value.int .i64 n3) ∧
  Calls Tryz.prog 53 #[(Value.int .i64 n3)] w fun e6 w7 =>
  ∃ p4, ∃ n5, e6 = Ending.returned (Value.tuple #[(Value.pointer p4), (Value.int .i64 n5)]) ∧
  R (Ending.returned (Value.pointer p4)) w7)
  (Calls Tryz.prog 53 #[(Value.int .i64 0)] w fun e10 w11 =>
  ∃ p8, ∃ n9, e10 = Ending.returned (Value.tuple #[(Value.pointer p8), (Value.int .i64 n9)]) ∧
  R (Ending.returned (Value.pointer p8)) w11)) :
  Calls Tryz.prog 27 #[(Value.pointer x_1)] w R :=
  V.calls_of_R ⟨V.assoc [], V.assocP [], V.assocC [], V.assocS [], ⟨[], true⟩⟩ Tryz.func27 rfl (Eq.mp (by kernel_rfl) h)

theorem ordered_Index_column_nf (x_1 : Option Addr) (key_2 : ByteArray) (w : World) (R : Ending → World → Prop) (h :
  V.sel (!(Option.isNone x_1))
  (V.ptr x_1 fun a3 =>
  ∃ m4, World.cell? w (Addr.add a3 1) = some (Value.map m4) ∧
  ∃ p5, ∃ w6, Sem.run Tryz.prog (Instr.lookup 80 (Value.map m4) (Value.string key_2) false) w = .ok (Value.pointer p5) w6 ∧
  V.sel (!(Option.isNone p5))
  (R (Ending.returned (Value.pointer p5)) w6)
  (∀ w7, w7 = (World.alloc w6 (.cells #[(Value.slice none 0 0), (Value.map none)] 87)) →
  R (Ending.returned (Value.pointer (some ⟨Array.size (World.heap w6), 0, none⟩))) w7))
  (∀ w8, w8 = (World.alloc w (.cells #[(Value.slice none 0 0), (Value.map none)] 87)) →
  R (Ending.returned (Value.pointer (some ⟨Array.size (World.heap w), 0, none⟩))) w8)) :
  Calls Tryz.prog 28 #[(Value.pointer x_1), (Value.string key_2)] w R :=
  V.calls_of_R ⟨V.assoc [], V.assocP [], V.assocC [], V.assocS [], ⟨[], true⟩⟩ Tryz.func28 rfl (Eq.mp (by kernel_rfl) h)

theorem ordered_column_from_nf (c_1 : Option Addr) (lo_2 : Int) (hi_3 : Int) (w : World) (R : Ending → World → Prop) (h :
  ∀ w4, w4 = (World.alloc w (.cells #[(Value.pointer c_1)] 69)) →
  ∀ w5, w5 = (World.alloc w4 (.cells #[(Value.int .i64 lo_2)] 3)) →
  ∀ w6, w6 = (World.alloc w5 (.cells #[(Value.int .i64 hi_3)] 3)) →
  R (Ending.returned (Value.func (.func 59) #[] #[(Value.pointer (some ⟨Array.size (World.heap w), 0, none⟩)), (Value.pointer (some ⟨Array.size (World.heap w4), 0, none⟩)), (Value.pointer (some ⟨Array.size (World.heap w5), 0, none⟩))])) w6) :
  Calls Tryz.prog 29 #[(Value.pointer c_1), (Value.int .i64 lo_2), (Value.int .i64 hi_3)] w R :=
  V.calls_of_R ⟨V.assoc [], V.assocP [], V.assocC [], V.assocS [], ⟨[], true⟩⟩ Tryz.func29 rfl (Eq.mp (by kernel_rfl) h)

theorem berthref08_rising_nf (all_1 : Option Addr) (all_1l : Nat) (all_1c : Nat) (w : World) (R : Ending → World → Prop) (h :
  ∀ w2, w2 = (World.alloc w (.cells #[] 3)) →
  ∃ I3 : Option Addr → Nat → Nat → Int → World → Prop, ∃ μ4 : Option Addr → Nat → Nat → Int → World → Nat, I3 (some ⟨Array.size (World.heap w), 0, none⟩) 0 0 0 w2 ∧
  ∀ out_5 out_5l out_5c i_6 (j7 : Nat → Value) (w8 : World), I3 out_5 out_5l out_5c i_6 w8 →
  (V.sel (decide (i_6 < ((all_1l : Nat) : Int)))
  (∃ J9 : Int → World → Prop, (∃ I10 : Int → World → Prop, ∃ μ11 : Int → World → Nat, I10 0 w8 ∧
  ∀ at_12 (j13 : Nat → Value) (w14 : World), I10 at_12 w14 →
  (V.sel (decide (at_12 < ((out_5l : Nat) : Int)))
  (V.when (decide ((0 : Int) ≤ at_12 ∧ (at_12 : Int) < ((out_5l : Nat) : Int))) (V.ptr out_5 fun a15 =>
  ∃ n16, World.cell? w14 (Addr.add a15 ((Int.toNat at_12) * 1)) = some (Value.int .i64 n16) ∧
  V.when (decide ((0 : Int) ≤ i_6 ∧ (i_6 : Int) < ((all_1l : Nat) : Int))) (V.ptr all_1 fun a17 =>
  ∃ n18, World.cell? w14 (Addr.add a17 ((Int.toNat i_6) * 1)) = some (Value.int .i64 n18) ∧
  V.sel (decide (n16 < n18))
  (I10 (IntKind.wrap .i64 (at_12 + 1)) (World.drew w14) ∧ μ11 (IntKind.wrap .i64 (at_12 + 1)) (World.drew w14) < μ11 at_12 w14)
  (J9 at_12 (World.drew w14)))))
  (J9 at_12 (World.drew w14)))) ∧
  ∀ at_19 (j20 : Nat → Value) (w21 : World), J9 at_19 w21 →
  ∃ J22 : World → Prop, (V.sel (decide (at_19 < ((out_5l : Nat) : Int)))
  (V.when (decide ((0 : Int) ≤ at_19 ∧ (at_19 : Int) < ((out_5l : Nat) : Int))) (V.ptr out_5 fun a23 =>
  ∃ n24, World.cell? w21 (Addr.add a23 ((Int.toNat at_19) * 1)) = some (Value.int .i64 n24) ∧
  V.when (decide ((0 : Int) ≤ i_6 ∧ (i_6 : Int) < ((all_1l : Nat) : Int))) (V.ptr all_1 fun a25 =>
  ∃ n26, World.cell? w21 (Addr.add a25 ((Int.toNat i_6) * 1)) = some (Value.int .i64 n26) ∧
  V.sel (n24 == n26)
  (I3 out_5 out_5l out_5c (IntKind.wrap .i64 (i_6 + 1)) (World.drew w21) ∧ μ4 out_5 out_5l out_5c (IntKind.wrap .i64 (i_6 + 1)) (World.drew w21) < μ4 out_5 out_5l out_5c i_6 w8)
  (J22  (World.drew w21)))))
  (J22  (World.drew w21))) ∧
  ∀ (j27 : Nat → Value) (w28 : World), J22  w28 →
  ∀ w29, w29 = (World.alloc w28 (.cells #[(Value.int .i64 0)] 3)) →
  ∃ A30, ∃ A30l, ∃ A30c, ∃ w31, Sem.run Tryz.prog (Builtin.append_ #[23, 23] 23 #[(Value.slice out_5 out_5l out_5c), (Value.slice (some ⟨Array.size (World.heap w28), 0, none⟩) 1 1)]) w29 = .ok (Value.slice A30 A30l A30c) w31 ∧
  V.lt (IntKind.wrap .i64 (((A30l : Nat) : Int) - 1)) fun x32 =>
  ∃ I33 : Int → World → Prop, ∃ μ34 : Int → World → Nat, I33 x32 w31 ∧
  ∀ j_35 (j36 : Nat → Value) (w37 : World), I33 j_35 w37 →
  (V.sel (decide (j_35 > at_19))
  (V.when (decide ((0 : Int) ≤ (IntKind.wrap .i64 (j_35 - 1)) ∧ ((IntKind.wrap .i64 (j_35 - 1)) : Int) < ((A30l : Nat) : Int))) (V.ptr A30 fun a38 =>
  ∃ n39, World.cell? w37 (Addr.add a38 ((Int.toNat (IntKind.wrap .i64 (j_35 - 1))) * 1)) = some (Value.int .i64 n39) ∧
  V.when (decide ((0 : Int) ≤ j_35 ∧ (j_35 : Int) < ((A30l : Nat) : Int))) (V.ptr A30 fun a40 =>
  ∃ w41, Sem.run Tryz.prog (Instr.storeAt 3 (Value.pointer (some (Addr.add a40 ((Int.toNat j_35) * 1)))) (Value.int .i64 n39)) w37 = .ok () w41 ∧
  I33 (IntKind.wrap .i64 (j_35 - 1)) w41 ∧ μ34 (IntKind.wrap .i64 (j_35 - 1)) w41 < μ34 j_35 w37)))
  (V.when (decide ((0 : Int) ≤ i_6 ∧ (i_6 : Int) < ((all_1l : Nat) : Int))) (V.ptr all_1 fun a42 =>
  ∃ n43, World.cell? w37 (Addr.add a42 ((Int.toNat i_6) * 1)) = some (Value.int .i64 n43) ∧
  V.when (decide ((0 : Int) ≤ at_19 ∧ (at_19 : Int) < ((A30l : Nat) : Int))) (V.ptr A30 fun a44 =>
  ∃ w45, Sem.run Tryz.prog (Instr.storeAt 3 (Value.pointer (some (Addr.add a44 ((Int.toNat at_19) * 1)))) (Value.int .i64 n43)) w37 = .ok () w45 ∧
  I3 A30 A30l A30c (IntKind.wrap .i64 (i_6 + 1)) w45 ∧ μ4 A30 A30l A30c (IntKind.wrap .i64 (i_6 + 1)) w45 < μ4 out_5 out_5l out_5c i_6 w8)))))
  (R (Ending.returned (Value.slice out_5 out_5l out_5c)) w8))) :
  Calls Tryz.prog 31 #[(Value.slice all_1 all_1l all_1c)] w R :=
  V.calls_of_R ⟨V.assoc [(0, [3, 4]), (1, [5]), (2, [6])], V.assocP [(6, V.line [0, 1, 2, 3, 4, 5, 6, 7, 8, 9, 10, 11, 12, 13, 14]), (8, V.line [0, 1, 2, 3, 4, 5, 6, 7, 8, 9, 10, 11, 12, 13, 14])], V.assocC [(1000009, ([5], [V.Sh.one (.int .i64)])), (1000010, ([], []))], V.assocS [], ⟨[], true⟩⟩ Tryz.func31 rfl (Eq.mp (by kernel_rfl) h)

theorem ordered_Index_Keys_nf (x_1 : Option Addr) (w : World) (R : Ending → World → Prop) (h :
  V.sel (!(Option.isNone x_1))
  (V.ptr x_1 fun a2 =>
  ∃ m3, World.cell? w (Addr.add a2 1) = some (Value.map m3) ∧
  ∃ p4, ∃ w5, Sem.run Tryz.prog (Instr.range 80 (Value.map m3)) w = .ok (Value.pointer p4) w5 ∧
  ∃ I6 : Option Addr → Nat → Nat → World → Prop, ∃ μ7 : Option Addr → Nat → Nat → World → Nat, I6 none 0 0 w5 ∧
  ∀ keys_8 keys_8l keys_8c (j9 : Nat → Value) (w10 : World), I6 keys_8 keys_8l keys_8c w10 →
  ((∃ w11, Sem.run Tryz.prog (Instr.next (Value.pointer p4) false 0) w10 = .ok (.tuple #[.bool false]) w11 ∧
  Calls Tryz.prog 61 #[(Value.slice keys_8 keys_8l keys_8c)] w11 fun e12 w13 =>
  e12 = Ending.returned undef ∧
  R (Ending.returned (Value.slice keys_8 keys_8l keys_8c)) w13) ∨
  (∃ k14, ∃ v15, ∃ w16, Sem.run Tryz.prog (Instr.next (Value.pointer p4) false 0) w10 = .ok (.tuple #[.bool true, k14, v15]) w16 ∧
  ∃ k17, ∃ v18, ∃ w19, Sem.run Tryz.prog (Instr.entry (Value.pointer p4)) w16 = .ok (.tuple #[.string k17, v18]) w19 ∧
  ∀ w20, w20 = (World.alloc w19 (.cells #[(Value.string k17)] 9)) →
  ∃ A21, ∃ A21l, ∃ A21c, ∃ w22, Sem.run Tryz.prog (Builtin.append_ #[33, 33] 33 #[(Value.slice keys_8 keys_8l keys_8c), (Value.slice (some ⟨Array.size (World.heap w19), 0, none⟩) 1 1)]) w20 = .ok (Value.slice A21 A21l A21c) w22 ∧
  I6 A21 A21l A21c w22 ∧ μ7 A21 A21l A21c w22 < μ7 keys_8 keys_8l keys_8c w10)))
  (Calls Tryz.prog 61 #[(Value.slice none 0 0)] w fun e23 w24 =>
  e23 = Ending.returned undef ∧
  R (Ending.returned (Value.slice none 0 0)) w24)) :
  Calls Tryz.prog 32 #[(Value.pointer x_1)] w R :=
  V.calls_of_R ⟨V.assoc [(0, [3])], V.assocP [], V.assocC [], V.assocS [], ⟨[], true⟩⟩ Tryz.func32 rfl (Eq.mp (by kernel_rfl) h)

theorem berthlaw08_textsAre_nf (a_1 : Option Addr) (a_1l : Nat) (a_1c : Nat) (b_2 : Option Addr) (b_2l : Nat) (b_2c : Nat) (w : World) (R : Ending → World → Prop) (h :
  V.sel (((a_1l : Nat) : Int) != ((b_2l : Nat) : Int))
  (R (Ending.returned (Value.bool false)) w)
  (∃ I3 : Int → World → Prop, ∃ μ4 : Int → World → Nat, I3 0 w ∧
  ∀ t13_5 (j6 : Nat → Value) (w7 : World), I3 t13_5 w7 →
  (V.sel (decide (t13_5 < ((a_1l : Nat) : Int)))
  (V.when (decide ((0 : Int) ≤ t13_5 ∧ (t13_5 : Int) < ((a_1l : Nat) : Int))) (V.ptr a_1 fun a8 =>
  ∃ s9, World.cell? w7 (Addr.add a8 ((Int.toNat t13_5) * 1)) = some (Value.string s9) ∧
  V.when (decide ((0 : Int) ≤ t13_5 ∧ (t13_5 : Int) < ((b_2l : Nat) : Int))) (V.ptr b_2 fun a10 =>
  ∃ s11, World.cell? w7 (Addr.add a10 ((Int.toNat t13_5) * 1)) = some (Value.string s11) ∧
  V.sel (!(ByteArray.toList s9 == ByteArray.toList s11))
  (R (Ending.returned (Value.bool false)) (World.drew w7))
  (I3 (IntKind.wrap .i64 (t13_5 + 1)) (World.drew w7) ∧ μ4 (IntKind.wrap .i64 (t13_5 + 1)) (World.drew w7) < μ4 t13_5 w7))))
  (R (Ending.returned (Value.bool true)) w7)))) :
  Calls Tryz.prog 33 #[(Value.slice a_1 a_1l a_1c), (Value.slice b_2 b_2l b_2c)] w R :=
  V.calls_of_R ⟨V.assoc [(0, [13])], V.assocP [(6, V.line [0, 1, 2, 3, 4, 5, 6, 7, 8])], V.assocC [], V.assocS [], ⟨[], true⟩⟩ Tryz.func33 rfl (Eq.mp (by kernel_rfl) h)

theorem berthref08_Index_Has_nf (x_1 : Int) (x_2 : Option Addr) (x_2l : Nat) (x_2c : Nat) (key_3 : ByteArray) (w : World) (R : Ending → World → Prop) (h :
  ∀ w4, w4 = (World.alloc w (.cells #[(Value.int .i64 x_1), (Value.slice x_2 x_2l x_2c)] 36)) →
  ∀ w5, w5 = (World.alloc w4 (.cells #[] 3)) →
  ∃ I6 : Option Addr → Nat → Nat → Int → World → Prop, ∃ μ7 : Option Addr → Nat → Nat → Int → World → Nat, I6 (some ⟨Array.size (World.heap w4), 0, none⟩) 0 0 0 w5 ∧
  ∀ all_8 all_8l all_8c i_9 (j10 : Nat → Value) (w11 : World), I6 all_8 all_8l all_8c i_9 w11 →
  (∃ A12, ∃ A12l, ∃ A12c, World.cell? w11 (Addr.add ⟨Array.size (World.heap w), 0, none⟩ 1) = some (Value.slice A12 A12l A12c) ∧
  V.sel (decide (i_9 < ((A12l : Nat) : Int)))
  (∃ A13, ∃ A13l, ∃ A13c, World.cell? w11 (Addr.add ⟨Array.size (World.heap w), 0, none⟩ 1) = some (Value.slice A13 A13l A13c) ∧
  V.when (decide ((0 : Int) ≤ i_9 ∧ (i_9 : Int) < ((A13l : Nat) : Int))) (V.ptr A13 fun a14 =>
  ∃ s15, World.cell? w11 (Addr.add (Addr.add a14 ((Int.toNat i_9) * 3)) 0) = some (Value.string s15) ∧
  V.sel (ByteArray.toList s15 == ByteArray.toList key_3)
  (∃ A16, ∃ A16l, ∃ A16c, World.cell? w11 (Addr.add ⟨Array.size (World.heap w), 0, none⟩ 1) = some (Value.slice A16 A16l A16c) ∧
  V.when (decide ((0 : Int) ≤ i_9 ∧ (i_9 : Int) < ((A16l : Nat) : Int))) (V.ptr A16 fun a17 =>
  ∃ n18, World.cell? w11 (Addr.add (Addr.add a17 ((Int.toNat i_9) * 3)) 1) = some (Value.int .i64 n18) ∧
  ∀ w19, w19 = (World.alloc w11 (.cells #[(Value.int .i64 n18)] 3)) →
  ∃ A20, ∃ A20l, ∃ A20c, ∃ w21, Sem.run Tryz.prog (Builtin.append_ #[23, 23] 23 #[(Value.slice all_8 all_8l all_8c), (Value.slice (some ⟨Array.size (World.heap w11), 0, none⟩) 1 1)]) w19 = .ok (Value.slice A20 A20l A20c) w21 ∧
  I6 A20 A20l A20c (IntKind.wrap .i64 (i_9 + 1)) w21 ∧ μ7 A20 A20l A20c (IntKind.wrap .i64 (i_9 + 1)) w21 < μ7 all_8 all_8l all_8c i_9 w11))
  (I6 all_8 all_8l all_8c (IntKind.wrap .i64 (i_9 + 1)) w11 ∧ μ7 all_8 all_8l all_8c (IntKind.wrap .i64 (i_9 + 1)) w11 < μ7 all_8 all_8l all_8c i_9 w11)))
  (Calls Tryz.prog 31 #[(Value.slice all_8 all_8l all_8c)] w11 fun e23 w24 =>
  ∃ A22, ∃ A22l, ∃ A22c, e23 = Ending.returned (Value.slice A22 A22l A22c) ∧
  R (Ending.returned (Value.slice A22 A22l A22c)) w24))) :
  Calls Tryz.prog 35 #[(Value.agg #[(Value.int .i64 x_1), (Value.slice x_2 x_2l x_2c)]), (Value.string key_3)] w R :=
  V.calls_of_R ⟨V.assoc [(0, [5, 6])], V.assocP [], V.assocC [], V.assocS [], ⟨[], true⟩⟩ Tryz.func35 rfl (Eq.mp (by kernel_rfl) h)

theorem berthlaw08_World_rows_nf (w_1 : Option Addr) (i_2 : Int) (key_3 : ByteArray) (n_4 : Int) (w : World) (R : Ending → World → Prop) (h :
  ∀ w5, w5 = (World.alloc w (.cells #[(Value.pointer w_1)] 25)) →
  ∀ w6, w6 = (World.alloc w5 (.cells #[(Value.int .i64 i_2)] 3)) →
  ∀ w7, w7 = (World.alloc w6 (.cells #[(Value.string key_3)] 9)) →
  ∀ w8, w8 = (World.alloc w7 (.cells #[(Value.int .i64 n_4)] 3)) →
  ∀ w9, w9 = (World.alloc w8 (.cells #[(Value.bool false)] 4)) →
  ∃ n10, World.cell? w9 ⟨Array.size (World.heap w7), 0, none⟩ = some (Value.int .i64 n10) ∧
  V.sel (decide (n10 ≤ 0))
  (∃ w11, Sem.run Tryz.prog (Instr.storeAt 4 (Value.pointer (some ⟨Array.size (World.heap w8), 0, none⟩)) (Value.bool true)) w9 = .ok () w11 ∧
  ∃ b12, World.cell? w11 ⟨Array.size (World.heap w8), 0, none⟩ = some (Value.bool b12) ∧
  R (Ending.returned (Value.bool b12)) w11)
  (∃ J13 : Option Addr → World → Prop, (∃ S14 : World → Prop, S14 (World.drew w9) ∧
  ∃ p16, (∀ w15, S14 w15 → World.cell? w15 ⟨Array.size (World.heap w), 0, none⟩ = some (Value.pointer p16)) ∧
  ∃ n17, (∀ w15, S14 w15 → World.cell? w15 ⟨Array.size (World.heap w5), 0, none⟩ = some (Value.int .i64 n17)) ∧
  V.ptr p16 fun a18 =>
  V.when (decide ((0 : Int) ≤ n17 ∧ (n17 : Int) < 4)) (∃ n19, ∃ A20, ∃ A20l, ∃ A20c, V.cellsC (fun a_ x_ => ∀ w15, S14 w15 → World.cell? w15 a_ = some x_) (Addr.add (Addr.add a18 4) ((Int.toNat n17) * 2)) [(Value.int .i64 n19), (Value.slice A20 A20l A20c)] ∧
  ∃ s21, (∀ w15, S14 w15 → World.cell? w15 ⟨Array.size (World.heap w6), 0, none⟩ = some (Value.string s21)) ∧
  (Calls Tryz.prog 25 #[(Value.agg #[(Value.int .i64 n19), (Value.slice A20 A20l A20c)]), (Value.string s21)] (World.drew w9) fun e23 w24 =>
  ∃ A22, ∃ A22l, ∃ A22c, e23 = Ending.returned (Value.slice A22 A22l A22c) ∧
  S14 w24 ∧
  ∀ w25, w25 = (World.alloc w24 (.cells #[(Value.slice none 0 0)] 23)) →
  S14 w25 ∧
  ∃ w26, Sem.run Tryz.prog (Instr.storeAt 23 (Value.pointer (some ⟨Array.size (World.heap w24), 0, none⟩)) (Value.slice A22 A22l A22c)) w25 = .ok () w26 ∧
  J13 (some ⟨Array.size (World.heap w24), 0, none⟩) w26) ∧
  (∀ w27, w27 = (World.alloc (World.drew w9) (.cells #[(Value.slice none 0 0)] 23)) →
  S14 w27 ∧
  Calls Tryz.prog 25 #[(Value.agg #[(Value.int .i64 n19), (Value.slice A20 A20l A20c)]), (Value.string s21)] w27 fun e29 w30 =>
  ∃ A28, ∃ A28l, ∃ A28c, e29 = Ending.returned (Value.slice A28 A28l A28c) ∧
  S14 w30 ∧
  ∃ w31, Sem.run Tryz.prog (Instr.storeAt 23 (Value.pointer (some ⟨Array.size (World.heap (World.drew w9)), 0, none⟩)) (Value.slice A28 A28l A28c)) w30 = .ok () w31 ∧
  J13 (some ⟨Array.size (World.heap (World.drew w9)), 0, none⟩) w31) ∧ True)) ∧
  ∀ want_32 (j33 : Nat → Value) (w34 : World), J13 want_32 w34 →
  ∀ w35, w35 = (World.alloc w34 (.cells #[(Value.int .i64 0)] 3)) →
  ∃ w36, Sem.run Tryz.prog (Instr.storeAt 3 (Value.pointer (some ⟨Array.size (World.heap w34), 0, none⟩)) (Value.int .i64 0)) w35 = .ok () w36 ∧
  ∃ S37 : World → Prop, S37 (World.drew w36) ∧
  ∃ p39, (∀ w38, S37 w38 → World.cell? w38 ⟨Array.size (World.heap w), 0, none⟩ = some (Value.pointer p39)) ∧
  ∃ n40, (∀ w38, S37 w38 → World.cell? w38 ⟨Array.size (World.heap w5), 0, none⟩ = some (Value.int .i64 n40)) ∧
  V.ptr p39 fun a41 =>
  V.when (decide ((0 : Int) ≤ n40 ∧ (n40 : Int) < 4)) (∃ p42, (∀ w38, S37 w38 → World.cell? w38 (Addr.add (Addr.add a41 0) ((Int.toNat n40) * 1)) = some (Value.pointer p42)) ∧
  ∃ s43, (∀ w38, S37 w38 → World.cell? w38 ⟨Array.size (World.heap w6), 0, none⟩ = some (Value.string s43)) ∧
  Calls Tryz.prog 63 #[(Value.pointer p42), (Value.string s43)] (World.drew w36) fun e45 w46 =>
  ∃ f44, ∃ f44a, ∃ f44c, e45 = Ending.returned (Value.func (.func f44) f44a f44c) ∧
  S37 w46 ∧
  V.when (V.hasB Tryz.prog f44 && true) (∀ (Rc47 : Loop) (l48 : Nat) (w49 : World), l48 = Array.size (World.heap w46) + 1 → w49 = World.alloc (World.alloc w46 (.deferred (some []))) (.loop { Rc47 with state := .ready, pending := none }) →
  (∀ y35_52 y36_53 (W50 : World) (R51 : Ending → World → Prop), V.LoopSt W50 l48 Rc47 .ready none →
  (V.LoopSt W50 l48 Rc47 .ready none ∧
  ∃ S54 : World → Prop, S54 (World.drew (V.setLoop W50 l48 Rc47 .busy none)) ∧
  ∃ n56, (∀ w55, S54 w55 → World.cell? w55 ⟨Array.size (World.heap w34), 0, none⟩ = some (Value.int .i64 n56)) ∧
  V.ptr want_32 fun a57 =>
  ∃ A58, ∃ A58l, ∃ A58c, (∀ w55, S54 w55 → World.cell? w55 a57 = some (Value.slice A58 A58l A58c)) ∧
  V.sel (decide (n56 ≥ ((A58l : Nat) : Int)))
  (∃ w59, Sem.run Tryz.prog (Instr.storeAt 4 (Value.pointer (some ⟨Array.size (World.heap w8), 0, none⟩)) (Value.bool false)) (World.drew (V.setLoop W50 l48 Rc47 .busy none)) = .ok () w59 ∧
  V.LoopSt w59 l48 Rc47 .busy none ∧ R51 (Ending.returned (Value.bool false)) (V.setLoop w59 l48 Rc47 .done (some Code.ret)))
  (V.ptr want_32 fun a60 =>
  ∃ A61, ∃ A61l, ∃ A61c, (∀ w55, S54 w55 → World.cell? w55 a60 = some (Value.slice A61 A61l A61c)) ∧
  ∃ n62, (∀ w55, S54 w55 → World.cell? w55 ⟨Array.size (World.heap w34), 0, none⟩ = some (Value.int .i64 n62)) ∧
  V.when (decide ((0 : Int) ≤ n62 ∧ (n62 : Int) < ((A61l : Nat) : Int))) (V.ptr A61 fun a63 =>
  ∃ n64, (∀ w55, S54 w55 → World.cell? w55 (Addr.add a63 ((Int.toNat n62) * 1)) = some (Value.int .i64 n64)) ∧
  V.sel (y35_52 != n64)
  (∃ w65, Sem.run Tryz.prog (Instr.storeAt 4 (Value.pointer (some ⟨Array.size (World.heap w8), 0, none⟩)) (Value.bool false)) (World.drew (V.setLoop W50 l48 Rc47 .busy none)) = .ok () w65 ∧
  V.LoopSt w65 l48 Rc47 .busy none ∧ R51 (Ending.returned (Value.bool false)) (V.setLoop w65 l48 Rc47 .done (some Code.ret)))
  (∃ p66, (∀ w55, S54 w55 → World.cell? w55 ⟨Array.size (World.heap w), 0, none⟩ = some (Value.pointer p66)) ∧
  ∃ n67, (∀ w55, S54 w55 → World.cell? w55 ⟨Array.size (World.heap w5), 0, none⟩ = some (Value.int .i64 n67)) ∧
  V.ptr p66 fun a68 =>
  V.when (decide ((0 : Int) ≤ n67 ∧ (n67 : Int) < 4)) (∃ n69, (∀ w55, S54 w55 → World.cell? w55 (Addr.add (Addr.add (Addr.add a68 4) ((Int.toNat n67) * 2)) 0) = some (Value.int .i64 n69)) ∧
  ∃ p70, (∀ w55, S54 w55 → World.cell? w55 ⟨Array.size (World.heap w), 0, none⟩ = some (Value.pointer p70)) ∧
  ∃ n71, (∀ w55, S54 w55 → World.cell? w55 ⟨Array.size (World.heap w5), 0, none⟩ = some (Value.int .i64 n71)) ∧
  V.ptr p70 fun a72 =>
  V.when (decide ((0 : Int) ≤ n71 ∧ (n71 : Int) < 4)) (∃ n73, ∃ A74, ∃ A74l, ∃ A74c, V.cellsC (fun a_ x_ => ∀ w55, S54 w55 → World.cell? w55 a_ = some x_) (Addr.add (Addr.add a72 4) ((Int.toNat n71) * 2)) [(Value.int .i64 n73), (Value.slice A74 A74l A74c)] ∧
  ∃ s75, (∀ w55, S54 w55 → World.cell? w55 ⟨Array.size (World.heap w6), 0, none⟩ = some (Value.string s75)) ∧
  Calls Tryz.prog 50 #[(Value.agg #[(Value.int .i64 n73), (Value.slice A74 A74l A74c)]), (Value.string s75), (Value.int .i64 y35_52), (Value.int .i64 y35_52)] (World.drew (V.setLoop W50 l48 Rc47 .busy none)) fun e77 w78 =>
  ∃ A76, ∃ A76l, ∃ A76c, e77 = Ending.returned (Value.slice A76 A76l A76c) ∧
  S54 w78 ∧
  Calls Tryz.prog 17 #[(Value.pointer y36_53), (Value.int .i64 n69), (Value.slice A76 A76l A76c)] w78 fun e80 w81 =>
  ∃ b79, e80 = Ending.returned (Value.bool b79) ∧
  S54 w81 ∧
  V.sel (!b79)
  (∃ w82, Sem.run Tryz.prog (Instr.storeAt 4 (Value.pointer (some ⟨Array.size (World.heap w8), 0, none⟩)) (Value.bool false)) w81 = .ok () w82 ∧
  V.LoopSt w82 l48 Rc47 .busy none ∧ R51 (Ending.returned (Value.bool false)) (V.setLoop w82 l48 Rc47 .done (some Code.ret)))
  (∃ n83, World.cell? w81 ⟨Array.size (World.heap w34), 0, none⟩ = some (Value.int .i64 n83) ∧
  ∃ w84, Sem.run Tryz.prog (Instr.storeAt 3 (Value.pointer (some ⟨Array.size (World.heap w34), 0, none⟩)) (Value.int .i64 (IntKind.wrap .i64 (n83 + 1)))) w81 = .ok () w84 ∧
  ∃ n85, World.cell? w84 ⟨Array.size (World.heap w34), 0, none⟩ = some (Value.int .i64 n85) ∧
  ∃ n86, World.cell? w84 ⟨Array.size (World.heap w7), 0, none⟩ = some (Value.int .i64 n86) ∧
  V.sel (decide (n85 ≥ n86))
  (V.LoopSt w84 l48 Rc47 .busy none ∧ R51 (Ending.returned (Value.bool false)) (V.setLoop w84 l48 Rc47 .done (some (Code.exit 0))))
  (V.LoopSt w84 l48 Rc47 .busy none ∧ R51 (Ending.returned (Value.bool true)) (V.setLoop w84 l48 Rc47 .ready none))))))))) →
  V.Yield Tryz.prog l48 [(Value.int .i64 y35_52), (Value.pointer y36_53)] W50 R51) →
  Calls Tryz.prog f44 ⟨Array.toList f44a ++ [(Value.func (.yield l48) #[] #[])] ++ Array.toList f44c⟩ w49 fun e87 w89 => (∃ v88, e87 = Ending.returned v88) ∧
  ((V.LoopSt w89 l48 Rc47 .ready none ∧
  ∃ n90, World.cell? (V.setLoop w89 l48 Rc47 .exhausted none) ⟨Array.size (World.heap w34), 0, none⟩ = some (Value.int .i64 n90) ∧
  ∃ n91, World.cell? (V.setLoop w89 l48 Rc47 .exhausted none) ⟨Array.size (World.heap w7), 0, none⟩ = some (Value.int .i64 n91) ∧
  V.ptr want_32 fun a92 =>
  ∃ A93, ∃ A93l, ∃ A93c, World.cell? (V.setLoop w89 l48 Rc47 .exhausted none) a92 = some (Value.slice A93 A93l A93c) ∧
  ∃ w94, Sem.run Tryz.prog (Instr.storeAt 4 (Value.pointer (some ⟨Array.size (World.heap w8), 0, none⟩)) (Value.bool (n90 == (if ((A93l : Nat) : Int) < n91 then ((A93l : Nat) : Int) else n91)))) (V.setLoop w89 l48 Rc47 .exhausted none) = .ok () w94 ∧
  V.closeR (Array.size (World.heap w46) :: []) w94 fun w95 =>
  ∃ b96, World.cell? w95 ⟨Array.size (World.heap w8), 0, none⟩ = some (Value.bool b96) ∧
  R (Ending.returned (Value.bool b96)) w95) ∨
  (V.LoopSt w89 l48 Rc47 .done (some Code.ret) ∧
  V.closeR (Array.size (World.heap w46) :: []) (V.setLoop w89 l48 Rc47 .exhausted (some Code.ret)) fun w97 =>
  ∃ b98, World.cell? w97 ⟨Array.size (World.heap w8), 0, none⟩ = some (Value.bool b98) ∧
  R (Ending.returned (Value.bool b98)) w97) ∨
  (V.LoopSt w89 l48 Rc47 .done (some (Code.exit 0)) ∧
  ∃ n99, World.cell? (V.setLoop w89 l48 Rc47 .exhausted (some (Code.exit 0))) ⟨Array.size (World.heap w34), 0, none⟩ = some (Value.int .i64 n99) ∧
  ∃ n100, World.cell? (V.setLoop w89 l48 Rc47 .exhausted (some (Code.exit 0))) ⟨Array.size (World.heap w7), 0, none⟩ = some (Value.int .i64 n100) ∧
  V.ptr want_32 fun a101 =>
  ∃ A102, ∃ A102l, ∃ A102c, World.cell? (V.setLoop w89 l48 Rc47 .exhausted (some (Code.exit 0))) a101 = some (Value.slice A102 A102l A102c) ∧
  ∃ w103, Sem.run Tryz.prog (Instr.storeAt 4 (Value.pointer (some ⟨Array.size (World.heap w8), 0, none⟩)) (Value.bool (n99 == (if ((A102l : Nat) : Int) < n100 then ((A102l : Nat) : Int) else n100)))) (V.setLoop w89 l48 Rc47 .exhausted (some (Code.exit 0))) = .ok () w103 ∧
  V.closeR (Array.size (World.heap w46) :: []) w103 fun w104 =>
  ∃ b105, World.cell? w104 ⟨Array.size (World.heap w8), 0, none⟩ = some (Value.bool b105) ∧
  R (Ending.returned (Value.bool b105)) w104) ∨
  False))))) :
  Calls Tryz.prog 36 #[(Value.pointer w_1), (Value.int .i64 i_2), (Value.string key_3), (Value.int .i64 n_4)] w R :=
  V.calls_of_R ⟨V.assoc [], V.assocP [(3, (V.Plan.one 0 (V.Plan.one 1 (V.Plan.one 2 (V.Plan.one 3 (V.Plan.one 4 (V.Plan.one 5 (V.Plan.one 6 (V.Plan.alt 7 (V.Plan.one 8 (V.Plan.one 9 V.Plan.done)) (V.Plan.alt 8 (V.Plan.one 7 (V.Plan.one 9 V.Plan.done)) V.Plan.stop)))))))))), (5, V.line [0, 1, 2, 3, 4, 5, 6, 7, 8]), (11, V.line [0, 1, 2, 3, 4, 5, 6, 7, 8, 9, 10, 11, 12, 13, 14, 15, 16, 17, 18, 19, 20, 21, 22, 23, 24, 25, 26, 27, 28, 29, 30, 31, 32, 33])], V.assocC [(3, ([9], [V.Sh.one .ptr]))], V.assocS [(0, [V.Sh.one (.int .i64), V.Sh.one .ptr])], ⟨[], true⟩⟩ Tryz.func36 rfl (Eq.mp (by kernel_rfl) h)

theorem ordered_Index_bars_nf (x_1 : Option Addr) (key_2 : ByteArray) (slot_3 : Int) (w : World) (R : Ending → World → Prop) (h :
  V.sel (Option.isNone x_1)
  (R (Ending.returned (Value.int .i64 1)) w)
  (V.sel (ByteArray.toList key_2 == ByteArray.toList ByteArray.empty)
  (R (Ending.returned (Value.int .i64 80)) w)
  (V.sel (decide (slot_3 < 0))
  (R (Ending.returned (Value.int .i64 81)) w)
  (V.ptr x_1 fun a4 =>
  ∃ n5, World.cell? w (Addr.add a4 0) = some (Value.int .i64 n5) ∧
  V.sel (decide (slot_3 ≥ n5))
  (R (Ending.returned (Value.int .i64 81)) w)
  (R (Ending.returned (Value.int .i64 0)) w))))) :
  Calls Tryz.prog 37 #[(Value.pointer x_1), (Value.string key_2), (Value.int .i64 slot_3)] w R :=
  V.calls_of_R ⟨V.assoc [], V.assocP [], V.assocC [], V.assocS [], ⟨[], true⟩⟩ Tryz.func37 rfl (Eq.mp (by kernel_rfl) h)

theorem ordered_column_at_nf (c_1 : Option Addr) (n_2 : Int) (w : World) (R : Ending → World → Prop) (h :
  V.ptr c_1 fun a3 =>
  ∃ A4, ∃ A4l, ∃ A4c, World.cell? w (Addr.add a3 0) = some (Value.slice A4 A4l A4c) ∧
  ∃ I5 : Int → Int → World → Prop, ∃ μ6 : Int → Int → World → Nat, I5 0 ((A4l : Nat) : Int) (World.drew w) ∧
  ∀ lo_7 hi_8 (j9 : Nat → Value) (w10 : World), I5 lo_7 hi_8 w10 →
  (V.sel (decide (lo_7 < hi_8))
  (V.lt (IntKind.wrap .i64 (lo_7 + (IntKind.wrap .i64 (Int.tdiv (IntKind.wrap .i64 (hi_8 - lo_7)) 2)))) fun x11 =>
  V.ptr c_1 fun a12 =>
  ∃ A13, ∃ A13l, ∃ A13c, World.cell? w10 (Addr.add a12 0) = some (Value.slice A13 A13l A13c) ∧
  V.when (decide ((0 : Int) ≤ x11 ∧ (x11 : Int) < ((A13l : Nat) : Int))) (V.ptr A13 fun a14 =>
  ∃ n15, World.cell? w10 (Addr.add (Addr.add a14 ((Int.toNat x11) * 2)) 0) = some (Value.int .i64 n15) ∧
  V.sel (decide (n15 < n_2))
  (I5 (IntKind.wrap .i64 (x11 + 1)) hi_8 w10 ∧ μ6 (IntKind.wrap .i64 (x11 + 1)) hi_8 w10 < μ6 lo_7 hi_8 w10)
  (I5 lo_7 x11 w10 ∧ μ6 lo_7 x11 w10 < μ6 lo_7 hi_8 w10)))
  (R (Ending.returned (Value.int .i64 lo_7)) w10))) :
  Calls Tryz.prog 38 #[(Value.pointer c_1), (Value.int .i64 n_2)] w R :=
  V.calls_of_R ⟨V.assoc [(0, [5, 6])], V.assocP [(1, V.line [0, 1, 2, 3, 4, 5, 6])], V.assocC [], V.assocS [], ⟨[], true⟩⟩ Tryz.func38 rfl (Eq.mp (by kernel_rfl) h)

theorem slices_Insert___ordered_row_ordered_row__nf (s_1 : Option Addr) (s_1l : Nat) (s_1c : Nat) (i_2 : Int) (v_3 : Option Addr) (v_3l : Nat) (v_3c : Nat) (w : World) (R : Ending → World → Prop) (h :
  V.when (decide ((0 : Int) ≤ i_2 ∧ (i_2 : Int) ≤ ((s_1l : Nat) : Int))) (V.sel (((v_3l : Nat) : Int) == 0)
  (R (Ending.returned (Value.slice s_1 s_1l s_1c)) w)
  (V.sel (i_2 == ((s_1l : Nat) : Int))
  (∃ A4, ∃ A4l, ∃ A4c, ∃ w5, Sem.run Tryz.prog (Builtin.append_ #[85, 85] 85 #[(Value.slice s_1 s_1l s_1c), (Value.slice v_3 v_3l v_3c)]) w = .ok (Value.slice A4 A4l A4c) w5 ∧
  R (Ending.returned (Value.slice A4 A4l A4c)) w5)
  (V.sel (decide ((IntKind.wrap .i64 (((s_1l : Nat) : Int) + ((v_3l : Nat) : Int))) > ((s_1c : Nat) : Int)))
  (V.when (decide ((0 : Int) ≤ i_2 ∧ (i_2 : Int) ≤ ((s_1c : Nat) : Int))) (∃ A6, ∃ A6l, ∃ A6c, ∃ w7, Sem.run Tryz.prog (Builtin.append_ #[85, 3] 85 #[(Value.slice (V.cut s_1 s_1c 0 2) ((Int.toNat i_2) - 0) (s_1c - 0)), (Value.int .i64 (IntKind.wrap .i64 ((IntKind.wrap .i64 (((s_1l : Nat) : Int) + ((v_3l : Nat) : Int))) - i_2)))]) w = .ok (Value.slice A6 A6l A6c) w7 ∧
  V.when (decide ((0 : Int) ≤ i_2 ∧ (i_2 : Int) ≤ ((A6l : Nat) : Int))) (∃ n8, ∃ w9, Sem.run Tryz.prog (Builtin.copy_ #[85, 85] 3 #[(Value.slice (V.cut A6 A6c (Int.toNat i_2) 2) (A6l - (Int.toNat i_2)) (A6c - (Int.toNat i_2))), (Value.slice v_3 v_3l v_3c)]) w7 = .ok (Value.int .i64 n8) w9 ∧
  ∃ S10 : World → Prop, S10 (World.drew w9) ∧
  V.when (decide ((0 : Int) ≤ (IntKind.wrap .i64 (i_2 + ((v_3l : Nat) : Int))) ∧ ((IntKind.wrap .i64 (i_2 + ((v_3l : Nat) : Int))) : Int) ≤ ((A6l : Nat) : Int))) (V.when (decide ((0 : Int) ≤ i_2 ∧ (i_2 : Int) ≤ ((s_1l : Nat) : Int))) (∃ n12, ∃ w13, Sem.run Tryz.prog (Builtin.copy_ #[85, 85] 3 #[(Value.slice (V.cut A6 A6c (Int.toNat (IntKind.wrap .i64 (i_2 + ((v_3l : Nat) : Int)))) 2) (A6l - (Int.toNat (IntKind.wrap .i64 (i_2 + ((v_3l : Nat) : Int))))) (A6c - (Int.toNat (IntKind.wrap .i64 (i_2 + ((v_3l : Nat) : Int)))))), (Value.slice (V.cut s_1 s_1c (Int.toNat i_2) 2) (s_1l - (Int.toNat i_2)) (s_1c - (Int.toNat i_2)))]) (World.drew w9) = .ok (Value.int .i64 n12) w13 ∧
  S10 w13 ∧
  R (Ending.returned (Value.slice A6 A6l A6c)) w13)))))
  (V.when (decide ((0 : Int) ≤ (IntKind.wrap .i64 (((s_1l : Nat) : Int) + ((v_3l : Nat) : Int))) ∧ ((IntKind.wrap .i64 (((s_1l : Nat) : Int) + ((v_3l : Nat) : Int))) : Int) ≤ ((s_1c : Nat) : Int))) (V.when (decide ((0 : Int) ≤ (IntKind.wrap .i64 (i_2 + ((v_3l : Nat) : Int))) ∧ ((IntKind.wrap .i64 (i_2 + ((v_3l : Nat) : Int))) : Int) ≤ ((((Int.toNat (IntKind.wrap .i64 (((s_1l : Nat) : Int) + ((v_3l : Nat) : Int)))) - 0) : Nat) : Int))) (∃ b14, ∃ w16, Sem.run Tryz.prog (callFunc 64 #[(Value.slice v_3 v_3l v_3c), (Value.slice (V.cut (V.cut s_1 s_1c 0 2) (s_1c - 0) (Int.toNat (IntKind.wrap .i64 (i_2 + ((v_3l : Nat) : Int)))) 2) (((Int.toNat (IntKind.wrap .i64 (((s_1l : Nat) : Int) + ((v_3l : Nat) : Int)))) - 0) - (Int.toNat (IntKind.wrap .i64 (i_2 + ((v_3l : Nat) : Int))))) ((s_1c - 0) - (Int.toNat (IntKind.wrap .i64 (i_2 + ((v_3l : Nat) : Int))))))]) w = .ok (.value (Value.bool b14)) w16 ∧
  V.sel (!b14)
  (∃ S17 : World → Prop, S17 (World.drew w16) ∧
  V.when (decide ((0 : Int) ≤ (IntKind.wrap .i64 (i_2 + ((v_3l : Nat) : Int))) ∧ ((IntKind.wrap .i64 (i_2 + ((v_3l : Nat) : Int))) : Int) ≤ ((((Int.toNat (IntKind.wrap .i64 (((s_1l : Nat) : Int) + ((v_3l : Nat) : Int)))) - 0) : Nat) : Int))) (V.when (decide ((0 : Int) ≤ i_2 ∧ (i_2 : Int) ≤ ((((Int.toNat (IntKind.wrap .i64 (((s_1l : Nat) : Int) + ((v_3l : Nat) : Int)))) - 0) : Nat) : Int))) (∃ n19, ∃ w20, Sem.run Tryz.prog (Builtin.copy_ #[85, 85] 3 #[(Value.slice (V.cut (V.cut s_1 s_1c 0 2) (s_1c - 0) (Int.toNat (IntKind.wrap .i64 (i_2 + ((v_3l : Nat) : Int)))) 2) (((Int.toNat (IntKind.wrap .i64 (((s_1l : Nat) : Int) + ((v_3l : Nat) : Int)))) - 0) - (Int.toNat (IntKind.wrap .i64 (i_2 + ((v_3l : Nat) : Int))))) ((s_1c - 0) - (Int.toNat (IntKind.wrap .i64 (i_2 + ((v_3l : Nat) : Int)))))), (Value.slice (V.cut (V.cut s_1 s_1c 0 2) (s_1c - 0) (Int.toNat i_2) 2) (((Int.toNat (IntKind.wrap .i64 (((s_1l : Nat) : Int) + ((v_3l : Nat) : Int)))) - 0) - (Int.toNat i_2)) ((s_1c - 0) - (Int.toNat i_2)))]) (World.drew w16) = .ok (Value.int .i64 n19) w20 ∧
  S17 w20 ∧
  V.when (decide ((0 : Int) ≤ i_2 ∧ (i_2 : Int) ≤ ((((Int.toNat (IntKind.wrap .i64 (((s_1l : Nat) : Int) + ((v_3l : Nat) : Int)))) - 0) : Nat) : Int))) (∃ n21, ∃ w22, Sem.run Tryz.prog (Builtin.copy_ #[85, 85] 3 #[(Value.slice (V.cut (V.cut s_1 s_1c 0 2) (s_1c - 0) (Int.toNat i_2) 2) (((Int.toNat (IntKind.wrap .i64 (((s_1l : Nat) : Int) + ((v_3l : Nat) : Int)))) - 0) - (Int.toNat i_2)) ((s_1c - 0) - (Int.toNat i_2))), (Value.slice v_3 v_3l v_3c)]) w20 = .ok (Value.int .i64 n21) w22 ∧
  R (Ending.returned (Value.slice (V.cut s_1 s_1c 0 2) ((Int.toNat (IntKind.wrap .i64 (((s_1l : Nat) : Int) + ((v_3l : Nat) : Int)))) - 0) (s_1c - 0))) w22))))
  (V.when (decide ((0 : Int) ≤ ((s_1l : Nat) : Int) ∧ (((s_1l : Nat) : Int) : Int) ≤ ((((Int.toNat (IntKind.wrap .i64 (((s_1l : Nat) : Int) + ((v_3l : Nat) : Int)))) - 0) : Nat) : Int))) (∃ n23, ∃ w24, Sem.run Tryz.prog (Builtin.copy_ #[85, 85] 3 #[(Value.slice (V.cut (V.cut s_1 s_1c 0 2) (s_1c - 0) (s_1l : Nat) 2) (((Int.toNat (IntKind.wrap .i64 (((s_1l : Nat) : Int) + ((v_3l : Nat) : Int)))) - 0) - (s_1l : Nat)) ((s_1c - 0) - (s_1l : Nat))), (Value.slice v_3 v_3l v_3c)]) w16 = .ok (Value.int .i64 n23) w24 ∧
  V.when (decide ((0 : Int) ≤ i_2 ∧ (i_2 : Int) ≤ ((((Int.toNat (IntKind.wrap .i64 (((s_1l : Nat) : Int) + ((v_3l : Nat) : Int)))) - 0) : Nat) : Int))) (Calls Tryz.prog 65 #[(Value.slice (V.cut (V.cut s_1 s_1c 0 2) (s_1c - 0) (Int.toNat i_2) 2) (((Int.toNat (IntKind.wrap .i64 (((s_1l : Nat) : Int) + ((v_3l : Nat) : Int)))) - 0) - (Int.toNat i_2)) ((s_1c - 0) - (Int.toNat i_2))), (Value.int .i64 ((v_3l : Nat) : Int))] w24 fun e25 w26 =>
  e25 = Ending.returned undef ∧
  R (Ending.returned (Value.slice (V.cut s_1 s_1c 0 2) ((Int.toNat (IntKind.wrap .i64 (((s_1l : Nat) : Int) + ((v_3l : Nat) : Int)))) - 0) (s_1c - 0))) w26)))))))))) :
  Calls Tryz.prog 39 #[(Value.slice s_1 s_1l s_1c), (Value.int .i64 i_2), (Value.slice v_3 v_3l v_3c)] w R :=
  V.calls_of_R ⟨V.assoc [], V.assocP [(11, V.line [0, 1, 2, 3, 4, 5, 6, 7, 8]), (15, V.line [0, 1, 2, 3, 4, 5, 6, 7, 8])], V.assocC [], V.assocS [], ⟨[64], true⟩⟩ Tryz.func39 rfl (Eq.mp (by kernel_rfl) h)

theorem berthlaw08_hasJust_nf (s_1 : Option Addr) (members_2 : Option Addr) (members_2l : Nat) (members_2c : Nat) (w : World) (R : Ending → World → Prop) (h :
  Calls Tryz.prog 67 #[(Value.pointer s_1)] w fun e4 w5 =>
  ∃ A3, ∃ A3l, ∃ A3c, e4 = Ending.returned (Value.slice A3 A3l A3c) ∧
  V.sel (((A3l : Nat) : Int) != ((members_2l : Nat) : Int))
  (R (Ending.returned (Value.bool false)) w5)
  (∃ I6 : Int → World → Prop, ∃ μ7 : Int → World → Nat, I6 0 w5 ∧
  ∀ t16_8 (j9 : Nat → Value) (w10 : World), I6 t16_8 w10 →
  (V.sel (decide (t16_8 < ((A3l : Nat) : Int)))
  (V.when (decide ((0 : Int) ≤ t16_8 ∧ (t16_8 : Int) < ((A3l : Nat) : Int))) (V.ptr A3 fun a11 =>
  ∃ n12, World.cell? w10 (Addr.add a11 ((Int.toNat t16_8) * 1)) = some (Value.int .i64 n12) ∧
  V.when (decide ((0 : Int) ≤ t16_8 ∧ (t16_8 : Int) < ((members_2l : Nat) : Int))) (V.ptr members_2 fun a13 =>
  ∃ n14, World.cell? w10 (Addr.add a13 ((Int.toNat t16_8) * 1)) = some (Value.int .i64 n14) ∧
  V.sel (n12 != n14)
  (R (Ending.returned (Value.bool false)) (World.drew w10))
  (I6 (IntKind.wrap .i64 (t16_8 + 1)) (World.drew w10) ∧ μ7 (IntKind.wrap .i64 (t16_8 + 1)) (World.drew w10) < μ7 t16_8 w10))))
  (R (Ending.returned (Value.bool true)) w10)))) :
  Calls Tryz.prog 42 #[(Value.pointer s_1), (Value.slice members_2 members_2l members_2c)] w R :=
  V.calls_of_R ⟨V.assoc [(0, [16])], V.assocP [(7, V.line [0, 1, 2, 3, 4, 5, 6, 7, 8])], V.assocC [], V.assocS [], ⟨[], true⟩⟩ Tryz.func42 rfl (Eq.mp (by kernel_rfl) h)

theorem ordered_Index_Between_nf (x_1 : Option Addr) (key_2 : ByteArray) (lo_3 : Int) (hi_4 : Int) (w : World) (R : Ending → World → Prop) (h :
  Calls Tryz.prog 27 #[(Value.pointer x_1)] w fun e6 w7 =>
  ∃ p5, e6 = Ending.returned (Value.pointer p5) ∧
  ∀ w8, w8 = (World.alloc w7 (.cells #[(Value.pointer none)] 43)) →
  ∃ w9, Sem.run Tryz.prog (Instr.storeAt 43 (Value.pointer (some ⟨Array.size (World.heap w7), 0, none⟩)) (Value.pointer p5)) w8 = .ok () w9 ∧
  Calls Tryz.prog 28 #[(Value.pointer x_1), (Value.string key_2)] w9 fun e11 w12 =>
  ∃ p10, e11 = Ending.returned (Value.pointer p10) ∧
  Calls Tryz.prog 29 #[(Value.pointer p10), (Value.int .i64 lo_3), (Value.int .i64 hi_4)] w12 fun e14 w15 =>
  ∃ f13, ∃ f13a, ∃ f13c, e14 = Ending.returned (Value.func (.func f13) f13a f13c) ∧
  V.when (V.hasB Tryz.prog f13 && true) (∀ (Rc16 : Loop) (l17 : Nat) (w18 : World), l17 = Array.size (World.heap w15) + 1 → w18 = World.alloc (World.alloc w15 (.deferred (some []))) (.loop { Rc16 with state := .ready, pending := none }) →
  (∀ y20_21 y21_22 (W19 : World) (R20 : Ending → World → Prop), V.LoopSt W19 l17 Rc16 .ready none →
  (V.LoopSt W19 l17 Rc16 .ready none ∧
  ∃ p23, World.cell? (V.setLoop W19 l17 Rc16 .busy none) ⟨Array.size (World.heap w7), 0, none⟩ = some (Value.pointer p23) ∧
  Calls Tryz.prog 30 #[(Value.pointer p23), (Value.pointer y21_22)] (V.setLoop W19 l17 Rc16 .busy none) fun e24 w25 =>
  e24 = Ending.returned undef ∧
  V.LoopSt w25 l17 Rc16 .busy none ∧ R20 (Ending.returned (Value.bool true)) (V.setLoop w25 l17 Rc16 .ready none)) →
  V.Yield Tryz.prog l17 [(Value.int .i64 y20_21), (Value.pointer y21_22)] W19 R20) →
  Calls Tryz.prog f13 ⟨Array.toList f13a ++ [(Value.func (.yield l17) #[] #[])] ++ Array.toList f13c⟩ w18 fun e26 w28 => (∃ v27, e26 = Ending.returned v27) ∧
  ((V.LoopSt w28 l17 Rc16 .ready none ∧
  ∃ p29, World.cell? (V.setLoop w28 l17 Rc16 .exhausted none) ⟨Array.size (World.heap w7), 0, none⟩ = some (Value.pointer p29) ∧
  V.closeR (Array.size (World.heap w15) :: []) (V.setLoop w28 l17 Rc16 .exhausted none) fun w30 =>
  R (Ending.returned (Value.pointer p29)) w30) ∨
  False))) :
  Calls Tryz.prog 43 #[(Value.pointer x_1), (Value.string key_2), (Value.int .i64 lo_3), (Value.int .i64 hi_4)] w R :=
  V.calls_of_R ⟨V.assoc [], V.assocP [], V.assocC [], V.assocS [(0, [V.Sh.one (.int .i64), V.Sh.one .ptr])], ⟨[], true⟩⟩ Tryz.func43 rfl (Eq.mp (by kernel_rfl) h)

theorem berthref08_Put_nf (x_1 : Int) (x_2 : Option Addr) (x_2l : Nat) (x_2c : Nat) (key_3 : ByteArray) (slot_4 : Int) (n_5 : Int) (w : World) (R : Ending → World → Prop) (h :
  ∀ w6, w6 = (World.alloc w (.cells #[(Value.int .i64 x_1), (Value.slice x_2 x_2l x_2c)] 36)) →
  ∀ w7, w7 = (World.alloc w6 (.cells #[(Value.int .i64 0), (Value.slice none 0 0)] 36)) →
  ∃ n8, ∃ A9, ∃ A9l, ∃ A9c, V.cellsC (fun a_ x_ => World.cell? w7 a_ = some x_) ⟨Array.size (World.heap w), 0, none⟩ [(Value.int .i64 n8), (Value.slice A9 A9l A9c)] ∧
  Calls Tryz.prog 70 #[(Value.agg #[(Value.int .i64 n8), (Value.slice A9 A9l A9c)]), (Value.string key_3), (Value.int .i64 slot_4)] w7 fun e11 w12 =>
  ∃ n10, e11 = Ending.returned (Value.int .i64 n10) ∧
  V.sel (n10 != 0)
  (∃ n13, ∃ A14, ∃ A14l, ∃ A14c, V.cellsC (fun a_ x_ => World.cell? w12 a_ = some x_) ⟨Array.size (World.heap w), 0, none⟩ [(Value.int .i64 n13), (Value.slice A14 A14l A14c)] ∧
  ∃ w15, Sem.run Tryz.prog (Instr.storeAt 36 (Value.pointer (some ⟨Array.size (World.heap w6), 0, none⟩)) (Value.agg #[(Value.int .i64 n13), (Value.slice A14 A14l A14c)])) w12 = .ok () w15 ∧
  ∃ n16, ∃ A17, ∃ A17l, ∃ A17c, V.cellsC (fun a_ x_ => World.cell? w15 a_ = some x_) ⟨Array.size (World.heap w6), 0, none⟩ [(Value.int .i64 n16), (Value.slice A17 A17l A17c)] ∧
  R (Ending.returned (Value.tuple #[(Value.agg #[(Value.int .i64 n16), (Value.slice A17 A17l A17c)]), (Value.int .i64 n10)])) w15)
  (∃ n18, ∃ A19, ∃ A19l, ∃ A19c, V.cellsC (fun a_ x_ => World.cell? w12 a_ = some x_) ⟨Array.size (World.heap w), 0, none⟩ [(Value.int .i64 n18), (Value.slice A19 A19l A19c)] ∧
  Calls Tryz.prog 48 #[(Value.agg #[(Value.int .i64 n18), (Value.slice A19 A19l A19c)]), (Value.string key_3), (Value.int .i64 slot_4)] w12 fun e21 w22 =>
  ∃ n20, e21 = Ending.returned (Value.int .i64 n20) ∧
  V.sel (decide (n20 ≥ 0))
  (∃ n23, ∃ A24, ∃ A24l, ∃ A24c, V.cellsC (fun a_ x_ => World.cell? w22 a_ = some x_) ⟨Array.size (World.heap w), 0, none⟩ [(Value.int .i64 n23), (Value.slice A24 A24l A24c)] ∧
  ∃ w25, Sem.run Tryz.prog (Instr.storeAt 36 (Value.pointer (some ⟨Array.size (World.heap w6), 0, none⟩)) (Value.agg #[(Value.int .i64 n23), (Value.slice A24 A24l A24c)])) w22 = .ok () w25 ∧
  ∃ n26, ∃ A27, ∃ A27l, ∃ A27c, V.cellsC (fun a_ x_ => World.cell? w25 a_ = some x_) ⟨Array.size (World.heap w6), 0, none⟩ [(Value.int .i64 n26), (Value.slice A27 A27l A27c)] ∧
  R (Ending.returned (Value.tuple #[(Value.agg #[(Value.int .i64 n26), (Value.slice A27 A27l A27c)]), (Value.int .i64 82)])) w25)
  (∀ w28, w28 = (World.alloc w22 (.cells #[] 63)) →
  ∃ A29, ∃ A29l, ∃ A29c, World.cell? w28 (Addr.add ⟨Array.size (World.heap w), 0, none⟩ 1) = some (Value.slice A29 A29l A29c) ∧
  ∃ A30, ∃ A30l, ∃ A30c, ∃ w31, Sem.run Tryz.prog (Builtin.append_ #[34, 34] 34 #[(Value.slice (some ⟨Array.size (World.heap w22), 0, none⟩) 0 0), (Value.slice A29 A29l A29c)]) w28 = .ok (Value.slice A30 A30l A30c) w31 ∧
  ∀ w32, w32 = (World.alloc w31 (.cells #[(Value.string key_3), (Value.int .i64 slot_4), (Value.int .i64 n_5)] 63)) →
  ∃ A33, ∃ A33l, ∃ A33c, ∃ w34, Sem.run Tryz.prog (Builtin.append_ #[34, 34] 34 #[(Value.slice A30 A30l A30c), (Value.slice (some ⟨Array.size (World.heap w31), 0, none⟩) 1 1)]) w32 = .ok (Value.slice A33 A33l A33c) w34 ∧
  ∃ n35, World.cell? w34 (Addr.add ⟨Array.size (World.heap w), 0, none⟩ 0) = some (Value.int .i64 n35) ∧
  ∃ w36, Sem.run Tryz.prog (Instr.storeAt 36 (Value.pointer (some ⟨Array.size (World.heap w6), 0, none⟩)) (Value.agg #[(Value.int .i64 n35), (Value.slice A33 A33l A33c)])) w34 = .ok () w36 ∧
  ∃ n37, ∃ A38, ∃ A38l, ∃ A38c, V.cellsC (fun a_ x_ => World.cell? w36 a_ = some x_) ⟨Array.size (World.heap w6), 0, none⟩ [(Value.int .i64 n37), (Value.slice A38 A38l A38c)] ∧
  R (Ending.returned (Value.tuple #[(Value.agg #[(Value.int .i64 n37), (Value.slice A38 A38l A38c)]), (Value.int .i64 0)])) w36))) :
  Calls Tryz.prog 45 #[(Value.agg #[(Value.int .i64 x_1), (Value.slice x_2 x_2l x_2c)]), (Value.string key_3), (Value.int .i64 slot_4), (Value.int .i64 n_5)] w R :=
  V.calls_of_R ⟨V.assoc [], V.assocP [], V.assocC [], V.assocS [], ⟨[], true⟩⟩ Tryz.func45 rfl (Eq.mp (by kernel_rfl) h)

theorem ordered_Index_Del_nf (x_1 : Option Addr) (key_2 : ByteArray) (slot_3 : Int) (w : World) (R : Ending → World → Prop) (h :
  Calls Tryz.prog 37 #[(Value.pointer x_1), (Value.string key_2), (Value.int .i64 slot_3)] w fun e5 w6 =>
  ∃ n4, e5 = Ending.returned (Value.int .i64 n4) ∧
  V.sel (n4 != 0)
  (R (Ending.returned (Value.int .i64 n4)) w6)
  (Calls Tryz.prog 28 #[(Value.pointer x_1), (Value.string key_2)] w6 fun e8 w9 =>
  ∃ p7, e8 = Ending.returned (Value.pointer p7) ∧
  V.ptr p7 fun a10 =>
  ∃ m11, World.cell? w9 (Addr.add a10 1) = some (Value.map m11) ∧
  ∃ n12, ∃ b13, ∃ w14, Sem.run Tryz.prog (Instr.lookup 84 (Value.map m11) (Value.int .i64 slot_3) true) w9 = .ok (Value.tuple #[(Value.int .i64 n12), (Value.bool b13)]) w14 ∧
  V.sel (!b13)
  (R (Ending.returned (Value.int .i64 83)) w14)
  (Calls Tryz.prog 38 #[(Value.pointer p7), (Value.int .i64 n12)] w14 fun e16 w17 =>
  ∃ n15, e16 = Ending.returned (Value.int .i64 n15) ∧
  V.ptr p7 fun a18 =>
  ∃ A19, ∃ A19l, ∃ A19c, World.cell? w17 (Addr.add a18 0) = some (Value.slice A19 A19l A19c) ∧
  V.when (decide ((0 : Int) ≤ n15 ∧ (n15 : Int) < ((A19l : Nat) : Int))) (V.ptr A19 fun a20 =>
  ∃ p21, World.cell? w17 (Addr.add (Addr.add a20 ((Int.toNat n15) * 2)) 1) = some (Value.pointer p21) ∧
  Calls Tryz.prog 71 #[(Value.pointer p21), (Value.int .i64 slot_3)] w17 fun e23 w24 =>
  ∃ b22, e23 = Ending.returned (Value.bool b22) ∧
  ∃ J25 : World → Prop, (V.ptr p7 fun a26 =>
  ∃ A27, ∃ A27l, ∃ A27c, World.cell? w24 (Addr.add a26 0) = some (Value.slice A27 A27l A27c) ∧
  V.when (decide ((0 : Int) ≤ n15 ∧ (n15 : Int) < ((A27l : Nat) : Int))) (V.ptr A27 fun a28 =>
  ∃ p29, World.cell? w24 (Addr.add (Addr.add a28 ((Int.toNat n15) * 2)) 1) = some (Value.pointer p29) ∧
  Calls Tryz.prog 26 #[(Value.pointer p29)] w24 fun e31 w32 =>
  ∃ n30, e31 = Ending.returned (Value.int .i64 n30) ∧
  V.sel (n30 == 0)
  (V.ptr p7 fun a33 =>
  ∃ A34, ∃ A34l, ∃ A34c, World.cell? w32 (Addr.add a33 0) = some (Value.slice A34 A34l A34c) ∧
  Calls Tryz.prog 72 #[(Value.slice A34 A34l A34c), (Value.int .i64 n15), (Value.int .i64 (IntKind.wrap .i64 (n15 + 1)))] w32 fun e36 w37 =>
  ∃ A35, ∃ A35l, ∃ A35c, e36 = Ending.returned (Value.slice A35 A35l A35c) ∧
  V.ptr p7 fun a38 =>
  ∃ w39, Sem.run Tryz.prog (Instr.storeAt 85 (Value.pointer (some (Addr.add a38 0))) (Value.slice A35 A35l A35c)) w37 = .ok () w39 ∧
  J25  w39)
  (J25  w32))) ∧
  ∀ (j40 : Nat → Value) (w41 : World), J25  w41 →
  V.ptr p7 fun a42 =>
  ∃ m43, World.cell? w41 (Addr.add a42 1) = some (Value.map m43) ∧
  ∃ w44, Sem.run Tryz.prog (Builtin.delete_ #[84, 3] 0 #[(Value.map m43), (Value.int .i64 slot_3)]) w41 = .ok undef w44 ∧
  V.ptr p7 fun a45 =>
  ∃ m46, World.cell? w44 (Addr.add a45 1) = some (Value.map m46) ∧
  ∃ n47, ∃ w48, Sem.run Tryz.prog (Builtin.len_ #[84] 3 #[(Value.map m46)]) w44 = .ok (Value.int .i64 n47) w48 ∧
  V.sel (n47 == 0)
  (V.ptr x_1 fun a49 =>
  ∃ m50, World.cell? w48 (Addr.add a49 1) = some (Value.map m50) ∧
  ∃ w51, Sem.run Tryz.prog (Builtin.delete_ #[80, 9] 0 #[(Value.map m50), (Value.string key_2)]) w48 = .ok undef w51 ∧
  R (Ending.returned (Value.int .i64 0)) w51)
  (R (Ending.returned (Value.int .i64 0)) w48))))) :
  Calls Tryz.prog 46 #[(Value.pointer x_1), (Value.string key_2), (Value.int .i64 slot_3)] w R :=
  V.calls_of_R ⟨V.assoc [], V.assocP [], V.assocC [(1000013, ([], []))], V.assocS [], ⟨[], true⟩⟩ Tryz.func46 rfl (Eq.mp (by kernel_rfl) h)

theorem berthref08_Del_nf (x_1 : Int) (x_2 : Option Addr) (x_2l : Nat) (x_2c : Nat) (key_3 : ByteArray) (slot_4 : Int) (w : World) (R : Ending → World → Prop) (h :
  ∀ w5, w5 = (World.alloc w (.cells #[(Value.int .i64 x_1), (Value.slice x_2 x_2l x_2c)] 36)) →
  ∀ w6, w6 = (World.alloc w5 (.cells #[(Value.int .i64 0), (Value.slice none 0 0)] 36)) →
  ∃ n7, ∃ A8, ∃ A8l, ∃ A8c, V.cellsC (fun a_ x_ => World.cell? w6 a_ = some x_) ⟨Array.size (World.heap w), 0, none⟩ [(Value.int .i64 n7), (Value.slice A8 A8l A8c)] ∧
  Calls Tryz.prog 70 #[(Value.agg #[(Value.int .i64 n7), (Value.slice A8 A8l A8c)]), (Value.string key_3), (Value.int .i64 slot_4)] w6 fun e10 w11 =>
  ∃ n9, e10 = Ending.returned (Value.int .i64 n9) ∧
  V.sel (n9 != 0)
  (∃ n12, ∃ A13, ∃ A13l, ∃ A13c, V.cellsC (fun a_ x_ => World.cell? w11 a_ = some x_) ⟨Array.size (World.heap w), 0, none⟩ [(Value.int .i64 n12), (Value.slice A13 A13l A13c)] ∧
  ∃ w14, Sem.run Tryz.prog (Instr.storeAt 36 (Value.pointer (some ⟨Array.size (World.heap w5), 0, none⟩)) (Value.agg #[(Value.int .i64 n12), (Value.slice A13 A13l A13c)])) w11 = .ok () w14 ∧
  ∃ n15, ∃ A16, ∃ A16l, ∃ A16c, V.cellsC (fun a_ x_ => World.cell? w14 a_ = some x_) ⟨Array.size (World.heap w5), 0, none⟩ [(Value.int .i64 n15), (Value.slice A16 A16l A16c)] ∧
  R (Ending.returned (Value.tuple #[(Value.agg #[(Value.int .i64 n15), (Value.slice A16 A16l A16c)]), (Value.int .i64 n9)])) w14)
  (∃ n17, ∃ A18, ∃ A18l, ∃ A18c, V.cellsC (fun a_ x_ => World.cell? w11 a_ = some x_) ⟨Array.size (World.heap w), 0, none⟩ [(Value.int .i64 n17), (Value.slice A18 A18l A18c)] ∧
  Calls Tryz.prog 48 #[(Value.agg #[(Value.int .i64 n17), (Value.slice A18 A18l A18c)]), (Value.string key_3), (Value.int .i64 slot_4)] w11 fun e20 w21 =>
  ∃ n19, e20 = Ending.returned (Value.int .i64 n19) ∧
  V.sel (decide (n19 < 0))
  (∃ n22, ∃ A23, ∃ A23l, ∃ A23c, V.cellsC (fun a_ x_ => World.cell? w21 a_ = some x_) ⟨Array.size (World.heap w), 0, none⟩ [(Value.int .i64 n22), (Value.slice A23 A23l A23c)] ∧
  ∃ w24, Sem.run Tryz.prog (Instr.storeAt 36 (Value.pointer (some ⟨Array.size (World.heap w5), 0, none⟩)) (Value.agg #[(Value.int .i64 n22), (Value.slice A23 A23l A23c)])) w21 = .ok () w24 ∧
  ∃ n25, ∃ A26, ∃ A26l, ∃ A26c, V.cellsC (fun a_ x_ => World.cell? w24 a_ = some x_) ⟨Array.size (World.heap w5), 0, none⟩ [(Value.int .i64 n25), (Value.slice A26 A26l A26c)] ∧
  R (Ending.returned (Value.tuple #[(Value.agg #[(Value.int .i64 n25), (Value.slice A26 A26l A26c)]), (Value.int .i64 83)])) w24)
  (∀ w27, w27 = (World.alloc w21 (.cells #[] 63)) →
  ∃ I28 : Option Addr → Nat → Nat → Int → World → Prop, ∃ μ29 : Option Addr → Nat → Nat → Int → World → Nat, I28 (some ⟨Array.size (World.heap w21), 0, none⟩) 0 0 0 w27 ∧
  ∀ rows_30 rows_30l rows_30c i_31 (j32 : Nat → Value) (w33 : World), I28 rows_30 rows_30l rows_30c i_31 w33 →
  (∃ A34, ∃ A34l, ∃ A34c, World.cell? w33 (Addr.add ⟨Array.size (World.heap w), 0, none⟩ 1) = some (Value.slice A34 A34l A34c) ∧
  V.sel (decide (i_31 < ((A34l : Nat) : Int)))
  (V.sel (i_31 != n19)
  (∃ A35, ∃ A35l, ∃ A35c, World.cell? w33 (Addr.add ⟨Array.size (World.heap w), 0, none⟩ 1) = some (Value.slice A35 A35l A35c) ∧
  V.when (decide ((0 : Int) ≤ i_31 ∧ (i_31 : Int) < ((A35l : Nat) : Int))) (V.ptr A35 fun a36 =>
  ∃ s37, ∃ n38, ∃ n39, V.cellsC (fun a_ x_ => World.cell? w33 a_ = some x_) (Addr.add a36 ((Int.toNat i_31) * 3)) [(Value.string s37), (Value.int .i64 n38), (Value.int .i64 n39)] ∧
  ∀ w40, w40 = (World.alloc w33 (.cells #[(Value.string s37), (Value.int .i64 n38), (Value.int .i64 n39)] 63)) →
  ∃ A41, ∃ A41l, ∃ A41c, ∃ w42, Sem.run Tryz.prog (Builtin.append_ #[34, 34] 34 #[(Value.slice rows_30 rows_30l rows_30c), (Value.slice (some ⟨Array.size (World.heap w33), 0, none⟩) 1 1)]) w40 = .ok (Value.slice A41 A41l A41c) w42 ∧
  I28 A41 A41l A41c (IntKind.wrap .i64 (i_31 + 1)) w42 ∧ μ29 A41 A41l A41c (IntKind.wrap .i64 (i_31 + 1)) w42 < μ29 rows_30 rows_30l rows_30c i_31 w33))
  (I28 rows_30 rows_30l rows_30c (IntKind.wrap .i64 (i_31 + 1)) w33 ∧ μ29 rows_30 rows_30l rows_30c (IntKind.wrap .i64 (i_31 + 1)) w33 < μ29 rows_30 rows_30l rows_30c i_31 w33))
  (∃ n43, World.cell? w33 (Addr.add ⟨Array.size (World.heap w), 0, none⟩ 0) = some (Value.int .i64 n43) ∧
  ∃ w44, Sem.run Tryz.prog (Instr.storeAt 36 (Value.pointer (some ⟨Array.size (World.heap w5), 0, none⟩)) (Value.agg #[(Value.int .i64 n43), (Value.slice rows_30 rows_30l rows_30c)])) w33 = .ok () w44 ∧
  ∃ n45, ∃ A46, ∃ A46l, ∃ A46c, V.cellsC (fun a_ x_ => World.cell? w44 a_ = some x_) ⟨Array.size (World.heap w5), 0, none⟩ [(Value.int .i64 n45), (Value.slice A46 A46l A46c)] ∧
  R (Ending.returned (Value.tuple #[(Value.agg #[(Value.int .i64 n45), (Value.slice A46 A46l A46c)]), (Value.int .i64 0)])) w44))))) :
  Calls Tryz.prog 47 #[(Value.agg #[(Value.int .i64 x_1), (Value.slice x_2 x_2l x_2c)]), (Value.string key_3), (Value.int .i64 slot_4)] w R :=
  V.calls_of_R ⟨V.assoc [(0, [10, 11])], V.assocP [], V.assocC [], V.assocS [], ⟨[], true⟩⟩ Tryz.func47 rfl (Eq.mp (by kernel_rfl) h)

end Go.Proofs.YtjlkdadafddodaaGreatDoor
