/- Normal forms of the program's functions, printed by a program of mine; the kernel checks each. -/
import Derived.Test.YtcohengppaighaaGreatDoorProg
import Derived.Test.YtcohengppaighaaGreatDoorV2
set_option linter.unusedVariables false
set_option maxRecDepth 100000
namespace Go.Proofs.YtcohengppaighaaGreatDoor
open Go

theorem berthref03_wrong_nf (diffs_1 : Option Addr) (diffs_1l : Nat) (diffs_1c : Nat) (i_2 : Int) (w : World) (R : Ending → World → Prop) (h :
  V.when (decide ((0 : Int) ≤ i_2 ∧ (i_2 : Int) < ((diffs_1l : Nat) : Int))) (V.ptr diffs_1 fun a3 =>
  ∃ s4, ∃ s5, ∃ s6, ∃ b7, ∃ b8, V.cellsC (fun a_ x_ => World.cell? w a_ = some x_) (Addr.add a3 ((Int.toNat i_2) * 5)) [(Value.string s4), (Value.string s5), (Value.string s6), (Value.bool b7), (Value.bool b8)] ∧
  ∀ w9, w9 = (World.alloc w (.cells #[(Value.string ByteArray.empty), (Value.string ByteArray.empty), (Value.string ByteArray.empty), (Value.bool false), (Value.bool false)] 59)) →
  ∃ w10, Sem.run Tryz.prog (Instr.storeAt 59 (Value.pointer (some ⟨Array.size (World.heap w), 0, none⟩)) (Value.agg #[(Value.string s4), (Value.string s5), (Value.string s6), (Value.bool b7), (Value.bool b8)])) w9 = .ok () w10 ∧
  ∃ s11, World.cell? w10 (Addr.add ⟨Array.size (World.heap w), 0, none⟩ 0) = some (Value.string s11) ∧
  Calls Tryz.prog 54 #[(Value.string s11)] w10 fun e13 w14 =>
  ∃ b12, e13 = Ending.returned (Value.bool b12) ∧
  ∃ s15, World.cell? w14 (Addr.add ⟨Array.size (World.heap w), 0, none⟩ 1) = some (Value.string s15) ∧
  Calls Tryz.prog 55 #[(Value.string s15)] w14 fun e17 w18 =>
  ∃ b16, e17 = Ending.returned (Value.bool b16) ∧
  ∃ s19, World.cell? w18 (Addr.add ⟨Array.size (World.heap w), 0, none⟩ 2) = some (Value.string s19) ∧
  Calls Tryz.prog 55 #[(Value.string s19)] w18 fun e21 w22 =>
  ∃ b20, e21 = Ending.returned (Value.bool b20) ∧
  V.sel (!b12)
  (R (Ending.returned (Value.int .i64 31)) w22)
  (∃ J23 : Bool → World → Prop, (V.sel (decide (i_2 > 0))
  (∃ s24, World.cell? w22 (Addr.add ⟨Array.size (World.heap w), 0, none⟩ 0) = some (Value.string s24) ∧
  V.when (decide ((0 : Int) ≤ (IntKind.wrap .i64 (i_2 - 1)) ∧ ((IntKind.wrap .i64 (i_2 - 1)) : Int) < ((diffs_1l : Nat) : Int))) (V.ptr diffs_1 fun a25 =>
  ∃ s26, World.cell? w22 (Addr.add (Addr.add a25 ((Int.toNat (IntKind.wrap .i64 (i_2 - 1))) * 5)) 0) = some (Value.string s26) ∧
  J23 (ByteArray.toList s24 == ByteArray.toList s26) (World.drew w22)))
  (J23 false (World.drew w22))) ∧
  ∀ t25_27 (j28 : Nat → Value) (w29 : World), J23 t25_27 w29 →
  V.sel t25_27
  (R (Ending.returned (Value.int .i64 33)) w29)
  (∃ J30 : Bool → World → Prop, (V.sel (decide (i_2 > 0))
  (∃ s31, World.cell? w29 (Addr.add ⟨Array.size (World.heap w), 0, none⟩ 0) = some (Value.string s31) ∧
  V.when (decide ((0 : Int) ≤ (IntKind.wrap .i64 (i_2 - 1)) ∧ ((IntKind.wrap .i64 (i_2 - 1)) : Int) < ((diffs_1l : Nat) : Int))) (V.ptr diffs_1 fun a32 =>
  ∃ s33, World.cell? w29 (Addr.add (Addr.add a32 ((Int.toNat (IntKind.wrap .i64 (i_2 - 1))) * 5)) 0) = some (Value.string s33) ∧
  J30 (Op.bytesLess (ByteArray.toList s31) (ByteArray.toList s33)) (World.drew w29)))
  (J30 false (World.drew w29))) ∧
  ∀ t39_34 (j35 : Nat → Value) (w36 : World), J30 t39_34 w36 →
  V.sel t39_34
  (R (Ending.returned (Value.int .i64 36)) w36)
  (∃ J37 : Bool → World → Prop, (∃ J38 : Bool → World → Prop, (∃ b39, World.cell? w36 (Addr.add ⟨Array.size (World.heap w), 0, none⟩ 3) = some (Value.bool b39) ∧
  V.sel (!b39)
  (∃ b40, World.cell? w36 (Addr.add ⟨Array.size (World.heap w), 0, none⟩ 4) = some (Value.bool b40) ∧
  J38 (!b40) w36)
  (J38 false w36)) ∧
  ∀ t53_41 (j42 : Nat → Value) (w43 : World), J38 t53_41 w43 →
  V.sel t53_41
  (J37 t53_41 w43)
  (∃ J44 : Bool → World → Prop, (∃ b45, World.cell? w43 (Addr.add ⟨Array.size (World.heap w), 0, none⟩ 3) = some (Value.bool b45) ∧
  V.sel (!b45)
  (∃ s46, World.cell? w43 (Addr.add ⟨Array.size (World.heap w), 0, none⟩ 1) = some (Value.string s46) ∧
  J44 (!(ByteArray.toList s46 == ByteArray.toList ByteArray.empty)) w43)
  (J44 false w43)) ∧
  ∀ t53_47 (j48 : Nat → Value) (w49 : World), J44 t53_47 w49 →
  V.sel t53_47
  (J37 t53_47 w49)
  (∃ J50 : Bool → World → Prop, (∃ b51, World.cell? w49 (Addr.add ⟨Array.size (World.heap w), 0, none⟩ 4) = some (Value.bool b51) ∧
  V.sel (!b51)
  (∃ s52, World.cell? w49 (Addr.add ⟨Array.size (World.heap w), 0, none⟩ 2) = some (Value.string s52) ∧
  J50 (!(ByteArray.toList s52 == ByteArray.toList ByteArray.empty)) w49)
  (J50 false w49)) ∧
  ∀ t53_53 (j54 : Nat → Value) (w55 : World), J50 t53_53 w55 →
  V.sel t53_53
  (J37 t53_53 w55)
  (∃ b56, World.cell? w55 (Addr.add ⟨Array.size (World.heap w), 0, none⟩ 3) = some (Value.bool b56) ∧
  V.sel b56
  (∃ b57, World.cell? w55 (Addr.add ⟨Array.size (World.heap w), 0, none⟩ 4) = some (Value.bool b57) ∧
  V.sel b57
  (∃ s58, World.cell? w55 (Addr.add ⟨Array.size (World.heap w), 0, none⟩ 1) = some (Value.string s58) ∧
  ∃ s59, World.cell? w55 (Addr.add ⟨Array.size (World.heap w), 0, none⟩ 2) = some (Value.string s59) ∧
  J37 (ByteArray.toList s58 == ByteArray.toList s59) w55)
  (J37 false w55))
  (J37 false w55))))) ∧
  ∀ t53_60 (j61 : Nat → Value) (w62 : World), J37 t53_60 w62 →
  V.sel t53_60
  (R (Ending.returned (Value.int .i64 37)) w62)
  (∃ J63 : Bool → World → Prop, (∃ J64 : Bool → World → Prop, (∃ b65, World.cell? w62 (Addr.add ⟨Array.size (World.heap w), 0, none⟩ 3) = some (Value.bool b65) ∧
  V.sel b65
  (J64 (!b16) w62)
  (J64 false w62)) ∧
  ∀ t91_66 (j67 : Nat → Value) (w68 : World), J64 t91_66 w68 →
  V.sel t91_66
  (J63 t91_66 w68)
  (∃ b69, World.cell? w68 (Addr.add ⟨Array.size (World.heap w), 0, none⟩ 4) = some (Value.bool b69) ∧
  V.sel b69
  (J63 (!b20) w68)
  (J63 false w68))) ∧
  ∀ t91_70 (j71 : Nat → Value) (w72 : World), J63 t91_70 w72 →
  V.sel t91_70
  (R (Ending.returned (Value.int .i64 32)) w72)
  (R (Ending.returned (Value.int .i64 0)) w72))))))) :
  Calls Tryz.prog 61 #[(Value.slice diffs_1 diffs_1l diffs_1c), (Value.int .i64 i_2)] w R :=
  V.calls_of_R ⟨V.assoc [], V.assocP [(7, V.line [0, 1, 2, 3, 4, 5, 6, 7, 8, 9, 10, 11, 12, 13]), (9, V.line [0, 1, 2, 3, 4, 5, 6, 7, 8, 9, 10, 11, 12, 13])], V.assocC [(1000009, ([25], [V.Sh.one .bool])), (1000011, ([39], [V.Sh.one .bool])), (1000013, ([53], [V.Sh.one .bool])), (1000014, ([53], [V.Sh.one .bool])), (1000015, ([53], [V.Sh.one .bool])), (1000016, ([53], [V.Sh.one .bool])), (1000018, ([91], [V.Sh.one .bool])), (1000019, ([91], [V.Sh.one .bool]))], V.assocS [], ⟨[], true⟩⟩ Tryz.func61 rfl (Eq.mp (by kernel_rfl) h)

theorem berthref03_low_nf (c_1 : Int) (w : World) (R : Ending → World → Prop) (h :
  V.sel (decide (c_1 ≥ 97))
  (V.sel (decide (c_1 ≤ 122))
  (R (Ending.returned (Value.bool true)) w)
  (V.sel (decide (c_1 ≥ 48))
  (R (Ending.returned (Value.bool (decide (c_1 ≤ 57)))) w)
  (R (Ending.returned (Value.bool false)) w)))
  (V.sel (decide (c_1 ≥ 48))
  (R (Ending.returned (Value.bool (decide (c_1 ≤ 57)))) w)
  (R (Ending.returned (Value.bool false)) w))) :
  Calls Tryz.prog 120 #[(Value.int .u8 c_1)] w R :=
  V.calls_of_R ⟨V.assoc [], V.assocP [], V.assocC [], V.assocS [], ⟨[], true⟩⟩ Tryz.func120 rfl (Eq.mp (by kernel_rfl) h)

theorem berthref03_one_nf (was_1 : Option Addr) (was_1l : Nat) (was_1c : Nat) (now_2 : Option Addr) (now_2l : Nat) (now_2c : Nat) (key_3 : ByteArray) (w : World) (R : Ending → World → Prop) (h :
  ∀ w4, w4 = (World.alloc w (.cells #[(Value.string ByteArray.empty), (Value.string ByteArray.empty), (Value.string ByteArray.empty), (Value.bool false), (Value.bool false)] 59)) →
  Calls Tryz.prog 62 #[(Value.slice was_1 was_1l was_1c), (Value.string key_3)] w4 fun e7 w8 =>
  ∃ s5, ∃ b6, e7 = Ending.returned (Value.tuple #[(Value.string s5), (Value.bool b6)]) ∧
  Calls Tryz.prog 62 #[(Value.slice now_2 now_2l now_2c), (Value.string key_3)] w8 fun e11 w12 =>
  ∃ s9, ∃ b10, e11 = Ending.returned (Value.tuple #[(Value.string s9), (Value.bool b10)]) ∧
  ∃ w13, Sem.run Tryz.prog (Instr.storeAt 59 (Value.pointer (some ⟨Array.size (World.heap w), 0, none⟩)) (Value.agg #[(Value.string key_3), (Value.string s5), (Value.string s9), (Value.bool b6), (Value.bool b10)])) w12 = .ok () w13 ∧
  ∃ s14, ∃ s15, ∃ s16, ∃ b17, ∃ b18, V.cellsC (fun a_ x_ => World.cell? w13 a_ = some x_) ⟨Array.size (World.heap w), 0, none⟩ [(Value.string s14), (Value.string s15), (Value.string s16), (Value.bool b17), (Value.bool b18)] ∧
  R (Ending.returned (Value.agg #[(Value.string s14), (Value.string s15), (Value.string s16), (Value.bool b17), (Value.bool b18)])) w13) :
  Calls Tryz.prog 97 #[(Value.slice was_1 was_1l was_1c), (Value.slice now_2 now_2l now_2c), (Value.string key_3)] w R :=
  V.calls_of_R ⟨V.assoc [], V.assocP [], V.assocC [], V.assocS [], ⟨[], true⟩⟩ Tryz.func97 rfl (Eq.mp (by kernel_rfl) h)

theorem internal_stringslite_TrimPrefix_nf (s_1 : ByteArray) (prefix_2 : ByteArray) (w : World) (R : Ending → World → Prop) (h :
  Calls Tryz.prog 132 #[(Value.string s_1), (Value.string prefix_2)] w fun e4 w5 =>
  ∃ b3, e4 = Ending.returned (Value.bool b3) ∧
  V.sel b3
  (V.when (decide ((0 : Int) ≤ ((ByteArray.size prefix_2 : Nat) : Int) ∧ (((ByteArray.size prefix_2 : Nat) : Int) : Int) ≤ (((ByteArray.size s_1) : Nat) : Int))) (R (Ending.returned (Value.string (ByteArray.extract s_1 (ByteArray.size prefix_2 : Nat) (ByteArray.size s_1)))) w5))
  (R (Ending.returned (Value.string s_1)) w5)) :
  Calls Tryz.prog 123 #[(Value.string s_1), (Value.string prefix_2)] w R :=
  V.calls_of_R ⟨V.assoc [], V.assocP [], V.assocC [], V.assocS [], ⟨[], true⟩⟩ Tryz.func123 rfl (Eq.mp (by kernel_rfl) h)

theorem internal_stringslite_HasPrefix_nf (s_1 : ByteArray) (prefix_2 : ByteArray) (w : World) (R : Ending → World → Prop) (h :
  V.sel (decide (((ByteArray.size s_1 : Nat) : Int) ≥ ((ByteArray.size prefix_2 : Nat) : Int)))
  (V.when (decide ((0 : Int) ≤ ((ByteArray.size prefix_2 : Nat) : Int) ∧ (((ByteArray.size prefix_2 : Nat) : Int) : Int) ≤ (((ByteArray.size s_1) : Nat) : Int))) (R (Ending.returned (Value.bool (ByteArray.toList (ByteArray.extract s_1 0 (ByteArray.size prefix_2 : Nat)) == ByteArray.toList prefix_2))) w))
  (R (Ending.returned (Value.bool false)) w)) :
  Calls Tryz.prog 132 #[(Value.string s_1), (Value.string prefix_2)] w R :=
  V.calls_of_R ⟨V.assoc [], V.assocP [], V.assocC [], V.assocS [], ⟨[], true⟩⟩ Tryz.func132 rfl (Eq.mp (by kernel_rfl) h)

end Go.Proofs.YtcohengppaighaaGreatDoor
