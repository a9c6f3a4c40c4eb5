/- Normal forms of the program's functions, printed by a program of mine; the kernel checks each. -/
import Derived.Test.YtcohengppaighaaDoorProg
import Derived.Test.YtcohengppaighaaDoorV2
set_option linter.unusedVariables false
set_option maxRecDepth 100000
namespace Go.Proofs.YtcohengppaighaaDoor
open Go

theorem labels_IsName_nf (s_1 : ByteArray) (w : World) (R : Ending → World → Prop) (h :
  V.sel (decide (((ByteArray.size s_1 : Nat) : Int) < 1))
  (R (Ending.returned (Value.bool false)) w)
  (V.sel (decide (((ByteArray.size s_1 : Nat) : Int) > 63))
  (R (Ending.returned (Value.bool false)) w)
  (Calls Tryd.prog 35 #[(Value.string s_1), (Value.string ⟨#[46]⟩)] w fun e3 w4 =>
  ∃ A2, ∃ A2l, ∃ A2c, e3 = Ending.returned (Value.slice A2 A2l A2c) ∧
  ∃ I5 : Int → World → Prop, ∃ μ6 : Int → World → Nat, I5 0 w4 ∧
  ∀ t17_7 (j8 : Nat → Value) (w9 : World), I5 t17_7 w9 →
  (V.sel (decide (t17_7 < ((A2l : Nat) : Int)))
  (V.when (decide ((0 : Int) ≤ t17_7 ∧ (t17_7 : Int) < ((A2l : Nat) : Int))) (V.ptr A2 fun a10 =>
  ∃ s11, World.cell? w9 (Addr.add a10 ((Int.toNat t17_7) * 1)) = some (Value.string s11) ∧
  V.sel (ByteArray.toList s11 == ByteArray.toList ByteArray.empty)
  (R (Ending.returned (Value.bool false)) w9)
  (V.when (decide ((0 : Int) ≤ 0 ∧ (0 : Int) < ((ByteArray.size s11 : Nat) : Int))) (Calls Tryd.prog 56 #[(Value.int .u8 (V.byteAt s11 0))] w9 fun e13 w14 =>
  ∃ b12, e13 = Ending.returned (Value.bool b12) ∧
  V.sel (!b12)
  (R (Ending.returned (Value.bool false)) w14)
  (V.when (decide ((0 : Int) ≤ (IntKind.wrap .i64 (((ByteArray.size s11 : Nat) : Int) - 1)) ∧ ((IntKind.wrap .i64 (((ByteArray.size s11 : Nat) : Int) - 1)) : Int) < ((ByteArray.size s11 : Nat) : Int))) (Calls Tryd.prog 56 #[(Value.int .u8 (V.byteAt s11 (IntKind.wrap .i64 (((ByteArray.size s11 : Nat) : Int) - 1))))] w14 fun e16 w17 =>
  ∃ b15, e16 = Ending.returned (Value.bool b15) ∧
  V.sel (!b15)
  (R (Ending.returned (Value.bool false)) w17)
  (∃ I18 : Int → World → Prop, ∃ μ19 : Int → World → Nat, I18 0 w17 ∧
  ∀ t40_20 (j21 : Nat → Value) (w22 : World), I18 t40_20 w22 →
  (V.sel (decide (t40_20 < ((ByteArray.size s11 : Nat) : Int)))
  (V.when (decide ((0 : Int) ≤ t40_20 ∧ (t40_20 : Int) < ((ByteArray.size s11 : Nat) : Int))) (Calls Tryd.prog 56 #[(Value.int .u8 (V.byteAt s11 t40_20))] w22 fun e24 w25 =>
  ∃ b23, e24 = Ending.returned (Value.bool b23) ∧
  V.sel (!b23)
  (V.when (decide ((0 : Int) ≤ t40_20 ∧ (t40_20 : Int) < ((ByteArray.size s11 : Nat) : Int))) (V.sel ((V.byteAt s11 t40_20) != 45)
  (R (Ending.returned (Value.bool false)) w25)
  (I18 (IntKind.wrap .i64 (t40_20 + 1)) w25 ∧ μ19 (IntKind.wrap .i64 (t40_20 + 1)) w25 < μ19 t40_20 w22)))
  (I18 (IntKind.wrap .i64 (t40_20 + 1)) w25 ∧ μ19 (IntKind.wrap .i64 (t40_20 + 1)) w25 < μ19 t40_20 w22)))
  (I5 (IntKind.wrap .i64 (t17_7 + 1)) w22 ∧ μ6 (IntKind.wrap .i64 (t17_7 + 1)) w22 < μ6 t17_7 w9)))))))))
  (R (Ending.returned (Value.bool true)) w9))))) :
  Calls Tryd.prog 43 #[(Value.string s_1)] w R :=
  V.calls_of_R ⟨V.assoc [(0, [17]), (1, [40])], V.assocP [], V.assocC [], V.assocS [], ⟨[], true⟩⟩ Tryd.func43 rfl (Eq.mp (by kernel_rfl) h)

theorem labels_isShort_nf (s_1 : ByteArray) (w : World) (R : Ending → World → Prop) (h :
  V.sel (decide (((ByteArray.size s_1 : Nat) : Int) < 1))
  (R (Ending.returned (Value.bool false)) w)
  (V.sel (decide (((ByteArray.size s_1 : Nat) : Int) > 63))
  (R (Ending.returned (Value.bool false)) w)
  (V.when (decide ((0 : Int) ≤ 0 ∧ (0 : Int) < ((ByteArray.size s_1 : Nat) : Int))) (Calls Tryd.prog 45 #[(Value.int .u8 (V.byteAt s_1 0))] w fun e3 w4 =>
  ∃ b2, e3 = Ending.returned (Value.bool b2) ∧
  V.sel (!b2)
  (R (Ending.returned (Value.bool false)) w4)
  (V.when (decide ((0 : Int) ≤ (IntKind.wrap .i64 (((ByteArray.size s_1 : Nat) : Int) - 1)) ∧ ((IntKind.wrap .i64 (((ByteArray.size s_1 : Nat) : Int) - 1)) : Int) < ((ByteArray.size s_1 : Nat) : Int))) (Calls Tryd.prog 45 #[(Value.int .u8 (V.byteAt s_1 (IntKind.wrap .i64 (((ByteArray.size s_1 : Nat) : Int) - 1))))] w4 fun e6 w7 =>
  ∃ b5, e6 = Ending.returned (Value.bool b5) ∧
  V.sel (!b5)
  (R (Ending.returned (Value.bool false)) w7)
  (∃ I8 : Int → World → Prop, ∃ μ9 : Int → World → Nat, I8 0 w7 ∧
  ∀ t29_10 (j11 : Nat → Value) (w12 : World), I8 t29_10 w12 →
  (V.sel (decide (t29_10 < ((ByteArray.size s_1 : Nat) : Int)))
  (V.when (decide ((0 : Int) ≤ t29_10 ∧ (t29_10 : Int) < ((ByteArray.size s_1 : Nat) : Int))) (Calls Tryd.prog 46 #[(Value.int .u8 (V.byteAt s_1 t29_10))] w12 fun e14 w15 =>
  ∃ b13, e14 = Ending.returned (Value.bool b13) ∧
  V.sel (!b13)
  (R (Ending.returned (Value.bool false)) w15)
  (I8 (IntKind.wrap .i64 (t29_10 + 1)) w15 ∧ μ9 (IntKind.wrap .i64 (t29_10 + 1)) w15 < μ9 t29_10 w12)))
  (R (Ending.returned (Value.bool true)) w12))))))))) :
  Calls Tryd.prog 44 #[(Value.string s_1)] w R :=
  V.calls_of_R ⟨V.assoc [(0, [29])], V.assocP [], V.assocC [], V.assocS [], ⟨[], true⟩⟩ Tryd.func44 rfl (Eq.mp (by kernel_rfl) h)

theorem labels_word_nf (c_1 : Int) (w : World) (R : Ending → World → Prop) (h :
  Calls Tryd.prog 56 #[(Value.int .u8 c_1)] w fun e3 w4 =>
  ∃ b2, e3 = Ending.returned (Value.bool b2) ∧
  V.sel b2
  (R (Ending.returned (Value.bool true)) w4)
  (V.sel (decide (c_1 ≥ 65))
  (R (Ending.returned (Value.bool (decide (c_1 ≤ 90)))) w4)
  (R (Ending.returned (Value.bool false)) w4))) :
  Calls Tryd.prog 45 #[(Value.int .u8 c_1)] w R :=
  V.calls_of_R ⟨V.assoc [], V.assocP [], V.assocC [], V.assocS [], ⟨[], true⟩⟩ Tryd.func45 rfl (Eq.mp (by kernel_rfl) h)

theorem labels_inner_nf (c_1 : Int) (w : World) (R : Ending → World → Prop) (h :
  Calls Tryd.prog 45 #[(Value.int .u8 c_1)] w fun e3 w4 =>
  ∃ b2, e3 = Ending.returned (Value.bool b2) ∧
  V.sel b2
  (R (Ending.returned (Value.bool true)) w4)
  (V.sel (c_1 == 45)
  (R (Ending.returned (Value.bool true)) w4)
  (V.sel (c_1 == 95)
  (R (Ending.returned (Value.bool true)) w4)
  (R (Ending.returned (Value.bool (c_1 == 46))) w4)))) :
  Calls Tryd.prog 46 #[(Value.int .u8 c_1)] w R :=
  V.calls_of_R ⟨V.assoc [], V.assocP [], V.assocC [], V.assocS [], ⟨[], true⟩⟩ Tryd.func46 rfl (Eq.mp (by kernel_rfl) h)

theorem slices_Clip___api_Label_api_Label__nf (s_1 : Option Addr) (s_1l : Nat) (s_1c : Nat) (w : World) (R : Ending → World → Prop) (h :
  V.when (decide ((0 : Int) ≤ ((s_1l : Nat) : Int) ∧ (((s_1l : Nat) : Int) : Int) ≤ ((s_1c : Nat) : Int))) (V.when (decide ((0 : Int) ≤ ((s_1l : Nat) : Int) ∧ (((s_1l : Nat) : Int) : Int) ≤ (((s_1l : Nat) : Nat) : Int))) (R (Ending.returned (Value.slice (V.cut s_1 (s_1l : Nat) 0 2) ((s_1l : Nat) - 0) ((s_1l : Nat) - 0))) w))) :
  Calls Tryd.prog 47 #[(Value.slice s_1 s_1l s_1c)] w R :=
  V.calls_of_R ⟨V.assoc [], V.assocP [], V.assocC [], V.assocS [], ⟨[], true⟩⟩ Tryd.func47 rfl (Eq.mp (by kernel_rfl) h)

theorem berthref03_IsKey_nf (s_1 : ByteArray) (w : World) (R : Ending → World → Prop) (h :
  V.sel (decide (((ByteArray.size s_1 : Nat) : Int) > 127))
  (R (Ending.returned (Value.bool false)) w)
  (Calls Tryd.prog 57 #[(Value.string s_1), (Value.int .u8 47)] w fun e3 w4 =>
  ∃ A2, ∃ A2l, ∃ A2c, e3 = Ending.returned (Value.slice A2 A2l A2c) ∧
  V.sel (((A2l : Nat) : Int) == 1)
  (V.when (decide ((0 : Int) ≤ 0 ∧ (0 : Int) < ((A2l : Nat) : Int))) (V.ptr A2 fun a5 =>
  ∃ s6, World.cell? w4 (Addr.add a5 0) = some (Value.string s6) ∧
  Calls Tryd.prog 58 #[(Value.string s6)] w4 fun e8 w9 =>
  ∃ b7, e8 = Ending.returned (Value.bool b7) ∧
  R (Ending.returned (Value.bool b7)) w9))
  (V.sel (((A2l : Nat) : Int) == 2)
  (V.when (decide ((0 : Int) ≤ 0 ∧ (0 : Int) < ((A2l : Nat) : Int))) (V.ptr A2 fun a10 =>
  ∃ s11, World.cell? w4 (Addr.add a10 0) = some (Value.string s11) ∧
  Calls Tryd.prog 59 #[(Value.string s11)] w4 fun e13 w14 =>
  ∃ b12, e13 = Ending.returned (Value.bool b12) ∧
  V.sel b12
  (V.when (decide ((0 : Int) ≤ 1 ∧ (1 : Int) < ((A2l : Nat) : Int))) (V.ptr A2 fun a15 =>
  ∃ s16, World.cell? w14 (Addr.add a15 1) = some (Value.string s16) ∧
  Calls Tryd.prog 58 #[(Value.string s16)] w14 fun e18 w19 =>
  ∃ b17, e18 = Ending.returned (Value.bool b17) ∧
  R (Ending.returned (Value.bool b17)) w19))
  (R (Ending.returned (Value.bool false)) w14)))
  (R (Ending.returned (Value.bool false)) w4)))) :
  Calls Tryd.prog 48 #[(Value.string s_1)] w R :=
  V.calls_of_R ⟨V.assoc [], V.assocP [], V.assocC [], V.assocS [], ⟨[], true⟩⟩ Tryd.func48 rfl (Eq.mp (by kernel_rfl) h)

theorem berthref03_IsValue_nf (s_1 : ByteArray) (w : World) (R : Ending → World → Prop) (h :
  V.sel (ByteArray.toList s_1 == ByteArray.toList ByteArray.empty)
  (R (Ending.returned (Value.bool true)) w)
  (V.sel (decide (((ByteArray.size s_1 : Nat) : Int) > 63))
  (R (Ending.returned (Value.bool false)) w)
  (∃ I2 : Int → World → Prop, ∃ μ3 : Int → World → Nat, I2 0 w ∧
  ∀ i_4 (j5 : Nat → Value) (w6 : World), I2 i_4 w6 →
  (V.sel (decide (i_4 < ((ByteArray.size s_1 : Nat) : Int)))
  (V.when (decide ((0 : Int) ≤ i_4 ∧ (i_4 : Int) < ((ByteArray.size s_1 : Nat) : Int))) (Calls Tryd.prog 60 #[(Value.int .u8 (V.byteAt s_1 i_4))] w6 fun e8 w9 =>
  ∃ b7, e8 = Ending.returned (Value.bool b7) ∧
  V.sel (!b7)
  (R (Ending.returned (Value.bool false)) w9)
  (I2 (IntKind.wrap .i64 (i_4 + 1)) w9 ∧ μ3 (IntKind.wrap .i64 (i_4 + 1)) w9 < μ3 i_4 w6)))
  (V.when (decide ((0 : Int) ≤ 0 ∧ (0 : Int) < ((ByteArray.size s_1 : Nat) : Int))) (Calls Tryd.prog 61 #[(Value.int .u8 (V.byteAt s_1 0))] w6 fun e11 w12 =>
  ∃ b10, e11 = Ending.returned (Value.bool b10) ∧
  V.sel b10
  (V.when (decide ((0 : Int) ≤ (IntKind.wrap .i64 (((ByteArray.size s_1 : Nat) : Int) - 1)) ∧ ((IntKind.wrap .i64 (((ByteArray.size s_1 : Nat) : Int) - 1)) : Int) < ((ByteArray.size s_1 : Nat) : Int))) (Calls Tryd.prog 61 #[(Value.int .u8 (V.byteAt s_1 (IntKind.wrap .i64 (((ByteArray.size s_1 : Nat) : Int) - 1))))] w12 fun e14 w15 =>
  ∃ b13, e14 = Ending.returned (Value.bool b13) ∧
  R (Ending.returned (Value.bool b13)) w15))
  (V.when (decide ((0 : Int) ≤ 0 ∧ (0 : Int) < ((ByteArray.size s_1 : Nat) : Int))) (V.sel ((V.byteAt s_1 0) == 45)
  (V.when (decide ((0 : Int) ≤ (IntKind.wrap .i64 (((ByteArray.size s_1 : Nat) : Int) - 1)) ∧ ((IntKind.wrap .i64 (((ByteArray.size s_1 : Nat) : Int) - 1)) : Int) < ((ByteArray.size s_1 : Nat) : Int))) (Calls Tryd.prog 61 #[(Value.int .u8 (V.byteAt s_1 (IntKind.wrap .i64 (((ByteArray.size s_1 : Nat) : Int) - 1))))] w12 fun e17 w18 =>
  ∃ b16, e17 = Ending.returned (Value.bool b16) ∧
  R (Ending.returned (Value.bool b16)) w18))
  (R (Ending.returned (Value.bool false)) w12))))))))) :
  Calls Tryd.prog 49 #[(Value.string s_1)] w R :=
  V.calls_of_R ⟨V.assoc [(0, [3])], V.assocP [], V.assocC [], V.assocS [], ⟨[], true⟩⟩ Tryd.func49 rfl (Eq.mp (by kernel_rfl) h)

theorem berthref03_Get_nf (list_1 : Option Addr) (list_1l : Nat) (list_1c : Nat) (key_2 : ByteArray) (w : World) (R : Ending → World → Prop) (h :
  Calls Tryd.prog 30 #[(Value.slice list_1 list_1l list_1c), (Value.string key_2)] w fun e4 w5 =>
  ∃ n3, e4 = Ending.returned (Value.int .i64 n3) ∧
  V.sel (decide (n3 < 0))
  (R (Ending.returned (Value.tuple #[(Value.string ByteArray.empty), (Value.bool false)])) w5)
  (V.when (decide ((0 : Int) ≤ n3 ∧ (n3 : Int) < ((list_1l : Nat) : Int))) (V.ptr list_1 fun a6 =>
  ∃ s7, World.cell? w5 (Addr.add (Addr.add a6 ((Int.toNat n3) * 2)) 1) = some (Value.string s7) ∧
  R (Ending.returned (Value.tuple #[(Value.string s7), (Value.bool true)])) w5))) :
  Calls Tryd.prog 50 #[(Value.slice list_1 list_1l list_1c), (Value.string key_2)] w R :=
  V.calls_of_R ⟨V.assoc [], V.assocP [], V.assocC [], V.assocS [], ⟨[], true⟩⟩ Tryd.func50 rfl (Eq.mp (by kernel_rfl) h)

theorem internal_stringslite_Cut_nf (s_1 : ByteArray) (sep_2 : ByteArray) (w : World) (R : Ending → World → Prop) (h :
  Calls Tryd.prog 65 #[(Value.string s_1), (Value.string sep_2)] w fun e4 w5 =>
  ∃ n3, e4 = Ending.returned (Value.int .i64 n3) ∧
  V.sel (decide (n3 ≥ 0))
  (V.when (decide ((0 : Int) ≤ n3 ∧ (n3 : Int) ≤ (((ByteArray.size s_1) : Nat) : Int))) (V.when (decide ((0 : Int) ≤ (IntKind.wrap .i64 (n3 + ((ByteArray.size sep_2 : Nat) : Int))) ∧ ((IntKind.wrap .i64 (n3 + ((ByteArray.size sep_2 : Nat) : Int))) : Int) ≤ (((ByteArray.size s_1) : Nat) : Int))) (R (Ending.returned (Value.tuple #[(Value.string (ByteArray.extract s_1 0 (Int.toNat n3))), (Value.string (ByteArray.extract s_1 (Int.toNat (IntKind.wrap .i64 (n3 + ((ByteArray.size sep_2 : Nat) : Int)))) (ByteArray.size s_1))), (Value.bool true)])) (World.drew w5))))
  (R (Ending.returned (Value.tuple #[(Value.string s_1), (Value.string ByteArray.empty), (Value.bool false)])) w5)) :
  Calls Tryd.prog 52 #[(Value.string s_1), (Value.string sep_2)] w R :=
  V.calls_of_R ⟨V.assoc [], V.assocP [(3, V.line [0, 1, 2, 3, 4, 5, 6, 7, 8, 9, 10, 11])], V.assocC [], V.assocS [], ⟨[], true⟩⟩ Tryd.func52 rfl (Eq.mp (by kernel_rfl) h)

theorem labels_sorted_l1_nf (i_1 : Int) (j_2 : Int) (free0_3 : Option Addr) (w : World) (R : Ending → World → Prop) (h :
  V.ptr free0_3 fun a4 =>
  ∃ A5, ∃ A5l, ∃ A5c, World.cell? w a4 = some (Value.slice A5 A5l A5c) ∧
  V.when (decide ((0 : Int) ≤ i_1 ∧ (i_1 : Int) < ((A5l : Nat) : Int))) (V.ptr A5 fun a6 =>
  ∃ s7, World.cell? w (Addr.add (Addr.add a6 ((Int.toNat i_1) * 2)) 0) = some (Value.string s7) ∧
  V.ptr free0_3 fun a8 =>
  ∃ A9, ∃ A9l, ∃ A9c, World.cell? w a8 = some (Value.slice A9 A9l A9c) ∧
  V.when (decide ((0 : Int) ≤ j_2 ∧ (j_2 : Int) < ((A9l : Nat) : Int))) (V.ptr A9 fun a10 =>
  ∃ s11, World.cell? w (Addr.add (Addr.add a10 ((Int.toNat j_2) * 2)) 0) = some (Value.string s11) ∧
  R (Ending.returned (Value.bool (Op.bytesLess (ByteArray.toList s7) (ByteArray.toList s11)))) (World.drew w)))) :
  Calls Tryd.prog 54 #[(Value.int .i64 i_1), (Value.int .i64 j_2), (Value.pointer free0_3)] w R :=
  V.calls_of_R ⟨V.assoc [], V.assocP [(1, V.line [0, 1, 2, 3, 4, 5, 6, 7, 8, 9, 10, 11])], V.assocC [], V.assocS [], ⟨[], true⟩⟩ Tryd.func54 rfl (Eq.mp (by kernel_rfl) h)

theorem labels_low_nf (c_1 : Int) (w : World) (R : Ending → World → Prop) (h :
  V.sel (decide (c_1 ≥ 97))
  (V.sel (decide (c_1 ≤ 122))
  (R (Ending.returned (Value.bool true)) w)
  (V.sel (decide (c_1 ≥ 48))
  (R (Ending.returned (Value.bool (decide (c_1 ≤ 57)))) w)
  (R (Ending.returned (Value.bool false)) w)))
  (V.sel (decide (c_1 ≥ 48))
  (R (Ending.returned (Value.bool (decide (c_1 ≤ 57)))) w)
  (R (Ending.returned (Value.bool false)) w))) :
  Calls Tryd.prog 56 #[(Value.int .u8 c_1)] w R :=
  V.calls_of_R ⟨V.assoc [], V.assocP [], V.assocC [], V.assocS [], ⟨[], true⟩⟩ Tryd.func56 rfl (Eq.mp (by kernel_rfl) h)

theorem berthref03_cut_nf (s_1 : ByteArray) (c_2 : Int) (w : World) (R : Ending → World → Prop) (h :
  ∃ I3 : Option Addr → Nat → Nat → Int → Int → World → Prop, ∃ μ4 : Option Addr → Nat → Nat → Int → Int → World → Nat, I3 none 0 0 0 0 w ∧
  ∀ l_5 l_5l l_5c from_6 i_7 (j8 : Nat → Value) (w9 : World), I3 l_5 l_5l l_5c from_6 i_7 w9 →
  (V.sel (decide (i_7 < ((ByteArray.size s_1 : Nat) : Int)))
  (V.when (decide ((0 : Int) ≤ i_7 ∧ (i_7 : Int) < ((ByteArray.size s_1 : Nat) : Int))) (V.sel ((V.byteAt s_1 i_7) == c_2)
  (V.when (decide ((0 : Int) ≤ i_7 ∧ (i_7 : Int) ≤ (((ByteArray.size s_1) : Nat) : Int))) (V.when (decide ((0 : Int) ≤ from_6 ∧ (from_6 : Int) ≤ (((Int.toNat i_7) : Nat) : Int))) (∀ w10, w10 = (World.alloc w9 (.cells #[(Value.string (ByteArray.extract s_1 (Int.toNat from_6) (Int.toNat i_7)))] 9)) →
  ∃ A11, ∃ A11l, ∃ A11c, ∃ w12, Sem.run Tryd.prog (Builtin.append_ #[66, 66] 66 #[(Value.slice l_5 l_5l l_5c), (Value.slice (some ⟨Array.size (World.heap w9), 0, none⟩) 1 1)]) w10 = .ok (Value.slice A11 A11l A11c) w12 ∧
  I3 A11 A11l A11c (IntKind.wrap .i64 (i_7 + 1)) (IntKind.wrap .i64 (i_7 + 1)) w12 ∧ μ4 A11 A11l A11c (IntKind.wrap .i64 (i_7 + 1)) (IntKind.wrap .i64 (i_7 + 1)) w12 < μ4 l_5 l_5l l_5c from_6 i_7 w9)))
  (I3 l_5 l_5l l_5c from_6 (IntKind.wrap .i64 (i_7 + 1)) w9 ∧ μ4 l_5 l_5l l_5c from_6 (IntKind.wrap .i64 (i_7 + 1)) w9 < μ4 l_5 l_5l l_5c from_6 i_7 w9)))
  (V.when (decide ((0 : Int) ≤ from_6 ∧ (from_6 : Int) ≤ (((ByteArray.size s_1) : Nat) : Int))) (∀ w13, w13 = (World.alloc w9 (.cells #[(Value.string (ByteArray.extract s_1 (Int.toNat from_6) (ByteArray.size s_1)))] 9)) →
  ∃ A14, ∃ A14l, ∃ A14c, ∃ w15, Sem.run Tryd.prog (Builtin.append_ #[66, 66] 66 #[(Value.slice l_5 l_5l l_5c), (Value.slice (some ⟨Array.size (World.heap w9), 0, none⟩) 1 1)]) w13 = .ok (Value.slice A14 A14l A14c) w15 ∧
  R (Ending.returned (Value.slice A14 A14l A14c)) w15)))) :
  Calls Tryd.prog 57 #[(Value.string s_1), (Value.int .u8 c_2)] w R :=
  V.calls_of_R ⟨V.assoc [(0, [5, 6, 7])], V.assocP [], V.assocC [], V.assocS [], ⟨[], true⟩⟩ Tryd.func57 rfl (Eq.mp (by kernel_rfl) h)

theorem berthref03_short_nf (s_1 : ByteArray) (w : World) (R : Ending → World → Prop) (h :
  V.sel (ByteArray.toList s_1 == ByteArray.toList ByteArray.empty)
  (R (Ending.returned (Value.bool false)) w)
  (V.sel (decide (((ByteArray.size s_1 : Nat) : Int) > 63))
  (R (Ending.returned (Value.bool false)) w)
  (∃ I2 : Int → World → Prop, ∃ μ3 : Int → World → Nat, I2 0 w ∧
  ∀ i_4 (j5 : Nat → Value) (w6 : World), I2 i_4 w6 →
  (V.sel (decide (i_4 < ((ByteArray.size s_1 : Nat) : Int)))
  (V.when (decide ((0 : Int) ≤ i_4 ∧ (i_4 : Int) < ((ByteArray.size s_1 : Nat) : Int))) (Calls Tryd.prog 60 #[(Value.int .u8 (V.byteAt s_1 i_4))] w6 fun e8 w9 =>
  ∃ b7, e8 = Ending.returned (Value.bool b7) ∧
  V.sel (!b7)
  (R (Ending.returned (Value.bool false)) w9)
  (I2 (IntKind.wrap .i64 (i_4 + 1)) w9 ∧ μ3 (IntKind.wrap .i64 (i_4 + 1)) w9 < μ3 i_4 w6)))
  (V.when (decide ((0 : Int) ≤ 0 ∧ (0 : Int) < ((ByteArray.size s_1 : Nat) : Int))) (Calls Tryd.prog 61 #[(Value.int .u8 (V.byteAt s_1 0))] w6 fun e11 w12 =>
  ∃ b10, e11 = Ending.returned (Value.bool b10) ∧
  V.sel b10
  (V.when (decide ((0 : Int) ≤ (IntKind.wrap .i64 (((ByteArray.size s_1 : Nat) : Int) - 1)) ∧ ((IntKind.wrap .i64 (((ByteArray.size s_1 : Nat) : Int) - 1)) : Int) < ((ByteArray.size s_1 : Nat) : Int))) (Calls Tryd.prog 61 #[(Value.int .u8 (V.byteAt s_1 (IntKind.wrap .i64 (((ByteArray.size s_1 : Nat) : Int) - 1))))] w12 fun e14 w15 =>
  ∃ b13, e14 = Ending.returned (Value.bool b13) ∧
  R (Ending.returned (Value.bool b13)) w15))
  (R (Ending.returned (Value.bool false)) w12))))))) :
  Calls Tryd.prog 58 #[(Value.string s_1)] w R :=
  V.calls_of_R ⟨V.assoc [(0, [3])], V.assocP [], V.assocC [], V.assocS [], ⟨[], true⟩⟩ Tryd.func58 rfl (Eq.mp (by kernel_rfl) h)

theorem berthref03_IsName_nf (s_1 : ByteArray) (w : World) (R : Ending → World → Prop) (h :
  V.sel (decide (((ByteArray.size s_1 : Nat) : Int) > 63))
  (R (Ending.returned (Value.bool false)) w)
  (Calls Tryd.prog 57 #[(Value.string s_1), (Value.int .u8 46)] w fun e3 w4 =>
  ∃ A2, ∃ A2l, ∃ A2c, e3 = Ending.returned (Value.slice A2 A2l A2c) ∧
  ∃ I5 : Int → World → Prop, ∃ μ6 : Int → World → Nat, I5 0 w4 ∧
  ∀ i_7 (j8 : Nat → Value) (w9 : World), I5 i_7 w9 →
  (V.sel (decide (i_7 < ((A2l : Nat) : Int)))
  (V.when (decide ((0 : Int) ≤ i_7 ∧ (i_7 : Int) < ((A2l : Nat) : Int))) (V.ptr A2 fun a10 =>
  ∃ s11, World.cell? w9 (Addr.add a10 ((Int.toNat i_7) * 1)) = some (Value.string s11) ∧
  Calls Tryd.prog 72 #[(Value.string s11)] w9 fun e13 w14 =>
  ∃ b12, e13 = Ending.returned (Value.bool b12) ∧
  V.sel (!b12)
  (R (Ending.returned (Value.bool false)) w14)
  (I5 (IntKind.wrap .i64 (i_7 + 1)) w14 ∧ μ6 (IntKind.wrap .i64 (i_7 + 1)) w14 < μ6 i_7 w9)))
  (R (Ending.returned (Value.bool true)) w9)))) :
  Calls Tryd.prog 59 #[(Value.string s_1)] w R :=
  V.calls_of_R ⟨V.assoc [(0, [4])], V.assocP [], V.assocC [], V.assocS [], ⟨[], true⟩⟩ Tryd.func59 rfl (Eq.mp (by kernel_rfl) h)

theorem berthref03_inner_nf (c_1 : Int) (w : World) (R : Ending → World → Prop) (h :
  Calls Tryd.prog 61 #[(Value.int .u8 c_1)] w fun e3 w4 =>
  ∃ b2, e3 = Ending.returned (Value.bool b2) ∧
  V.sel b2
  (R (Ending.returned (Value.bool true)) w4)
  (V.sel (c_1 == 45)
  (R (Ending.returned (Value.bool true)) w4)
  (V.sel (c_1 == 95)
  (R (Ending.returned (Value.bool true)) w4)
  (R (Ending.returned (Value.bool (c_1 == 46))) w4)))) :
  Calls Tryd.prog 60 #[(Value.int .u8 c_1)] w R :=
  V.calls_of_R ⟨V.assoc [], V.assocP [], V.assocC [], V.assocS [], ⟨[], true⟩⟩ Tryd.func60 rfl (Eq.mp (by kernel_rfl) h)

theorem berthref03_word_nf (c_1 : Int) (w : World) (R : Ending → World → Prop) (h :
  Calls Tryd.prog 73 #[(Value.int .u8 c_1)] w fun e3 w4 =>
  ∃ b2, e3 = Ending.returned (Value.bool b2) ∧
  V.sel b2
  (R (Ending.returned (Value.bool true)) w4)
  (V.sel (decide (c_1 ≥ 65))
  (R (Ending.returned (Value.bool (decide (c_1 ≤ 90)))) w4)
  (R (Ending.returned (Value.bool false)) w4))) :
  Calls Tryd.prog 61 #[(Value.int .u8 c_1)] w R :=
  V.calls_of_R ⟨V.assoc [], V.assocP [], V.assocC [], V.assocS [], ⟨[], true⟩⟩ Tryd.func61 rfl (Eq.mp (by kernel_rfl) h)

theorem strings_Index_nf (s_1 : ByteArray) (substr_2 : ByteArray) (w : World) (R : Ending → World → Prop) (h :
  Calls Tryd.prog 65 #[(Value.string s_1), (Value.string substr_2)] w fun e4 w5 =>
  ∃ n3, e4 = Ending.returned (Value.int .i64 n3) ∧
  R (Ending.returned (Value.int .i64 n3)) w5) :
  Calls Tryd.prog 64 #[(Value.string s_1), (Value.string substr_2)] w R :=
  V.calls_of_R ⟨V.assoc [], V.assocP [], V.assocC [], V.assocS [], ⟨[], true⟩⟩ Tryd.func64 rfl (Eq.mp (by kernel_rfl) h)

theorem berthref03_part_nf (s_1 : ByteArray) (w : World) (R : Ending → World → Prop) (h :
  V.sel (ByteArray.toList s_1 == ByteArray.toList ByteArray.empty)
  (R (Ending.returned (Value.bool false)) w)
  (∃ I2 : Int → World → Prop, ∃ μ3 : Int → World → Nat, I2 0 w ∧
  ∀ i_4 (j5 : Nat → Value) (w6 : World), I2 i_4 w6 →
  (V.sel (decide (i_4 < ((ByteArray.size s_1 : Nat) : Int)))
  (V.when (decide ((0 : Int) ≤ i_4 ∧ (i_4 : Int) < ((ByteArray.size s_1 : Nat) : Int))) (Calls Tryd.prog 73 #[(Value.int .u8 (V.byteAt s_1 i_4))] w6 fun e8 w9 =>
  ∃ b7, e8 = Ending.returned (Value.bool b7) ∧
  V.sel (!b7)
  (V.when (decide ((0 : Int) ≤ i_4 ∧ (i_4 : Int) < ((ByteArray.size s_1 : Nat) : Int))) (V.sel ((V.byteAt s_1 i_4) != 45)
  (R (Ending.returned (Value.bool false)) w9)
  (I2 (IntKind.wrap .i64 (i_4 + 1)) w9 ∧ μ3 (IntKind.wrap .i64 (i_4 + 1)) w9 < μ3 i_4 w6)))
  (I2 (IntKind.wrap .i64 (i_4 + 1)) w9 ∧ μ3 (IntKind.wrap .i64 (i_4 + 1)) w9 < μ3 i_4 w6)))
  (V.when (decide ((0 : Int) ≤ 0 ∧ (0 : Int) < ((ByteArray.size s_1 : Nat) : Int))) (Calls Tryd.prog 73 #[(Value.int .u8 (V.byteAt s_1 0))] w6 fun e11 w12 =>
  ∃ b10, e11 = Ending.returned (Value.bool b10) ∧
  V.sel b10
  (V.when (decide ((0 : Int) ≤ (IntKind.wrap .i64 (((ByteArray.size s_1 : Nat) : Int) - 1)) ∧ ((IntKind.wrap .i64 (((ByteArray.size s_1 : Nat) : Int) - 1)) : Int) < ((ByteArray.size s_1 : Nat) : Int))) (Calls Tryd.prog 73 #[(Value.int .u8 (V.byteAt s_1 (IntKind.wrap .i64 (((ByteArray.size s_1 : Nat) : Int) - 1))))] w12 fun e14 w15 =>
  ∃ b13, e14 = Ending.returned (Value.bool b13) ∧
  R (Ending.returned (Value.bool b13)) w15))
  (R (Ending.returned (Value.bool false)) w12)))))) :
  Calls Tryd.prog 72 #[(Value.string s_1)] w R :=
  V.calls_of_R ⟨V.assoc [(0, [3])], V.assocP [], V.assocC [], V.assocS [], ⟨[], true⟩⟩ Tryd.func72 rfl (Eq.mp (by kernel_rfl) h)

theorem berthref03_low_nf (c_1 : Int) (w : World) (R : Ending → World → Prop) (h :
  V.sel (decide (c_1 ≥ 97))
  (V.sel (decide (c_1 ≤ 122))
  (R (Ending.returned (Value.bool true)) w)
  (V.sel (decide (c_1 ≥ 48))
  (R (Ending.returned (Value.bool (decide (c_1 ≤ 57)))) w)
  (R (Ending.returned (Value.bool false)) w)))
  (V.sel (decide (c_1 ≥ 48))
  (R (Ending.returned (Value.bool (decide (c_1 ≤ 57)))) w)
  (R (Ending.returned (Value.bool false)) w))) :
  Calls Tryd.prog 73 #[(Value.int .u8 c_1)] w R :=
  V.calls_of_R ⟨V.assoc [], V.assocP [], V.assocC [], V.assocS [], ⟨[], true⟩⟩ Tryd.func73 rfl (Eq.mp (by kernel_rfl) h)

end Go.Proofs.YtcohengppaighaaDoor
