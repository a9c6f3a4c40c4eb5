/- Normal forms of the program's functions, printed by a program of mine; the kernel checks each. -/
import Derived.Test.YtpipenkaaodlgaaDoorProg
import Derived.Test.YtpipenkaaodlgaaDoorV2
set_option linter.unusedVariables false
set_option maxRecDepth 100000
namespace Go.Proofs.YtpipenkaaodlgaaDoor
open Go

theorem labels_IsKey_nf (s_1 : ByteArray) (w : World) (R : Ending → World → Prop) (h :
  Calls Tryd.prog 76 #[(Value.string s_1), (Value.string ⟨#[47]⟩)] w fun e5 w6 =>
  ∃ s2, ∃ s3, ∃ b4, e5 = Ending.returned (Value.tuple #[(Value.string s2), (Value.string s3), (Value.bool b4)]) ∧
  V.sel b4
  (Calls Tryd.prog 77 #[(Value.string s2)] w6 fun e8 w9 =>
  ∃ b7, e8 = Ending.returned (Value.bool b7) ∧
  V.sel b7
  (Calls Tryd.prog 78 #[(Value.string s3)] w9 fun e11 w12 =>
  ∃ b10, e11 = Ending.returned (Value.bool b10) ∧
  R (Ending.returned (Value.bool b10)) w12)
  (R (Ending.returned (Value.bool false)) w9))
  (Calls Tryd.prog 78 #[(Value.string s_1)] w6 fun e14 w15 =>
  ∃ b13, e14 = Ending.returned (Value.bool b13) ∧
  R (Ending.returned (Value.bool b13)) w15)) :
  Calls Tryd.prog 63 #[(Value.string s_1)] w R :=
  V.calls_of_R ⟨V.assoc [], V.assocP [], V.assocC [], V.assocS [], ⟨[], true⟩⟩ Tryd.func63 rfl (Eq.mp (by kernel_rfl) h)

theorem labels_IsValue_nf (s_1 : ByteArray) (w : World) (R : Ending → World → Prop) (h :
  V.sel (ByteArray.toList s_1 == ByteArray.toList ByteArray.empty)
  (R (Ending.returned (Value.bool true)) w)
  (V.sel (decide (((ByteArray.size s_1 : Nat) : Int) > 63))
  (R (Ending.returned (Value.bool false)) w)
  (V.when (decide ((0 : Int) ≤ (IntKind.wrap .i64 (((ByteArray.size s_1 : Nat) : Int) - 1)) ∧ ((IntKind.wrap .i64 (((ByteArray.size s_1 : Nat) : Int) - 1)) : Int) < ((ByteArray.size s_1 : Nat) : Int))) (Calls Tryd.prog 79 #[(Value.int .u8 (V.byteAt s_1 (IntKind.wrap .i64 (((ByteArray.size s_1 : Nat) : Int) - 1))))] w fun e3 w4 =>
  ∃ b2, e3 = Ending.returned (Value.bool b2) ∧
  V.sel (!b2)
  (R (Ending.returned (Value.bool false)) w4)
  (V.when (decide ((0 : Int) ≤ 0 ∧ (0 : Int) < ((ByteArray.size s_1 : Nat) : Int))) (Calls Tryd.prog 79 #[(Value.int .u8 (V.byteAt s_1 0))] w4 fun e6 w7 =>
  ∃ b5, e6 = Ending.returned (Value.bool b5) ∧
  V.sel (!b5)
  (V.when (decide ((0 : Int) ≤ 0 ∧ (0 : Int) < ((ByteArray.size s_1 : Nat) : Int))) (V.sel ((V.byteAt s_1 0) != 45)
  (R (Ending.returned (Value.bool false)) w7)
  (∃ I8 : Int → World → Prop, ∃ μ9 : Int → World → Nat, I8 0 w7 ∧
  ∀ t31_10 (j11 : Nat → Value) (w12 : World), I8 t31_10 w12 →
  (V.sel (decide (t31_10 < ((ByteArray.size s_1 : Nat) : Int)))
  (V.when (decide ((0 : Int) ≤ t31_10 ∧ (t31_10 : Int) < ((ByteArray.size s_1 : Nat) : Int))) (Calls Tryd.prog 80 #[(Value.int .u8 (V.byteAt s_1 t31_10))] w12 fun e14 w15 =>
  ∃ b13, e14 = Ending.returned (Value.bool b13) ∧
  V.sel (!b13)
  (R (Ending.returned (Value.bool false)) w15)
  (I8 (IntKind.wrap .i64 (t31_10 + 1)) w15 ∧ μ9 (IntKind.wrap .i64 (t31_10 + 1)) w15 < μ9 t31_10 w12)))
  (R (Ending.returned (Value.bool true)) w12)))))
  (∃ I16 : Int → World → Prop, ∃ μ17 : Int → World → Nat, I16 0 w7 ∧
  ∀ t31_18 (j19 : Nat → Value) (w20 : World), I16 t31_18 w20 →
  (V.sel (decide (t31_18 < ((ByteArray.size s_1 : Nat) : Int)))
  (V.when (decide ((0 : Int) ≤ t31_18 ∧ (t31_18 : Int) < ((ByteArray.size s_1 : Nat) : Int))) (Calls Tryd.prog 80 #[(Value.int .u8 (V.byteAt s_1 t31_18))] w20 fun e22 w23 =>
  ∃ b21, e22 = Ending.returned (Value.bool b21) ∧
  V.sel (!b21)
  (R (Ending.returned (Value.bool false)) w23)
  (I16 (IntKind.wrap .i64 (t31_18 + 1)) w23 ∧ μ17 (IntKind.wrap .i64 (t31_18 + 1)) w23 < μ17 t31_18 w20)))
  (R (Ending.returned (Value.bool true)) w20))))))))) :
  Calls Tryd.prog 64 #[(Value.string s_1)] w R :=
  V.calls_of_R ⟨V.assoc [(0, [31])], V.assocP [], V.assocC [], V.assocS [], ⟨[], true⟩⟩ Tryd.func64 rfl (Eq.mp (by kernel_rfl) h)

theorem labels_IsName_nf (s_1 : ByteArray) (w : World) (R : Ending → World → Prop) (h :
  V.sel (decide (((ByteArray.size s_1 : Nat) : Int) < 1))
  (R (Ending.returned (Value.bool false)) w)
  (V.sel (decide (((ByteArray.size s_1 : Nat) : Int) > 63))
  (R (Ending.returned (Value.bool false)) w)
  (Calls Tryd.prog 88 #[(Value.string s_1), (Value.string ⟨#[46]⟩)] w fun e3 w4 =>
  ∃ A2, ∃ A2l, ∃ A2c, e3 = Ending.returned (Value.slice A2 A2l A2c) ∧
  ∃ I5 : Int → World → Prop, ∃ μ6 : Int → World → Nat, I5 0 w4 ∧
  ∀ t17_7 (j8 : Nat → Value) (w9 : World), I5 t17_7 w9 →
  (V.sel (decide (t17_7 < ((A2l : Nat) : Int)))
  (V.when (decide ((0 : Int) ≤ t17_7 ∧ (t17_7 : Int) < ((A2l : Nat) : Int))) (V.ptr A2 fun a10 =>
  ∃ s11, World.cell? w9 (Addr.add a10 ((Int.toNat t17_7) * 1)) = some (Value.string s11) ∧
  V.sel (ByteArray.toList s11 == ByteArray.toList ByteArray.empty)
  (R (Ending.returned (Value.bool false)) w9)
  (V.when (decide ((0 : Int) ≤ 0 ∧ (0 : Int) < ((ByteArray.size s11 : Nat) : Int))) (Calls Tryd.prog 89 #[(Value.int .u8 (V.byteAt s11 0))] w9 fun e13 w14 =>
  ∃ b12, e13 = Ending.returned (Value.bool b12) ∧
  V.sel (!b12)
  (R (Ending.returned (Value.bool false)) w14)
  (V.when (decide ((0 : Int) ≤ (IntKind.wrap .i64 (((ByteArray.size s11 : Nat) : Int) - 1)) ∧ ((IntKind.wrap .i64 (((ByteArray.size s11 : Nat) : Int) - 1)) : Int) < ((ByteArray.size s11 : Nat) : Int))) (Calls Tryd.prog 89 #[(Value.int .u8 (V.byteAt s11 (IntKind.wrap .i64 (((ByteArray.size s11 : Nat) : Int) - 1))))] w14 fun e16 w17 =>
  ∃ b15, e16 = Ending.returned (Value.bool b15) ∧
  V.sel (!b15)
  (R (Ending.returned (Value.bool false)) w17)
  (∃ I18 : Int → World → Prop, ∃ μ19 : Int → World → Nat, I18 0 w17 ∧
  ∀ t40_20 (j21 : Nat → Value) (w22 : World), I18 t40_20 w22 →
  (V.sel (decide (t40_20 < ((ByteArray.size s11 : Nat) : Int)))
  (V.when (decide ((0 : Int) ≤ t40_20 ∧ (t40_20 : Int) < ((ByteArray.size s11 : Nat) : Int))) (Calls Tryd.prog 89 #[(Value.int .u8 (V.byteAt s11 t40_20))] w22 fun e24 w25 =>
  ∃ b23, e24 = Ending.returned (Value.bool b23) ∧
  V.sel (!b23)
  (V.when (decide ((0 : Int) ≤ t40_20 ∧ (t40_20 : Int) < ((ByteArray.size s11 : Nat) : Int))) (V.sel ((V.byteAt s11 t40_20) != 45)
  (R (Ending.returned (Value.bool false)) w25)
  (I18 (IntKind.wrap .i64 (t40_20 + 1)) w25 ∧ μ19 (IntKind.wrap .i64 (t40_20 + 1)) w25 < μ19 t40_20 w22)))
  (I18 (IntKind.wrap .i64 (t40_20 + 1)) w25 ∧ μ19 (IntKind.wrap .i64 (t40_20 + 1)) w25 < μ19 t40_20 w22)))
  (I5 (IntKind.wrap .i64 (t17_7 + 1)) w22 ∧ μ6 (IntKind.wrap .i64 (t17_7 + 1)) w22 < μ6 t17_7 w9)))))))))
  (R (Ending.returned (Value.bool true)) w9))))) :
  Calls Tryd.prog 77 #[(Value.string s_1)] w R :=
  V.calls_of_R ⟨V.assoc [(0, [17]), (1, [40])], V.assocP [], V.assocC [], V.assocS [], ⟨[], true⟩⟩ Tryd.func77 rfl (Eq.mp (by kernel_rfl) h)

theorem labels_isShort_nf (s_1 : ByteArray) (w : World) (R : Ending → World → Prop) (h :
  V.sel (decide (((ByteArray.size s_1 : Nat) : Int) < 1))
  (R (Ending.returned (Value.bool false)) w)
  (V.sel (decide (((ByteArray.size s_1 : Nat) : Int) > 63))
  (R (Ending.returned (Value.bool false)) w)
  (V.when (decide ((0 : Int) ≤ 0 ∧ (0 : Int) < ((ByteArray.size s_1 : Nat) : Int))) (Calls Tryd.prog 79 #[(Value.int .u8 (V.byteAt s_1 0))] w fun e3 w4 =>
  ∃ b2, e3 = Ending.returned (Value.bool b2) ∧
  V.sel (!b2)
  (R (Ending.returned (Value.bool false)) w4)
  (V.when (decide ((0 : Int) ≤ (IntKind.wrap .i64 (((ByteArray.size s_1 : Nat) : Int) - 1)) ∧ ((IntKind.wrap .i64 (((ByteArray.size s_1 : Nat) : Int) - 1)) : Int) < ((ByteArray.size s_1 : Nat) : Int))) (Calls Tryd.prog 79 #[(Value.int .u8 (V.byteAt s_1 (IntKind.wrap .i64 (((ByteArray.size s_1 : Nat) : Int) - 1))))] w4 fun e6 w7 =>
  ∃ b5, e6 = Ending.returned (Value.bool b5) ∧
  V.sel (!b5)
  (R (Ending.returned (Value.bool false)) w7)
  (∃ I8 : Int → World → Prop, ∃ μ9 : Int → World → Nat, I8 0 w7 ∧
  ∀ t29_10 (j11 : Nat → Value) (w12 : World), I8 t29_10 w12 →
  (V.sel (decide (t29_10 < ((ByteArray.size s_1 : Nat) : Int)))
  (V.when (decide ((0 : Int) ≤ t29_10 ∧ (t29_10 : Int) < ((ByteArray.size s_1 : Nat) : Int))) (Calls Tryd.prog 80 #[(Value.int .u8 (V.byteAt s_1 t29_10))] w12 fun e14 w15 =>
  ∃ b13, e14 = Ending.returned (Value.bool b13) ∧
  V.sel (!b13)
  (R (Ending.returned (Value.bool false)) w15)
  (I8 (IntKind.wrap .i64 (t29_10 + 1)) w15 ∧ μ9 (IntKind.wrap .i64 (t29_10 + 1)) w15 < μ9 t29_10 w12)))
  (R (Ending.returned (Value.bool true)) w12))))))))) :
  Calls Tryd.prog 78 #[(Value.string s_1)] w R :=
  V.calls_of_R ⟨V.assoc [(0, [29])], V.assocP [], V.assocC [], V.assocS [], ⟨[], true⟩⟩ Tryd.func78 rfl (Eq.mp (by kernel_rfl) h)

theorem labels_word_nf (c_1 : Int) (w : World) (R : Ending → World → Prop) (h :
  Calls Tryd.prog 89 #[(Value.int .u8 c_1)] w fun e3 w4 =>
  ∃ b2, e3 = Ending.returned (Value.bool b2) ∧
  V.sel b2
  (R (Ending.returned (Value.bool true)) w4)
  (V.sel (decide (c_1 ≥ 65))
  (R (Ending.returned (Value.bool (decide (c_1 ≤ 90)))) w4)
  (R (Ending.returned (Value.bool false)) w4))) :
  Calls Tryd.prog 79 #[(Value.int .u8 c_1)] w R :=
  V.calls_of_R ⟨V.assoc [], V.assocP [], V.assocC [], V.assocS [], ⟨[], true⟩⟩ Tryd.func79 rfl (Eq.mp (by kernel_rfl) h)

theorem labels_inner_nf (c_1 : Int) (w : World) (R : Ending → World → Prop) (h :
  Calls Tryd.prog 79 #[(Value.int .u8 c_1)] w fun e3 w4 =>
  ∃ b2, e3 = Ending.returned (Value.bool b2) ∧
  V.sel b2
  (R (Ending.returned (Value.bool true)) w4)
  (V.sel (c_1 == 45)
  (R (Ending.returned (Value.bool true)) w4)
  (V.sel (c_1 == 95)
  (R (Ending.returned (Value.bool true)) w4)
  (R (Ending.returned (Value.bool (c_1 == 46))) w4)))) :
  Calls Tryd.prog 80 #[(Value.int .u8 c_1)] w R :=
  V.calls_of_R ⟨V.assoc [], V.assocP [], V.assocC [], V.assocS [], ⟨[], true⟩⟩ Tryd.func80 rfl (Eq.mp (by kernel_rfl) h)

theorem labels_low_nf (c_1 : Int) (w : World) (R : Ending → World → Prop) (h :
  V.sel (decide (c_1 ≥ 97))
  (V.sel (decide (c_1 ≤ 122))
  (R (Ending.returned (Value.bool true)) w)
  (V.sel (decide (c_1 ≥ 48))
  (R (Ending.returned (Value.bool (decide (c_1 ≤ 57)))) w)
  (R (Ending.returned (Value.bool false)) w)))
  (V.sel (decide (c_1 ≥ 48))
  (R (Ending.returned (Value.bool (decide (c_1 ≤ 57)))) w)
  (R (Ending.returned (Value.bool false)) w))) :
  Calls Tryd.prog 89 #[(Value.int .u8 c_1)] w R :=
  V.calls_of_R ⟨V.assoc [], V.assocP [], V.assocC [], V.assocS [], ⟨[], true⟩⟩ Tryd.func89 rfl (Eq.mp (by kernel_rfl) h)

end Go.Proofs.YtpipenkaaodlgaaDoor
