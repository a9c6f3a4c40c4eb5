/- Normal forms of the program's functions, printed by a program of mine; the kernel checks each. -/
import Derived.Test.YtjeiaakmmaaclaaDoorProg
import Derived.Test.YtjeiaakmmaaclaaDoorV2
set_option linter.unusedVariables false
set_option maxRecDepth 100000
namespace Go.Proofs.YtjeiaakmmaaclaaDoor
open Go

theorem berthlaw03_LabelsNumbers_nf (n_1 : Int) (s_2 : ByteArray) (w : World) (R : Ending → World → Prop) (h :
  Calls Tryd.prog 4 #[(Value.int .i64 (-5))] w fun e5 w6 =>
  ∃ s3, ∃ b4, e5 = Ending.returned (Value.tuple #[(Value.string s3), (Value.bool b4)]) ∧
  V.sel (!(ByteArray.toList s3 == ByteArray.toList ⟨#[45, 53]⟩))
  (R (Ending.returned (Value.bool false)) w6)
  (V.sel (!b4)
  (R (Ending.returned (Value.bool false)) w6)
  (Calls Tryd.prog 4 #[(Value.int .i64 n_1)] w6 fun e9 w10 =>
  ∃ s7, ∃ b8, e9 = Ending.returned (Value.tuple #[(Value.string s7), (Value.bool b8)]) ∧
  V.sel (decide (n_1 > (-1000000000000000)))
  (V.sel (!(b8 == (decide (n_1 < 1000000000000000))))
  (R (Ending.returned (Value.bool false)) w10)
  (V.sel b8
  (Calls Tryd.prog 5 #[(Value.string s7)] w10 fun e13 w14 =>
  ∃ n11, ∃ b12, e13 = Ending.returned (Value.tuple #[(Value.int .i64 n11), (Value.bool b12)]) ∧
  V.sel (!b12)
  (R (Ending.returned (Value.bool false)) w14)
  (V.sel (n11 != n_1)
  (R (Ending.returned (Value.bool false)) w14)
  (Calls Tryd.prog 6 #[(Value.string s7)] w14 fun e16 w17 =>
  ∃ b15, e16 = Ending.returned (Value.bool b15) ∧
  V.sel (!b15)
  (R (Ending.returned (Value.bool false)) w17)
  (Calls Tryd.prog 5 #[(Value.string s_2)] w17 fun e20 w21 =>
  ∃ n18, ∃ b19, e20 = Ending.returned (Value.tuple #[(Value.int .i64 n18), (Value.bool b19)]) ∧
  V.sel (!b19)
  (R (Ending.returned (Value.bool (n18 == 0))) w21)
  (Calls Tryd.prog 4 #[(Value.int .i64 n18)] w21 fun e24 w25 =>
  ∃ s22, ∃ b23, e24 = Ending.returned (Value.tuple #[(Value.string s22), (Value.bool b23)]) ∧
  V.sel b23
  (V.sel (ByteArray.toList s22 == ByteArray.toList s_2)
  (Calls Tryd.prog 6 #[(Value.string s_2)] w25 fun e27 w28 =>
  ∃ b26, e27 = Ending.returned (Value.bool b26) ∧
  R (Ending.returned (Value.bool b26)) w28)
  (R (Ending.returned (Value.bool false)) w25))
  (R (Ending.returned (Value.bool false)) w25))))))
  (V.sel (!(ByteArray.toList s7 == ByteArray.toList ByteArray.empty))
  (R (Ending.returned (Value.bool false)) w10)
  (Calls Tryd.prog 5 #[(Value.string s_2)] w10 fun e31 w32 =>
  ∃ n29, ∃ b30, e31 = Ending.returned (Value.tuple #[(Value.int .i64 n29), (Value.bool b30)]) ∧
  V.sel (!b30)
  (R (Ending.returned (Value.bool (n29 == 0))) w32)
  (Calls Tryd.prog 4 #[(Value.int .i64 n29)] w32 fun e35 w36 =>
  ∃ s33, ∃ b34, e35 = Ending.returned (Value.tuple #[(Value.string s33), (Value.bool b34)]) ∧
  V.sel b34
  (V.sel (ByteArray.toList s33 == ByteArray.toList s_2)
  (Calls Tryd.prog 6 #[(Value.string s_2)] w36 fun e38 w39 =>
  ∃ b37, e38 = Ending.returned (Value.bool b37) ∧
  R (Ending.returned (Value.bool b37)) w39)
  (R (Ending.returned (Value.bool false)) w36))
  (R (Ending.returned (Value.bool false)) w36))))))
  (V.sel (!(b8 == false))
  (R (Ending.returned (Value.bool false)) w10)
  (V.sel b8
  (Calls Tryd.prog 5 #[(Value.string s7)] w10 fun e42 w43 =>
  ∃ n40, ∃ b41, e42 = Ending.returned (Value.tuple #[(Value.int .i64 n40), (Value.bool b41)]) ∧
  V.sel (!b41)
  (R (Ending.returned (Value.bool false)) w43)
  (V.sel (n40 != n_1)
  (R (Ending.returned (Value.bool false)) w43)
  (Calls Tryd.prog 6 #[(Value.string s7)] w43 fun e45 w46 =>
  ∃ b44, e45 = Ending.returned (Value.bool b44) ∧
  V.sel (!b44)
  (R (Ending.returned (Value.bool false)) w46)
  (Calls Tryd.prog 5 #[(Value.string s_2)] w46 fun e49 w50 =>
  ∃ n47, ∃ b48, e49 = Ending.returned (Value.tuple #[(Value.int .i64 n47), (Value.bool b48)]) ∧
  V.sel (!b48)
  (R (Ending.returned (Value.bool (n47 == 0))) w50)
  (Calls Tryd.prog 4 #[(Value.int .i64 n47)] w50 fun e53 w54 =>
  ∃ s51, ∃ b52, e53 = Ending.returned (Value.tuple #[(Value.string s51), (Value.bool b52)]) ∧
  V.sel b52
  (V.sel (ByteArray.toList s51 == ByteArray.toList s_2)
  (Calls Tryd.prog 6 #[(Value.string s_2)] w54 fun e56 w57 =>
  ∃ b55, e56 = Ending.returned (Value.bool b55) ∧
  R (Ending.returned (Value.bool b55)) w57)
  (R (Ending.returned (Value.bool false)) w54))
  (R (Ending.returned (Value.bool false)) w54))))))
  (V.sel (!(ByteArray.toList s7 == ByteArray.toList ByteArray.empty))
  (R (Ending.returned (Value.bool false)) w10)
  (Calls Tryd.prog 5 #[(Value.string s_2)] w10 fun e60 w61 =>
  ∃ n58, ∃ b59, e60 = Ending.returned (Value.tuple #[(Value.int .i64 n58), (Value.bool b59)]) ∧
  V.sel (!b59)
  (R (Ending.returned (Value.bool (n58 == 0))) w61)
  (Calls Tryd.prog 4 #[(Value.int .i64 n58)] w61 fun e64 w65 =>
  ∃ s62, ∃ b63, e64 = Ending.returned (Value.tuple #[(Value.string s62), (Value.bool b63)]) ∧
  V.sel b63
  (V.sel (ByteArray.toList s62 == ByteArray.toList s_2)
  (Calls Tryd.prog 6 #[(Value.string s_2)] w65 fun e67 w68 =>
  ∃ b66, e67 = Ending.returned (Value.bool b66) ∧
  R (Ending.returned (Value.bool b66)) w68)
  (R (Ending.returned (Value.bool false)) w65))
  (R (Ending.returned (Value.bool false)) w65))))))))) :
  Calls Tryd.prog 3 #[(Value.int .i64 n_1), (Value.string s_2)] w R :=
  V.calls_of_R ⟨V.assoc [], V.assocP [], V.assocC [], V.assocS [], ⟨[], true⟩⟩ Tryd.func3 rfl (Eq.mp (by kernel_rfl) h)

theorem labels_IntText_nf (n_1 : Int) (w : World) (R : Ending → World → Prop) (h :
  V.sel (decide (n_1 < (-999999999999999)))
  (R (Ending.returned (Value.tuple #[(Value.string ByteArray.empty), (Value.bool false)])) w)
  (V.sel (decide (n_1 > 999999999999999))
  (R (Ending.returned (Value.tuple #[(Value.string ByteArray.empty), (Value.bool false)])) w)
  (Calls Tryd.prog 7 #[(Value.int .i64 n_1)] w fun e3 w4 =>
  ∃ s2, e3 = Ending.returned (Value.string s2) ∧
  R (Ending.returned (Value.tuple #[(Value.string s2), (Value.bool true)])) w4))) :
  Calls Tryd.prog 4 #[(Value.int .i64 n_1)] w R :=
  V.calls_of_R ⟨V.assoc [], V.assocP [], V.assocC [], V.assocS [], ⟨[], true⟩⟩ Tryd.func4 rfl (Eq.mp (by kernel_rfl) h)

theorem labels_Int_nf (value_1 : ByteArray) (w : World) (R : Ending → World → Prop) (h :
  Calls Tryd.prog 8 #[(Value.string value_1), (Value.string ⟨#[45]⟩)] w fun e3 w4 =>
  ∃ s2, e3 = Ending.returned (Value.string s2) ∧
  V.sel (decide (((ByteArray.size s2 : Nat) : Int) < 1))
  (R (Ending.returned (Value.tuple #[(Value.int .i64 0), (Value.bool false)])) w4)
  (V.sel (decide (((ByteArray.size s2 : Nat) : Int) > 15))
  (R (Ending.returned (Value.tuple #[(Value.int .i64 0), (Value.bool false)])) w4)
  (∃ I5 : Int → Int → World → Prop, ∃ μ6 : Int → Int → World → Nat, I5 0 0 w4 ∧
  ∀ n_7 t19_8 (j9 : Nat → Value) (w10 : World), I5 n_7 t19_8 w10 →
  (V.sel (decide (t19_8 < ((ByteArray.size s2 : Nat) : Int)))
  (V.when (decide ((0 : Int) ≤ t19_8 ∧ (t19_8 : Int) < ((ByteArray.size s2 : Nat) : Int))) (V.sel (decide ((V.byteAt s2 t19_8) < 48))
  (R (Ending.returned (Value.tuple #[(Value.int .i64 0), (Value.bool false)])) w10)
  (V.when (decide ((0 : Int) ≤ t19_8 ∧ (t19_8 : Int) < ((ByteArray.size s2 : Nat) : Int))) (V.sel (decide ((V.byteAt s2 t19_8) > 57))
  (R (Ending.returned (Value.tuple #[(Value.int .i64 0), (Value.bool false)])) w10)
  (V.when (decide ((0 : Int) ≤ t19_8 ∧ (t19_8 : Int) < ((ByteArray.size s2 : Nat) : Int))) (V.lt (IntKind.wrap .i64 ((IntKind.wrap .i64 (10 * n_7)) + (IntKind.wrap .i64 ((IntKind.wrap .u8 ((V.byteAt s2 t19_8) - 48)))))) fun x11 =>
  I5 x11 (IntKind.wrap .i64 (t19_8 + 1)) w10 ∧ μ6 x11 (IntKind.wrap .i64 (t19_8 + 1)) w10 < μ6 n_7 t19_8 w10))))))
  (V.when (decide ((0 : Int) ≤ 0 ∧ (0 : Int) < ((ByteArray.size s2 : Nat) : Int))) (V.sel ((V.byteAt s2 0) == 48)
  (V.sel (!(ByteArray.toList value_1 == ByteArray.toList ⟨#[48]⟩))
  (R (Ending.returned (Value.tuple #[(Value.int .i64 0), (Value.bool false)])) w10)
  (V.sel (decide (((ByteArray.size s2 : Nat) : Int) < ((ByteArray.size value_1 : Nat) : Int)))
  (R (Ending.returned (Value.tuple #[(Value.int .i64 (IntKind.wrap .i64 (0 - n_7))), (Value.bool true)])) w10)
  (R (Ending.returned (Value.tuple #[(Value.int .i64 n_7), (Value.bool true)])) w10)))
  (V.sel (decide (((ByteArray.size s2 : Nat) : Int) < ((ByteArray.size value_1 : Nat) : Int)))
  (R (Ending.returned (Value.tuple #[(Value.int .i64 (IntKind.wrap .i64 (0 - n_7))), (Value.bool true)])) w10)
  (R (Ending.returned (Value.tuple #[(Value.int .i64 n_7), (Value.bool true)])) w10)))))))) :
  Calls Tryd.prog 5 #[(Value.string value_1)] w R :=
  V.calls_of_R ⟨V.assoc [(0, [5, 19])], V.assocP [], V.assocC [], V.assocS [], ⟨[], true⟩⟩ Tryd.func5 rfl (Eq.mp (by kernel_rfl) h)

theorem labels_IsValue_nf (s_1 : ByteArray) (w : World) (R : Ending → World → Prop) (h :
  V.sel (ByteArray.toList s_1 == ByteArray.toList ByteArray.empty)
  (R (Ending.returned (Value.bool true)) w)
  (V.sel (decide (((ByteArray.size s_1 : Nat) : Int) > 63))
  (R (Ending.returned (Value.bool false)) w)
  (V.when (decide ((0 : Int) ≤ (IntKind.wrap .i64 (((ByteArray.size s_1 : Nat) : Int) - 1)) ∧ ((IntKind.wrap .i64 (((ByteArray.size s_1 : Nat) : Int) - 1)) : Int) < ((ByteArray.size s_1 : Nat) : Int))) (Calls Tryd.prog 9 #[(Value.int .u8 (V.byteAt s_1 (IntKind.wrap .i64 (((ByteArray.size s_1 : Nat) : Int) - 1))))] w fun e3 w4 =>
  ∃ b2, e3 = Ending.returned (Value.bool b2) ∧
  V.sel (!b2)
  (R (Ending.returned (Value.bool false)) w4)
  (V.when (decide ((0 : Int) ≤ 0 ∧ (0 : Int) < ((ByteArray.size s_1 : Nat) : Int))) (Calls Tryd.prog 9 #[(Value.int .u8 (V.byteAt s_1 0))] w4 fun e6 w7 =>
  ∃ b5, e6 = Ending.returned (Value.bool b5) ∧
  V.sel (!b5)
  (V.when (decide ((0 : Int) ≤ 0 ∧ (0 : Int) < ((ByteArray.size s_1 : Nat) : Int))) (V.sel ((V.byteAt s_1 0) != 45)
  (R (Ending.returned (Value.bool false)) w7)
  (∃ I8 : Int → World → Prop, ∃ μ9 : Int → World → Nat, I8 0 w7 ∧
  ∀ t31_10 (j11 : Nat → Value) (w12 : World), I8 t31_10 w12 →
  (V.sel (decide (t31_10 < ((ByteArray.size s_1 : Nat) : Int)))
  (V.when (decide ((0 : Int) ≤ t31_10 ∧ (t31_10 : Int) < ((ByteArray.size s_1 : Nat) : Int))) (Calls Tryd.prog 10 #[(Value.int .u8 (V.byteAt s_1 t31_10))] w12 fun e14 w15 =>
  ∃ b13, e14 = Ending.returned (Value.bool b13) ∧
  V.sel (!b13)
  (R (Ending.returned (Value.bool false)) w15)
  (I8 (IntKind.wrap .i64 (t31_10 + 1)) w15 ∧ μ9 (IntKind.wrap .i64 (t31_10 + 1)) w15 < μ9 t31_10 w12)))
  (R (Ending.returned (Value.bool true)) w12)))))
  (∃ I16 : Int → World → Prop, ∃ μ17 : Int → World → Nat, I16 0 w7 ∧
  ∀ t31_18 (j19 : Nat → Value) (w20 : World), I16 t31_18 w20 →
  (V.sel (decide (t31_18 < ((ByteArray.size s_1 : Nat) : Int)))
  (V.when (decide ((0 : Int) ≤ t31_18 ∧ (t31_18 : Int) < ((ByteArray.size s_1 : Nat) : Int))) (Calls Tryd.prog 10 #[(Value.int .u8 (V.byteAt s_1 t31_18))] w20 fun e22 w23 =>
  ∃ b21, e22 = Ending.returned (Value.bool b21) ∧
  V.sel (!b21)
  (R (Ending.returned (Value.bool false)) w23)
  (I16 (IntKind.wrap .i64 (t31_18 + 1)) w23 ∧ μ17 (IntKind.wrap .i64 (t31_18 + 1)) w23 < μ17 t31_18 w20)))
  (R (Ending.returned (Value.bool true)) w20))))))))) :
  Calls Tryd.prog 6 #[(Value.string s_1)] w R :=
  V.calls_of_R ⟨V.assoc [(0, [31])], V.assocP [], V.assocC [], V.assocS [], ⟨[], true⟩⟩ Tryd.func6 rfl (Eq.mp (by kernel_rfl) h)

theorem strings_TrimPrefix_nf (s_1 : ByteArray) (prefix_2 : ByteArray) (w : World) (R : Ending → World → Prop) (h :
  Calls Tryd.prog 12 #[(Value.string s_1), (Value.string prefix_2)] w fun e4 w5 =>
  ∃ s3, e4 = Ending.returned (Value.string s3) ∧
  R (Ending.returned (Value.string s3)) w5) :
  Calls Tryd.prog 8 #[(Value.string s_1), (Value.string prefix_2)] w R :=
  V.calls_of_R ⟨V.assoc [], V.assocP [], V.assocC [], V.assocS [], ⟨[], true⟩⟩ Tryd.func8 rfl (Eq.mp (by kernel_rfl) h)

theorem labels_word_nf (c_1 : Int) (w : World) (R : Ending → World → Prop) (h :
  Calls Tryd.prog 13 #[(Value.int .u8 c_1)] w fun e3 w4 =>
  ∃ b2, e3 = Ending.returned (Value.bool b2) ∧
  V.sel b2
  (R (Ending.returned (Value.bool true)) w4)
  (V.sel (decide (c_1 ≥ 65))
  (R (Ending.returned (Value.bool (decide (c_1 ≤ 90)))) w4)
  (R (Ending.returned (Value.bool false)) w4))) :
  Calls Tryd.prog 9 #[(Value.int .u8 c_1)] w R :=
  V.calls_of_R ⟨V.assoc [], V.assocP [], V.assocC [], V.assocS [], ⟨[], true⟩⟩ Tryd.func9 rfl (Eq.mp (by kernel_rfl) h)

theorem labels_inner_nf (c_1 : Int) (w : World) (R : Ending → World → Prop) (h :
  Calls Tryd.prog 9 #[(Value.int .u8 c_1)] w fun e3 w4 =>
  ∃ b2, e3 = Ending.returned (Value.bool b2) ∧
  V.sel b2
  (R (Ending.returned (Value.bool true)) w4)
  (V.sel (c_1 == 45)
  (R (Ending.returned (Value.bool true)) w4)
  (V.sel (c_1 == 95)
  (R (Ending.returned (Value.bool true)) w4)
  (R (Ending.returned (Value.bool (c_1 == 46))) w4)))) :
  Calls Tryd.prog 10 #[(Value.int .u8 c_1)] w R :=
  V.calls_of_R ⟨V.assoc [], V.assocP [], V.assocC [], V.assocS [], ⟨[], true⟩⟩ Tryd.func10 rfl (Eq.mp (by kernel_rfl) h)

theorem internal_stringslite_TrimPrefix_nf (s_1 : ByteArray) (prefix_2 : ByteArray) (w : World) (R : Ending → World → Prop) (h :
  Calls Tryd.prog 15 #[(Value.string s_1), (Value.string prefix_2)] w fun e4 w5 =>
  ∃ b3, e4 = Ending.returned (Value.bool b3) ∧
  V.sel b3
  (V.when (decide ((0 : Int) ≤ ((ByteArray.size prefix_2 : Nat) : Int) ∧ (((ByteArray.size prefix_2 : Nat) : Int) : Int) ≤ (((ByteArray.size s_1) : Nat) : Int))) (R (Ending.returned (Value.string (ByteArray.extract s_1 (ByteArray.size prefix_2 : Nat) (ByteArray.size s_1)))) w5))
  (R (Ending.returned (Value.string s_1)) w5)) :
  Calls Tryd.prog 12 #[(Value.string s_1), (Value.string prefix_2)] w R :=
  V.calls_of_R ⟨V.assoc [], V.assocP [], V.assocC [], V.assocS [], ⟨[], true⟩⟩ Tryd.func12 rfl (Eq.mp (by kernel_rfl) h)

theorem labels_low_nf (c_1 : Int) (w : World) (R : Ending → World → Prop) (h :
  V.sel (decide (c_1 ≥ 97))
  (V.sel (decide (c_1 ≤ 122))
  (R (Ending.returned (Value.bool true)) w)
  (V.sel (decide (c_1 ≥ 48))
  (R (Ending.returned (Value.bool (decide (c_1 ≤ 57)))) w)
  (R (Ending.returned (Value.bool false)) w)))
  (V.sel (decide (c_1 ≥ 48))
  (R (Ending.returned (Value.bool (decide (c_1 ≤ 57)))) w)
  (R (Ending.returned (Value.bool false)) w))) :
  Calls Tryd.prog 13 #[(Value.int .u8 c_1)] w R :=
  V.calls_of_R ⟨V.assoc [], V.assocP [], V.assocC [], V.assocS [], ⟨[], true⟩⟩ Tryd.func13 rfl (Eq.mp (by kernel_rfl) h)

theorem internal_stringslite_HasPrefix_nf (s_1 : ByteArray) (prefix_2 : ByteArray) (w : World) (R : Ending → World → Prop) (h :
  V.sel (decide (((ByteArray.size s_1 : Nat) : Int) ≥ ((ByteArray.size prefix_2 : Nat) : Int)))
  (V.when (decide ((0 : Int) ≤ ((ByteArray.size prefix_2 : Nat) : Int) ∧ (((ByteArray.size prefix_2 : Nat) : Int) : Int) ≤ (((ByteArray.size s_1) : Nat) : Int))) (R (Ending.returned (Value.bool (ByteArray.toList (ByteArray.extract s_1 0 (ByteArray.size prefix_2 : Nat)) == ByteArray.toList prefix_2))) w))
  (R (Ending.returned (Value.bool false)) w)) :
  Calls Tryd.prog 15 #[(Value.string s_1), (Value.string prefix_2)] w R :=
  V.calls_of_R ⟨V.assoc [], V.assocP [], V.assocC [], V.assocS [], ⟨[], true⟩⟩ Tryd.func15 rfl (Eq.mp (by kernel_rfl) h)

end Go.Proofs.YtjeiaakmmaaclaaDoor
