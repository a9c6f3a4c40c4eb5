/- Normal forms of the program's functions, printed by a program of mine; the kernel checks each. -/
import Derived.Test.YtcohengppaighaaGreatDoorProg
import Derived.Test.YtcohengppaighaaGreatDoorV2
set_option linter.unusedVariables false
set_option maxRecDepth 100000
namespace Go.Proofs.YtcohengppaighaaGreatDoor
open Go

theorem berthref03_Get_nf (list_1 : Option Addr) (list_1l : Nat) (list_1c : Nat) (key_2 : ByteArray) (w : World) (R : Ending → World → Prop) (h :
  Calls Tryz.prog 56 #[(Value.slice list_1 list_1l list_1c), (Value.string key_2)] w fun e4 w5 =>
  ∃ n3, e4 = Ending.returned (Value.int .i64 n3) ∧
  V.sel (decide (n3 < 0))
  (R (Ending.returned (Value.tuple #[(Value.string ByteArray.empty), (Value.bool false)])) w5)
  (V.when (decide ((0 : Int) ≤ n3 ∧ (n3 : Int) < ((list_1l : Nat) : Int))) (V.ptr list_1 fun a6 =>
  ∃ s7, World.cell? w5 (Addr.add (Addr.add a6 ((Int.toNat n3) * 2)) 1) = some (Value.string s7) ∧
  R (Ending.returned (Value.tuple #[(Value.string s7), (Value.bool true)])) w5))) :
  Calls Tryz.prog 62 #[(Value.slice list_1 list_1l list_1c), (Value.string key_2)] w R :=
  V.calls_of_R ⟨V.assoc [], V.assocP [], V.assocC [], V.assocS [], ⟨[], true⟩⟩ Tryz.func62 rfl (Eq.mp (by kernel_rfl) h)

theorem berthref03_IsName_nf (s_1 : ByteArray) (w : World) (R : Ending → World → Prop) (h :
  V.sel (decide (((ByteArray.size s_1 : Nat) : Int) > 63))
  (R (Ending.returned (Value.bool false)) w)
  (Calls Tryz.prog 58 #[(Value.string s_1), (Value.int .u8 46)] w fun e3 w4 =>
  ∃ A2, ∃ A2l, ∃ A2c, e3 = Ending.returned (Value.slice A2 A2l A2c) ∧
  ∃ I5 : Int → World → Prop, ∃ μ6 : Int → World → Nat, I5 0 w4 ∧
  ∀ i_7 (j8 : Nat → Value) (w9 : World), I5 i_7 w9 →
  (V.sel (decide (i_7 < ((A2l : Nat) : Int)))
  (V.when (decide ((0 : Int) ≤ i_7 ∧ (i_7 : Int) < ((A2l : Nat) : Int))) (V.ptr A2 fun a10 =>
  ∃ s11, World.cell? w9 (Addr.add a10 ((Int.toNat i_7) * 1)) = some (Value.string s11) ∧
  Calls Tryz.prog 91 #[(Value.string s11)] w9 fun e13 w14 =>
  ∃ b12, e13 = Ending.returned (Value.bool b12) ∧
  V.sel (!b12)
  (R (Ending.returned (Value.bool false)) w14)
  (I5 (IntKind.wrap .i64 (i_7 + 1)) w14 ∧ μ6 (IntKind.wrap .i64 (i_7 + 1)) w14 < μ6 i_7 w9)))
  (R (Ending.returned (Value.bool true)) w9)))) :
  Calls Tryz.prog 64 #[(Value.string s_1)] w R :=
  V.calls_of_R ⟨V.assoc [(0, [4])], V.assocP [], V.assocC [], V.assocS [], ⟨[], true⟩⟩ Tryz.func64 rfl (Eq.mp (by kernel_rfl) h)

theorem labels_Int_nf (value_1 : ByteArray) (w : World) (R : Ending → World → Prop) (h :
  Calls Tryz.prog 92 #[(Value.string value_1), (Value.string ⟨#[45]⟩)] w fun e3 w4 =>
  ∃ s2, e3 = Ending.returned (Value.string s2) ∧
  V.sel (decide (((ByteArray.size s2 : Nat) : Int) < 1))
  (R (Ending.returned (Value.tuple #[(Value.int .i64 0), (Value.bool false)])) w4)
  (V.sel (decide (((ByteArray.size s2 : Nat) : Int) > 15))
  (R (Ending.returned (Value.tuple #[(Value.int .i64 0), (Value.bool false)])) w4)
  (∃ I5 : Int → Int → World → Prop, ∃ μ6 : Int → Int → World → Nat, I5 0 0 w4 ∧
  ∀ n_7 t19_8 (j9 : Nat → Value) (w10 : World), I5 n_7 t19_8 w10 →
  (V.sel (decide (t19_8 < ((ByteArray.size s2 : Nat) : Int)))
  (V.when (decide ((0 : Int) ≤ t19_8 ∧ (t19_8 : Int) < ((ByteArray.size s2 : Nat) : Int))) (V.sel (decide ((V.byteAt s2 t19_8) < 48))
  (R (Ending.returned (Value.tuple #[(Value.int .i64 0), (Value.bool false)])) w10)
  (V.when (decide ((0 : Int) ≤ t19_8 ∧ (t19_8 : Int) < ((ByteArray.size s2 : Nat) : Int))) (V.sel (decide ((V.byteAt s2 t19_8) > 57))
  (R (Ending.returned (Value.tuple #[(Value.int .i64 0), (Value.bool false)])) w10)
  (V.when (decide ((0 : Int) ≤ t19_8 ∧ (t19_8 : Int) < ((ByteArray.size s2 : Nat) : Int))) (V.lt (IntKind.wrap .i64 ((IntKind.wrap .i64 (10 * n_7)) + (IntKind.wrap .i64 ((IntKind.wrap .u8 ((V.byteAt s2 t19_8) - 48)))))) fun x11 =>
  I5 x11 (IntKind.wrap .i64 (t19_8 + 1)) w10 ∧ μ6 x11 (IntKind.wrap .i64 (t19_8 + 1)) w10 < μ6 n_7 t19_8 w10))))))
  (V.when (decide ((0 : Int) ≤ 0 ∧ (0 : Int) < ((ByteArray.size s2 : Nat) : Int))) (V.sel ((V.byteAt s2 0) == 48)
  (V.sel (!(ByteArray.toList value_1 == ByteArray.toList ⟨#[48]⟩))
  (R (Ending.returned (Value.tuple #[(Value.int .i64 0), (Value.bool false)])) w10)
  (V.sel (decide (((ByteArray.size s2 : Nat) : Int) < ((ByteArray.size value_1 : Nat) : Int)))
  (R (Ending.returned (Value.tuple #[(Value.int .i64 (IntKind.wrap .i64 (0 - n_7))), (Value.bool true)])) w10)
  (R (Ending.returned (Value.tuple #[(Value.int .i64 n_7), (Value.bool true)])) w10)))
  (V.sel (decide (((ByteArray.size s2 : Nat) : Int) < ((ByteArray.size value_1 : Nat) : Int)))
  (R (Ending.returned (Value.tuple #[(Value.int .i64 (IntKind.wrap .i64 (0 - n_7))), (Value.bool true)])) w10)
  (R (Ending.returned (Value.tuple #[(Value.int .i64 n_7), (Value.bool true)])) w10)))))))) :
  Calls Tryz.prog 65 #[(Value.string value_1)] w R :=
  V.calls_of_R ⟨V.assoc [(0, [5, 19])], V.assocP [], V.assocC [], V.assocS [], ⟨[], true⟩⟩ Tryz.func65 rfl (Eq.mp (by kernel_rfl) h)

theorem berthref03_Int_nf (value_1 : ByteArray) (w : World) (R : Ending → World → Prop) (h :
  V.sel (decide (((ByteArray.size value_1 : Nat) : Int) > 1))
  (V.when (decide ((0 : Int) ≤ 0 ∧ (0 : Int) < ((ByteArray.size value_1 : Nat) : Int))) (V.sel ((V.byteAt value_1 0) == 45)
  (V.when (decide ((0 : Int) ≤ 1 ∧ (1 : Int) ≤ (((ByteArray.size value_1) : Nat) : Int))) (V.sel (decide (((ByteArray.size (ByteArray.extract value_1 1 (ByteArray.size value_1)) : Nat) : Int) < 1))
  (R (Ending.returned (Value.tuple #[(Value.int .i64 0), (Value.bool false)])) w)
  (V.sel (decide (((ByteArray.size (ByteArray.extract value_1 1 (ByteArray.size value_1)) : Nat) : Int) > 15))
  (R (Ending.returned (Value.tuple #[(Value.int .i64 0), (Value.bool false)])) w)
  (∃ I2 : Int → Int → World → Prop, ∃ μ3 : Int → Int → World → Nat, I2 0 0 w ∧
  ∀ n_4 i_5 (j6 : Nat → Value) (w7 : World), I2 n_4 i_5 w7 →
  (V.sel (decide (i_5 < ((ByteArray.size (ByteArray.extract value_1 1 (ByteArray.size value_1)) : Nat) : Int)))
  (V.when (decide ((0 : Int) ≤ i_5 ∧ (i_5 : Int) < ((ByteArray.size (ByteArray.extract value_1 1 (ByteArray.size value_1)) : Nat) : Int))) (V.sel (decide ((V.byteAt (ByteArray.extract value_1 1 (ByteArray.size value_1)) i_5) < 48))
  (R (Ending.returned (Value.tuple #[(Value.int .i64 0), (Value.bool false)])) w7)
  (V.when (decide ((0 : Int) ≤ i_5 ∧ (i_5 : Int) < ((ByteArray.size (ByteArray.extract value_1 1 (ByteArray.size value_1)) : Nat) : Int))) (V.sel (decide ((V.byteAt (ByteArray.extract value_1 1 (ByteArray.size value_1)) i_5) > 57))
  (R (Ending.returned (Value.tuple #[(Value.int .i64 0), (Value.bool false)])) w7)
  (V.when (decide ((0 : Int) ≤ i_5 ∧ (i_5 : Int) < ((ByteArray.size (ByteArray.extract value_1 1 (ByteArray.size value_1)) : Nat) : Int))) (V.lt (IntKind.wrap .i64 ((IntKind.wrap .i64 (10 * n_4)) + (IntKind.wrap .i64 ((IntKind.wrap .u8 ((V.byteAt (ByteArray.extract value_1 1 (ByteArray.size value_1)) i_5) - 48)))))) fun x8 =>
  I2 x8 (IntKind.wrap .i64 (i_5 + 1)) w7 ∧ μ3 x8 (IntKind.wrap .i64 (i_5 + 1)) w7 < μ3 n_4 i_5 w7))))))
  (V.when (decide ((0 : Int) ≤ 0 ∧ (0 : Int) < ((ByteArray.size (ByteArray.extract value_1 1 (ByteArray.size value_1)) : Nat) : Int))) (V.sel ((V.byteAt (ByteArray.extract value_1 1 (ByteArray.size value_1)) 0) == 48)
  (V.sel (decide (((ByteArray.size (ByteArray.extract value_1 1 (ByteArray.size value_1)) : Nat) : Int) > 1))
  (R (Ending.returned (Value.tuple #[(Value.int .i64 0), (Value.bool false)])) w7)
  (V.sel ((V.byteAt value_1 0) == 45)
  (R (Ending.returned (Value.tuple #[(Value.int .i64 0), (Value.bool false)])) w7)
  (V.sel ((V.byteAt value_1 0) == 45)
  (R (Ending.returned (Value.tuple #[(Value.int .i64 (IntKind.wrap .i64 (0 - n_4))), (Value.bool true)])) w7)
  (R (Ending.returned (Value.tuple #[(Value.int .i64 n_4), (Value.bool true)])) w7))))
  (V.sel ((V.byteAt value_1 0) == 45)
  (R (Ending.returned (Value.tuple #[(Value.int .i64 (IntKind.wrap .i64 (0 - n_4))), (Value.bool true)])) w7)
  (R (Ending.returned (Value.tuple #[(Value.int .i64 n_4), (Value.bool true)])) w7)))))))))
  (V.sel (decide (((ByteArray.size value_1 : Nat) : Int) < 1))
  (R (Ending.returned (Value.tuple #[(Value.int .i64 0), (Value.bool false)])) w)
  (V.sel (decide (((ByteArray.size value_1 : Nat) : Int) > 15))
  (R (Ending.returned (Value.tuple #[(Value.int .i64 0), (Value.bool false)])) w)
  (∃ I9 : Int → Int → World → Prop, ∃ μ10 : Int → Int → World → Nat, I9 0 0 w ∧
  ∀ n_11 i_12 (j13 : Nat → Value) (w14 : World), I9 n_11 i_12 w14 →
  (V.sel (decide (i_12 < ((ByteArray.size value_1 : Nat) : Int)))
  (V.when (decide ((0 : Int) ≤ i_12 ∧ (i_12 : Int) < ((ByteArray.size value_1 : Nat) : Int))) (V.sel (decide ((V.byteAt value_1 i_12) < 48))
  (R (Ending.returned (Value.tuple #[(Value.int .i64 0), (Value.bool false)])) w14)
  (V.when (decide ((0 : Int) ≤ i_12 ∧ (i_12 : Int) < ((ByteArray.size value_1 : Nat) : Int))) (V.sel (decide ((V.byteAt value_1 i_12) > 57))
  (R (Ending.returned (Value.tuple #[(Value.int .i64 0), (Value.bool false)])) w14)
  (V.when (decide ((0 : Int) ≤ i_12 ∧ (i_12 : Int) < ((ByteArray.size value_1 : Nat) : Int))) (V.lt (IntKind.wrap .i64 ((IntKind.wrap .i64 (10 * n_11)) + (IntKind.wrap .i64 ((IntKind.wrap .u8 ((V.byteAt value_1 i_12) - 48)))))) fun x15 =>
  I9 x15 (IntKind.wrap .i64 (i_12 + 1)) w14 ∧ μ10 x15 (IntKind.wrap .i64 (i_12 + 1)) w14 < μ10 n_11 i_12 w14))))))
  (V.when (decide ((0 : Int) ≤ 0 ∧ (0 : Int) < ((ByteArray.size value_1 : Nat) : Int))) (V.sel ((V.byteAt value_1 0) == 48)
  (V.sel (decide (((ByteArray.size value_1 : Nat) : Int) > 1))
  (R (Ending.returned (Value.tuple #[(Value.int .i64 0), (Value.bool false)])) w14)
  (V.sel ((V.byteAt value_1 0) == 45)
  (R (Ending.returned (Value.tuple #[(Value.int .i64 0), (Value.bool false)])) w14)
  (V.sel ((V.byteAt value_1 0) == 45)
  (R (Ending.returned (Value.tuple #[(Value.int .i64 (IntKind.wrap .i64 (0 - n_11))), (Value.bool true)])) w14)
  (R (Ending.returned (Value.tuple #[(Value.int .i64 n_11), (Value.bool true)])) w14))))
  (V.sel ((V.byteAt value_1 0) == 45)
  (R (Ending.returned (Value.tuple #[(Value.int .i64 (IntKind.wrap .i64 (0 - n_11))), (Value.bool true)])) w14)
  (R (Ending.returned (Value.tuple #[(Value.int .i64 n_11), (Value.bool true)])) w14))))))))))
  (V.sel (decide (((ByteArray.size value_1 : Nat) : Int) < 1))
  (R (Ending.returned (Value.tuple #[(Value.int .i64 0), (Value.bool false)])) w)
  (V.sel (decide (((ByteArray.size value_1 : Nat) : Int) > 15))
  (R (Ending.returned (Value.tuple #[(Value.int .i64 0), (Value.bool false)])) w)
  (∃ I16 : Int → Int → World → Prop, ∃ μ17 : Int → Int → World → Nat, I16 0 0 w ∧
  ∀ n_18 i_19 (j20 : Nat → Value) (w21 : World), I16 n_18 i_19 w21 →
  (V.sel (decide (i_19 < ((ByteArray.size value_1 : Nat) : Int)))
  (V.when (decide ((0 : Int) ≤ i_19 ∧ (i_19 : Int) < ((ByteArray.size value_1 : Nat) : Int))) (V.sel (decide ((V.byteAt value_1 i_19) < 48))
  (R (Ending.returned (Value.tuple #[(Value.int .i64 0), (Value.bool false)])) w21)
  (V.when (decide ((0 : Int) ≤ i_19 ∧ (i_19 : Int) < ((ByteArray.size value_1 : Nat) : Int))) (V.sel (decide ((V.byteAt value_1 i_19) > 57))
  (R (Ending.returned (Value.tuple #[(Value.int .i64 0), (Value.bool false)])) w21)
  (V.when (decide ((0 : Int) ≤ i_19 ∧ (i_19 : Int) < ((ByteArray.size value_1 : Nat) : Int))) (V.lt (IntKind.wrap .i64 ((IntKind.wrap .i64 (10 * n_18)) + (IntKind.wrap .i64 ((IntKind.wrap .u8 ((V.byteAt value_1 i_19) - 48)))))) fun x22 =>
  I16 x22 (IntKind.wrap .i64 (i_19 + 1)) w21 ∧ μ17 x22 (IntKind.wrap .i64 (i_19 + 1)) w21 < μ17 n_18 i_19 w21))))))
  (V.when (decide ((0 : Int) ≤ 0 ∧ (0 : Int) < ((ByteArray.size value_1 : Nat) : Int))) (V.sel ((V.byteAt value_1 0) == 48)
  (V.sel (decide (((ByteArray.size value_1 : Nat) : Int) > 1))
  (R (Ending.returned (Value.tuple #[(Value.int .i64 0), (Value.bool false)])) w21)
  (R (Ending.returned (Value.tuple #[(Value.int .i64 n_18), (Value.bool true)])) w21))
  (R (Ending.returned (Value.tuple #[(Value.int .i64 n_18), (Value.bool true)])) w21)))))))) :
  Calls Tryz.prog 66 #[(Value.string value_1)] w R :=
  V.calls_of_R ⟨V.assoc [(0, [6, 7])], V.assocP [], V.assocC [], V.assocS [], ⟨[], true⟩⟩ Tryz.func66 rfl (Eq.mp (by kernel_rfl) h)

theorem labels_IntText_nf (n_1 : Int) (w : World) (R : Ending → World → Prop) (h :
  V.sel (decide (n_1 < (-999999999999999)))
  (R (Ending.returned (Value.tuple #[(Value.string ByteArray.empty), (Value.bool false)])) w)
  (V.sel (decide (n_1 > 999999999999999))
  (R (Ending.returned (Value.tuple #[(Value.string ByteArray.empty), (Value.bool false)])) w)
  (Calls Tryz.prog 93 #[(Value.int .i64 n_1)] w fun e3 w4 =>
  ∃ s2, e3 = Ending.returned (Value.string s2) ∧
  R (Ending.returned (Value.tuple #[(Value.string s2), (Value.bool true)])) w4))) :
  Calls Tryz.prog 67 #[(Value.int .i64 n_1)] w R :=
  V.calls_of_R ⟨V.assoc [], V.assocP [], V.assocC [], V.assocS [], ⟨[], true⟩⟩ Tryz.func67 rfl (Eq.mp (by kernel_rfl) h)

theorem berthref03_IntText_nf (n_1 : Int) (w : World) (R : Ending → World → Prop) (h :
  V.sel (decide (n_1 < (-999999999999999)))
  (R (Ending.returned (Value.tuple #[(Value.string ByteArray.empty), (Value.bool false)])) w)
  (V.sel (decide (n_1 > 999999999999999))
  (R (Ending.returned (Value.tuple #[(Value.string ByteArray.empty), (Value.bool false)])) w)
  (V.sel (n_1 == 0)
  (R (Ending.returned (Value.tuple #[(Value.string ⟨#[48]⟩), (Value.bool true)])) w)
  (V.sel (decide (n_1 < 0))
  (∃ I2 : Int → Option Addr → Nat → Nat → World → Prop, ∃ μ3 : Int → Option Addr → Nat → Nat → World → Nat, I2 (IntKind.wrap .i64 (0 - n_1)) none 0 0 w ∧
  ∀ m_4 b_5 b_5l b_5c (j6 : Nat → Value) (w7 : World), I2 m_4 b_5 b_5l b_5c w7 →
  (V.sel (decide (m_4 > 0))
  (∀ w8, w8 = (World.alloc w7 (.cells #[(Value.int .u8 (IntKind.wrap .u8 ((IntKind.wrap .i64 (48 + (Int.tmod m_4 10))))))] 5)) →
  ∃ A9, ∃ A9l, ∃ A9c, ∃ w10, Sem.run Tryz.prog (Builtin.append_ #[47, 47] 47 #[(Value.slice b_5 b_5l b_5c), (Value.slice (some ⟨Array.size (World.heap w7), 0, none⟩) 1 1)]) w8 = .ok (Value.slice A9 A9l A9c) w10 ∧
  I2 (IntKind.wrap .i64 (Int.tdiv m_4 10)) A9 A9l A9c w10 ∧ μ3 (IntKind.wrap .i64 (Int.tdiv m_4 10)) A9 A9l A9c w10 < μ3 m_4 b_5 b_5l b_5c w7)
  (V.sel (decide (n_1 < 0))
  (∀ w11, w11 = (World.alloc w7 (.cells #[(Value.int .u8 45)] 5)) →
  ∃ A12, ∃ A12l, ∃ A12c, ∃ w13, Sem.run Tryz.prog (Builtin.append_ #[47, 47] 47 #[(Value.slice b_5 b_5l b_5c), (Value.slice (some ⟨Array.size (World.heap w7), 0, none⟩) 1 1)]) w11 = .ok (Value.slice A12 A12l A12c) w13 ∧
  V.lt (IntKind.wrap .i64 (((A12l : Nat) : Int) - 1)) fun x14 =>
  ∃ I15 : Option Addr → Nat → Nat → Int → World → Prop, ∃ μ16 : Option Addr → Nat → Nat → Int → World → Nat, I15 none 0 0 x14 w13 ∧
  ∀ r_17 r_17l r_17c i_18 (j19 : Nat → Value) (w20 : World), I15 r_17 r_17l r_17c i_18 w20 →
  (V.sel (decide (i_18 ≥ 0))
  (V.when (decide ((0 : Int) ≤ i_18 ∧ (i_18 : Int) < ((A12l : Nat) : Int))) (V.ptr A12 fun a21 =>
  ∃ n22, World.cell? w20 (Addr.add a21 ((Int.toNat i_18) * 1)) = some (Value.int .u8 n22) ∧
  ∀ w23, w23 = (World.alloc w20 (.cells #[(Value.int .u8 n22)] 5)) →
  ∃ A24, ∃ A24l, ∃ A24c, ∃ w25, Sem.run Tryz.prog (Builtin.append_ #[47, 47] 47 #[(Value.slice r_17 r_17l r_17c), (Value.slice (some ⟨Array.size (World.heap w20), 0, none⟩) 1 1)]) w23 = .ok (Value.slice A24 A24l A24c) w25 ∧
  I15 A24 A24l A24c (IntKind.wrap .i64 (i_18 - 1)) w25 ∧ μ16 A24 A24l A24c (IntKind.wrap .i64 (i_18 - 1)) w25 < μ16 r_17 r_17l r_17c i_18 w20))
  (∃ s26, ∃ w27, Sem.run Tryz.prog (convert 47 9 (Value.slice r_17 r_17l r_17c)) w20 = .ok (Value.string s26) w27 ∧
  R (Ending.returned (Value.tuple #[(Value.string s26), (Value.bool true)])) w27)))
  (V.lt (IntKind.wrap .i64 (((b_5l : Nat) : Int) - 1)) fun x28 =>
  ∃ I29 : Option Addr → Nat → Nat → Int → World → Prop, ∃ μ30 : Option Addr → Nat → Nat → Int → World → Nat, I29 none 0 0 x28 w7 ∧
  ∀ r_31 r_31l r_31c i_32 (j33 : Nat → Value) (w34 : World), I29 r_31 r_31l r_31c i_32 w34 →
  (V.sel (decide (i_32 ≥ 0))
  (V.when (decide ((0 : Int) ≤ i_32 ∧ (i_32 : Int) < ((b_5l : Nat) : Int))) (V.ptr b_5 fun a35 =>
  ∃ n36, World.cell? w34 (Addr.add a35 ((Int.toNat i_32) * 1)) = some (Value.int .u8 n36) ∧
  ∀ w37, w37 = (World.alloc w34 (.cells #[(Value.int .u8 n36)] 5)) →
  ∃ A38, ∃ A38l, ∃ A38c, ∃ w39, Sem.run Tryz.prog (Builtin.append_ #[47, 47] 47 #[(Value.slice r_31 r_31l r_31c), (Value.slice (some ⟨Array.size (World.heap w34), 0, none⟩) 1 1)]) w37 = .ok (Value.slice A38 A38l A38c) w39 ∧
  I29 A38 A38l A38c (IntKind.wrap .i64 (i_32 - 1)) w39 ∧ μ30 A38 A38l A38c (IntKind.wrap .i64 (i_32 - 1)) w39 < μ30 r_31 r_31l r_31c i_32 w34))
  (∃ s40, ∃ w41, Sem.run Tryz.prog (convert 47 9 (Value.slice r_31 r_31l r_31c)) w34 = .ok (Value.string s40) w41 ∧
  R (Ending.returned (Value.tuple #[(Value.string s40), (Value.bool true)])) w41))))))
  (∃ I42 : Int → Option Addr → Nat → Nat → World → Prop, ∃ μ43 : Int → Option Addr → Nat → Nat → World → Nat, I42 n_1 none 0 0 w ∧
  ∀ m_44 b_45 b_45l b_45c (j46 : Nat → Value) (w47 : World), I42 m_44 b_45 b_45l b_45c w47 →
  (V.sel (decide (m_44 > 0))
  (∀ w48, w48 = (World.alloc w47 (.cells #[(Value.int .u8 (IntKind.wrap .u8 ((IntKind.wrap .i64 (48 + (Int.tmod m_44 10))))))] 5)) →
  ∃ A49, ∃ A49l, ∃ A49c, ∃ w50, Sem.run Tryz.prog (Builtin.append_ #[47, 47] 47 #[(Value.slice b_45 b_45l b_45c), (Value.slice (some ⟨Array.size (World.heap w47), 0, none⟩) 1 1)]) w48 = .ok (Value.slice A49 A49l A49c) w50 ∧
  I42 (IntKind.wrap .i64 (Int.tdiv m_44 10)) A49 A49l A49c w50 ∧ μ43 (IntKind.wrap .i64 (Int.tdiv m_44 10)) A49 A49l A49c w50 < μ43 m_44 b_45 b_45l b_45c w47)
  (V.sel (decide (n_1 < 0))
  (∀ w51, w51 = (World.alloc w47 (.cells #[(Value.int .u8 45)] 5)) →
  ∃ A52, ∃ A52l, ∃ A52c, ∃ w53, Sem.run Tryz.prog (Builtin.append_ #[47, 47] 47 #[(Value.slice b_45 b_45l b_45c), (Value.slice (some ⟨Array.size (World.heap w47), 0, none⟩) 1 1)]) w51 = .ok (Value.slice A52 A52l A52c) w53 ∧
  V.lt (IntKind.wrap .i64 (((A52l : Nat) : Int) - 1)) fun x54 =>
  ∃ I55 : Option Addr → Nat → Nat → Int → World → Prop, ∃ μ56 : Option Addr → Nat → Nat → Int → World → Nat, I55 none 0 0 x54 w53 ∧
  ∀ r_57 r_57l r_57c i_58 (j59 : Nat → Value) (w60 : World), I55 r_57 r_57l r_57c i_58 w60 →
  (V.sel (decide (i_58 ≥ 0))
  (V.when (decide ((0 : Int) ≤ i_58 ∧ (i_58 : Int) < ((A52l : Nat) : Int))) (V.ptr A52 fun a61 =>
  ∃ n62, World.cell? w60 (Addr.add a61 ((Int.toNat i_58) * 1)) = some (Value.int .u8 n62) ∧
  ∀ w63, w63 = (World.alloc w60 (.cells #[(Value.int .u8 n62)] 5)) →
  ∃ A64, ∃ A64l, ∃ A64c, ∃ w65, Sem.run Tryz.prog (Builtin.append_ #[47, 47] 47 #[(Value.slice r_57 r_57l r_57c), (Value.slice (some ⟨Array.size (World.heap w60), 0, none⟩) 1 1)]) w63 = .ok (Value.slice A64 A64l A64c) w65 ∧
  I55 A64 A64l A64c (IntKind.wrap .i64 (i_58 - 1)) w65 ∧ μ56 A64 A64l A64c (IntKind.wrap .i64 (i_58 - 1)) w65 < μ56 r_57 r_57l r_57c i_58 w60))
  (∃ s66, ∃ w67, Sem.run Tryz.prog (convert 47 9 (Value.slice r_57 r_57l r_57c)) w60 = .ok (Value.string s66) w67 ∧
  R (Ending.returned (Value.tuple #[(Value.string s66), (Value.bool true)])) w67)))
  (V.lt (IntKind.wrap .i64 (((b_45l : Nat) : Int) - 1)) fun x68 =>
  ∃ I69 : Option Addr → Nat → Nat → Int → World → Prop, ∃ μ70 : Option Addr → Nat → Nat → Int → World → Nat, I69 none 0 0 x68 w47 ∧
  ∀ r_71 r_71l r_71c i_72 (j73 : Nat → Value) (w74 : World), I69 r_71 r_71l r_71c i_72 w74 →
  (V.sel (decide (i_72 ≥ 0))
  (V.when (decide ((0 : Int) ≤ i_72 ∧ (i_72 : Int) < ((b_45l : Nat) : Int))) (V.ptr b_45 fun a75 =>
  ∃ n76, World.cell? w74 (Addr.add a75 ((Int.toNat i_72) * 1)) = some (Value.int .u8 n76) ∧
  ∀ w77, w77 = (World.alloc w74 (.cells #[(Value.int .u8 n76)] 5)) →
  ∃ A78, ∃ A78l, ∃ A78c, ∃ w79, Sem.run Tryz.prog (Builtin.append_ #[47, 47] 47 #[(Value.slice r_71 r_71l r_71c), (Value.slice (some ⟨Array.size (World.heap w74), 0, none⟩) 1 1)]) w77 = .ok (Value.slice A78 A78l A78c) w79 ∧
  I69 A78 A78l A78c (IntKind.wrap .i64 (i_72 - 1)) w79 ∧ μ70 A78 A78l A78c (IntKind.wrap .i64 (i_72 - 1)) w79 < μ70 r_71 r_71l r_71c i_72 w74))
  (∃ s80, ∃ w81, Sem.run Tryz.prog (convert 47 9 (Value.slice r_71 r_71l r_71c)) w74 = .ok (Value.string s80) w81 ∧
  R (Ending.returned (Value.tuple #[(Value.string s80), (Value.bool true)])) w81)))))))))) :
  Calls Tryz.prog 68 #[(Value.int .i64 n_1)] w R :=
  V.calls_of_R ⟨V.assoc [(0, [4, 5]), (1, [6, 7])], V.assocP [], V.assocC [], V.assocS [], ⟨[], true⟩⟩ Tryz.func68 rfl (Eq.mp (by kernel_rfl) h)

theorem berthref03_Copy_nf (l_1 : Option Addr) (l_1l : Nat) (l_1c : Nat) (w : World) (R : Ending → World → Prop) (h :
  ∀ w2, w2 = (World.alloc w (.cells #[] 40)) →
  ∃ A3, ∃ A3l, ∃ A3c, ∃ w4, Sem.run Tryz.prog (Builtin.append_ #[22, 22] 22 #[(Value.slice (some ⟨Array.size (World.heap w), 0, none⟩) 0 0), (Value.slice l_1 l_1l l_1c)]) w2 = .ok (Value.slice A3 A3l A3c) w4 ∧
  R (Ending.returned (Value.slice A3 A3l A3c)) w4) :
  Calls Tryz.prog 69 #[(Value.slice l_1 l_1l l_1c)] w R :=
  V.calls_of_R ⟨V.assoc [], V.assocP [], V.assocC [], V.assocS [], ⟨[], true⟩⟩ Tryz.func69 rfl (Eq.mp (by kernel_rfl) h)

theorem berthref03_Same_nf (a_1 : Option Addr) (a_1l : Nat) (a_1c : Nat) (b_2 : Option Addr) (b_2l : Nat) (b_2c : Nat) (w : World) (R : Ending → World → Prop) (h :
  V.sel (((a_1l : Nat) : Int) != ((b_2l : Nat) : Int))
  (R (Ending.returned (Value.bool false)) w)
  (∃ I3 : Int → World → Prop, ∃ μ4 : Int → World → Nat, I3 0 w ∧
  ∀ i_5 (j6 : Nat → Value) (w7 : World), I3 i_5 w7 →
  (V.sel (decide (i_5 < ((a_1l : Nat) : Int)))
  (V.when (decide ((0 : Int) ≤ i_5 ∧ (i_5 : Int) < ((a_1l : Nat) : Int))) (V.ptr a_1 fun a8 =>
  ∃ s9, ∃ s10, V.cellsC (fun a_ x_ => World.cell? w7 a_ = some x_) (Addr.add a8 ((Int.toNat i_5) * 2)) [(Value.string s9), (Value.string s10)] ∧
  V.when (decide ((0 : Int) ≤ i_5 ∧ (i_5 : Int) < ((b_2l : Nat) : Int))) (V.ptr b_2 fun a11 =>
  ∃ s12, ∃ s13, V.cellsC (fun a_ x_ => World.cell? w7 a_ = some x_) (Addr.add a11 ((Int.toNat i_5) * 2)) [(Value.string s12), (Value.string s13)] ∧
  V.sel (!((ByteArray.toList s9 == ByteArray.toList s12) && ((ByteArray.toList s10 == ByteArray.toList s13) && true)))
  (R (Ending.returned (Value.bool false)) (World.drew w7))
  (I3 (IntKind.wrap .i64 (i_5 + 1)) (World.drew w7) ∧ μ4 (IntKind.wrap .i64 (i_5 + 1)) (World.drew w7) < μ4 i_5 w7))))
  (R (Ending.returned (Value.bool true)) w7)))) :
  Calls Tryz.prog 70 #[(Value.slice a_1 a_1l a_1c), (Value.slice b_2 b_2l b_2c)] w R :=
  V.calls_of_R ⟨V.assoc [(0, [5])], V.assocP [(6, V.line [0, 1, 2, 3, 4, 5, 6, 7, 8])], V.assocC [], V.assocS [], ⟨[], true⟩⟩ Tryz.func70 rfl (Eq.mp (by kernel_rfl) h)

theorem labels_Text_nf (list_1 : Option Addr) (list_1l : Nat) (list_1c : Nat) (w : World) (R : Ending → World → Prop) (h :
  Calls Tryz.prog 29 #[(Value.slice list_1 list_1l list_1c)] w fun e4 w5 =>
  ∃ n2, ∃ n3, e4 = Ending.returned (Value.tuple #[(Value.int .i64 n2), (Value.int .i64 n3)]) ∧
  V.sel (n3 != 0)
  (R (Ending.returned (Value.tuple #[(Value.string ByteArray.empty), (Value.int .i64 n3)])) w5)
  (∀ w6, w6 = (World.alloc w5 (.cells #[(Value.pointer none), (Value.slice none 0 0)] 117)) →
  ∃ I7 : Int → World → Prop, ∃ μ8 : Int → World → Nat, I7 0 w6 ∧
  ∀ t19_9 (j10 : Nat → Value) (w11 : World), I7 t19_9 w11 →
  (V.sel (decide (t19_9 < ((list_1l : Nat) : Int)))
  (V.when (decide ((0 : Int) ≤ t19_9 ∧ (t19_9 : Int) < ((list_1l : Nat) : Int))) (V.ptr list_1 fun a12 =>
  ∃ s13, ∃ s14, V.cellsC (fun a_ x_ => World.cell? w11 a_ = some x_) (Addr.add a12 ((Int.toNat t19_9) * 2)) [(Value.string s13), (Value.string s14)] ∧
  ∀ w15, w15 = (World.alloc w11 (.cells #[(Value.string ByteArray.empty), (Value.string ByteArray.empty)] 40)) →
  ∃ w16, Sem.run Tryz.prog (Instr.storeAt 40 (Value.pointer (some ⟨Array.size (World.heap w11), 0, none⟩)) (Value.agg #[(Value.string s13), (Value.string s14)])) w15 = .ok () w16 ∧
  V.sel (decide (t19_9 > 0))
  (Calls Tryz.prog 94 #[(Value.pointer (some ⟨Array.size (World.heap w5), 0, none⟩)), (Value.int .u8 44)] w16 fun e18 w19 =>
  ∃ v17, e18 = Ending.returned v17 ∧
  ∃ s20, World.cell? w19 (Addr.add ⟨Array.size (World.heap w11), 0, none⟩ 0) = some (Value.string s20) ∧
  Calls Tryz.prog 95 #[(Value.pointer (some ⟨Array.size (World.heap w5), 0, none⟩)), (Value.string s20)] w19 fun e23 w24 =>
  ∃ n21, ∃ v22, e23 = Ending.returned (Value.tuple #[(Value.int .i64 n21), v22]) ∧
  Calls Tryz.prog 94 #[(Value.pointer (some ⟨Array.size (World.heap w5), 0, none⟩)), (Value.int .u8 61)] w24 fun e26 w27 =>
  ∃ v25, e26 = Ending.returned v25 ∧
  ∃ s28, World.cell? w27 (Addr.add ⟨Array.size (World.heap w11), 0, none⟩ 1) = some (Value.string s28) ∧
  Calls Tryz.prog 95 #[(Value.pointer (some ⟨Array.size (World.heap w5), 0, none⟩)), (Value.string s28)] w27 fun e31 w32 =>
  ∃ n29, ∃ v30, e31 = Ending.returned (Value.tuple #[(Value.int .i64 n29), v30]) ∧
  I7 (IntKind.wrap .i64 (t19_9 + 1)) w32 ∧ μ8 (IntKind.wrap .i64 (t19_9 + 1)) w32 < μ8 t19_9 w11)
  (∃ s33, World.cell? w16 (Addr.add ⟨Array.size (World.heap w11), 0, none⟩ 0) = some (Value.string s33) ∧
  Calls Tryz.prog 95 #[(Value.pointer (some ⟨Array.size (World.heap w5), 0, none⟩)), (Value.string s33)] w16 fun e36 w37 =>
  ∃ n34, ∃ v35, e36 = Ending.returned (Value.tuple #[(Value.int .i64 n34), v35]) ∧
  Calls Tryz.prog 94 #[(Value.pointer (some ⟨Array.size (World.heap w5), 0, none⟩)), (Value.int .u8 61)] w37 fun e39 w40 =>
  ∃ v38, e39 = Ending.returned v38 ∧
  ∃ s41, World.cell? w40 (Addr.add ⟨Array.size (World.heap w11), 0, none⟩ 1) = some (Value.string s41) ∧
  Calls Tryz.prog 95 #[(Value.pointer (some ⟨Array.size (World.heap w5), 0, none⟩)), (Value.string s41)] w40 fun e44 w45 =>
  ∃ n42, ∃ v43, e44 = Ending.returned (Value.tuple #[(Value.int .i64 n42), v43]) ∧
  I7 (IntKind.wrap .i64 (t19_9 + 1)) w45 ∧ μ8 (IntKind.wrap .i64 (t19_9 + 1)) w45 < μ8 t19_9 w11)))
  (Calls Tryz.prog 96 #[(Value.pointer (some ⟨Array.size (World.heap w5), 0, none⟩))] w11 fun e47 w48 =>
  ∃ s46, e47 = Ending.returned (Value.string s46) ∧
  R (Ending.returned (Value.tuple #[(Value.string s46), (Value.int .i64 0)])) w48)))) :
  Calls Tryz.prog 71 #[(Value.slice list_1 list_1l list_1c)] w R :=
  V.calls_of_R ⟨V.assoc [(0, [19])], V.assocP [], V.assocC [], V.assocS [], ⟨[], true⟩⟩ Tryz.func71 rfl (Eq.mp (by kernel_rfl) h)

theorem berthref03_Text_nf (list_1 : Option Addr) (list_1l : Nat) (list_1c : Nat) (w : World) (R : Ending → World → Prop) (h :
  Calls Tryz.prog 59 #[(Value.slice list_1 list_1l list_1c)] w fun e4 w5 =>
  ∃ n2, ∃ n3, e4 = Ending.returned (Value.tuple #[(Value.int .i64 n2), (Value.int .i64 n3)]) ∧
  V.sel (n3 != 0)
  (R (Ending.returned (Value.tuple #[(Value.string ByteArray.empty), (Value.int .i64 n3)])) w5)
  (∃ I6 : ByteArray → Int → World → Prop, ∃ μ7 : ByteArray → Int → World → Nat, I6 ByteArray.empty 0 w5 ∧
  ∀ s_8 i_9 (j10 : Nat → Value) (w11 : World), I6 s_8 i_9 w11 →
  (V.sel (decide (i_9 < ((list_1l : Nat) : Int)))
  (V.sel (decide (i_9 > 0))
  (V.when (decide (ByteArray.size s_8 + ByteArray.size ⟨#[44]⟩ ≤ 9223372036854775807)) (V.when (decide ((0 : Int) ≤ i_9 ∧ (i_9 : Int) < ((list_1l : Nat) : Int))) (V.ptr list_1 fun a12 =>
  ∃ s13, World.cell? w11 (Addr.add (Addr.add a12 ((Int.toNat i_9) * 2)) 0) = some (Value.string s13) ∧
  V.when (decide (ByteArray.size (s_8 ++ ⟨#[44]⟩) + ByteArray.size s13 ≤ 9223372036854775807)) (V.when (decide (ByteArray.size ((s_8 ++ ⟨#[44]⟩) ++ s13) + ByteArray.size ⟨#[61]⟩ ≤ 9223372036854775807)) (V.when (decide ((0 : Int) ≤ i_9 ∧ (i_9 : Int) < ((list_1l : Nat) : Int))) (V.ptr list_1 fun a14 =>
  ∃ s15, World.cell? w11 (Addr.add (Addr.add a14 ((Int.toNat i_9) * 2)) 1) = some (Value.string s15) ∧
  V.when (decide (ByteArray.size (((s_8 ++ ⟨#[44]⟩) ++ s13) ++ ⟨#[61]⟩) + ByteArray.size s15 ≤ 9223372036854775807)) (I6 ((((s_8 ++ ⟨#[44]⟩) ++ s13) ++ ⟨#[61]⟩) ++ s15) (IntKind.wrap .i64 (i_9 + 1)) (World.drew w11) ∧ μ7 ((((s_8 ++ ⟨#[44]⟩) ++ s13) ++ ⟨#[61]⟩) ++ s15) (IntKind.wrap .i64 (i_9 + 1)) (World.drew w11) < μ7 s_8 i_9 w11)))))))
  (V.when (decide ((0 : Int) ≤ i_9 ∧ (i_9 : Int) < ((list_1l : Nat) : Int))) (V.ptr list_1 fun a16 =>
  ∃ s17, World.cell? w11 (Addr.add (Addr.add a16 ((Int.toNat i_9) * 2)) 0) = some (Value.string s17) ∧
  V.when (decide (ByteArray.size s_8 + ByteArray.size s17 ≤ 9223372036854775807)) (V.when (decide (ByteArray.size (s_8 ++ s17) + ByteArray.size ⟨#[61]⟩ ≤ 9223372036854775807)) (V.when (decide ((0 : Int) ≤ i_9 ∧ (i_9 : Int) < ((list_1l : Nat) : Int))) (V.ptr list_1 fun a18 =>
  ∃ s19, World.cell? w11 (Addr.add (Addr.add a18 ((Int.toNat i_9) * 2)) 1) = some (Value.string s19) ∧
  V.when (decide (ByteArray.size ((s_8 ++ s17) ++ ⟨#[61]⟩) + ByteArray.size s19 ≤ 9223372036854775807)) (I6 (((s_8 ++ s17) ++ ⟨#[61]⟩) ++ s19) (IntKind.wrap .i64 (i_9 + 1)) (World.drew w11) ∧ μ7 (((s_8 ++ s17) ++ ⟨#[61]⟩) ++ s19) (IntKind.wrap .i64 (i_9 + 1)) (World.drew w11) < μ7 s_8 i_9 w11)))))))
  (R (Ending.returned (Value.tuple #[(Value.string s_8), (Value.int .i64 0)])) w11)))) :
  Calls Tryz.prog 72 #[(Value.slice list_1 list_1l list_1c)] w R :=
  V.calls_of_R ⟨V.assoc [(0, [6, 7])], V.assocP [(10, V.line [0, 1, 2, 3, 4, 5, 6, 7, 8, 9, 10, 11, 12, 13, 14])], V.assocC [], V.assocS [], ⟨[], true⟩⟩ Tryz.func72 rfl (Eq.mp (by kernel_rfl) h)

theorem berthlaw03_walk_nf (was_1 : Option Addr) (was_1l : Nat) (was_1c : Nat) (now_2 : Option Addr) (now_2l : Nat) (now_2c : Nat) (w : World) (R : Ending → World → Prop) (h :
  ∀ w3, w3 = (World.alloc w (.cells #[(Value.slice none 0 0)] 23)) →
  Calls Tryz.prog 13 #[(Value.slice was_1 was_1l was_1c), (Value.slice now_2 now_2l now_2c)] w3 fun e5 w6 =>
  ∃ f4, ∃ f4a, ∃ f4c, e5 = Ending.returned (Value.func (.func f4) f4a f4c) ∧
  V.when (V.hasB Tryz.prog f4 && true) (∀ (Rc7 : Loop) (l8 : Nat) (w9 : World), l8 = Array.size (World.heap w6) + 1 → w9 = World.alloc (World.alloc w6 (.deferred (some []))) (.loop { Rc7 with state := .ready, pending := none }) →
  (∀ y16_12 y16_13 y16_14 y16_15 y16_16 (W10 : World) (R11 : Ending → World → Prop), V.LoopSt W10 l8 Rc7 .ready none →
  (∀ w17, w17 = (World.alloc W10 (.cells #[(Value.string ByteArray.empty), (Value.string ByteArray.empty), (Value.string ByteArray.empty), (Value.bool false), (Value.bool false)] 59)) →
  ∃ w18, Sem.run Tryz.prog (Instr.storeAt 59 (Value.pointer (some ⟨Array.size (World.heap W10), 0, none⟩)) (Value.agg #[(Value.string y16_12), (Value.string y16_13), (Value.string y16_14), (Value.bool y16_15), (Value.bool y16_16)])) w17 = .ok () w18 ∧
  V.LoopSt w18 l8 Rc7 .ready none ∧
  ∃ A19, ∃ A19l, ∃ A19c, World.cell? (V.setLoop w18 l8 Rc7 .busy none) ⟨Array.size (World.heap w), 0, none⟩ = some (Value.slice A19 A19l A19c) ∧
  ∃ s20, ∃ s21, ∃ s22, ∃ b23, ∃ b24, V.cellsC (fun a_ x_ => World.cell? (V.setLoop w18 l8 Rc7 .busy none) a_ = some x_) ⟨Array.size (World.heap W10), 0, none⟩ [(Value.string s20), (Value.string s21), (Value.string s22), (Value.bool b23), (Value.bool b24)] ∧
  ∀ w25, w25 = (World.alloc (V.setLoop w18 l8 Rc7 .busy none) (.cells #[(Value.string s20), (Value.string s21), (Value.string s22), (Value.bool b23), (Value.bool b24)] 59)) →
  ∃ A26, ∃ A26l, ∃ A26c, ∃ w27, Sem.run Tryz.prog (Builtin.append_ #[23, 23] 23 #[(Value.slice A19 A19l A19c), (Value.slice (some ⟨Array.size (World.heap (V.setLoop w18 l8 Rc7 .busy none)), 0, none⟩) 1 1)]) w25 = .ok (Value.slice A26 A26l A26c) w27 ∧
  ∃ w28, Sem.run Tryz.prog (Instr.storeAt 23 (Value.pointer (some ⟨Array.size (World.heap w), 0, none⟩)) (Value.slice A26 A26l A26c)) w27 = .ok () w28 ∧
  V.LoopSt w28 l8 Rc7 .busy none ∧ R11 (Ending.returned (Value.bool true)) (V.setLoop w28 l8 Rc7 .ready none)) →
  V.Yield Tryz.prog l8 [(Value.agg #[(Value.string y16_12), (Value.string y16_13), (Value.string y16_14), (Value.bool y16_15), (Value.bool y16_16)])] W10 R11) →
  Calls Tryz.prog f4 ⟨Array.toList f4a ++ [(Value.func (.yield l8) #[] #[])] ++ Array.toList f4c⟩ w9 fun e29 w31 => (∃ v30, e29 = Ending.returned v30) ∧
  ((V.LoopSt w31 l8 Rc7 .ready none ∧
  ∃ A32, ∃ A32l, ∃ A32c, World.cell? (V.setLoop w31 l8 Rc7 .exhausted none) ⟨Array.size (World.heap w), 0, none⟩ = some (Value.slice A32 A32l A32c) ∧
  V.closeR (Array.size (World.heap w6) :: []) (V.setLoop w31 l8 Rc7 .exhausted none) fun w33 =>
  R (Ending.returned (Value.slice A32 A32l A32c)) w33) ∨
  False))) :
  Calls Tryz.prog 73 #[(Value.slice was_1 was_1l was_1c), (Value.slice now_2 now_2l now_2c)] w R :=
  V.calls_of_R ⟨V.assoc [], V.assocP [], V.assocC [], V.assocS [(0, [V.Sh.agg [.str, .str, .str, .bool, .bool]])], ⟨[], true⟩⟩ Tryz.func73 rfl (Eq.mp (by kernel_rfl) h)

theorem berthref03_Diff_nf (was_1 : Option Addr) (was_1l : Nat) (was_1c : Nat) (now_2 : Option Addr) (now_2l : Nat) (now_2c : Nat) (w : World) (R : Ending → World → Prop) (h :
  Calls Tryz.prog 59 #[(Value.slice was_1 was_1l was_1c)] w fun e5 w6 =>
  ∃ n3, ∃ n4, e5 = Ending.returned (Value.tuple #[(Value.int .i64 n3), (Value.int .i64 n4)]) ∧
  Calls Tryz.prog 59 #[(Value.slice now_2 now_2l now_2c)] w6 fun e9 w10 =>
  ∃ n7, ∃ n8, e9 = Ending.returned (Value.tuple #[(Value.int .i64 n7), (Value.int .i64 n8)]) ∧
  V.sel (n4 != 0)
  (R (Ending.returned (Value.slice none 0 0)) w10)
  (V.sel (n8 != 0)
  (R (Ending.returned (Value.slice none 0 0)) w10)
  (∃ I11 : Option Addr → Nat → Nat → Int → World → Prop, ∃ μ12 : Option Addr → Nat → Nat → Int → World → Nat, I11 none 0 0 0 w10 ∧
  ∀ all_13 all_13l all_13c i_14 (j15 : Nat → Value) (w16 : World), I11 all_13 all_13l all_13c i_14 w16 →
  (V.sel (decide (i_14 < ((was_1l : Nat) : Int)))
  (V.when (decide ((0 : Int) ≤ i_14 ∧ (i_14 : Int) < ((was_1l : Nat) : Int))) (V.ptr was_1 fun a17 =>
  ∃ s18, ∃ s19, V.cellsC (fun a_ x_ => World.cell? w16 a_ = some x_) (Addr.add a17 ((Int.toNat i_14) * 2)) [(Value.string s18), (Value.string s19)] ∧
  ∀ w20, w20 = (World.alloc w16 (.cells #[(Value.string s18), (Value.string s19)] 40)) →
  ∃ A21, ∃ A21l, ∃ A21c, ∃ w22, Sem.run Tryz.prog (Builtin.append_ #[22, 22] 22 #[(Value.slice all_13 all_13l all_13c), (Value.slice (some ⟨Array.size (World.heap w16), 0, none⟩) 1 1)]) w20 = .ok (Value.slice A21 A21l A21c) w22 ∧
  I11 A21 A21l A21c (IntKind.wrap .i64 (i_14 + 1)) w22 ∧ μ12 A21 A21l A21c (IntKind.wrap .i64 (i_14 + 1)) w22 < μ12 all_13 all_13l all_13c i_14 w16))
  (∃ I23 : Option Addr → Nat → Nat → Int → World → Prop, ∃ μ24 : Option Addr → Nat → Nat → Int → World → Nat, I23 all_13 all_13l all_13c 0 w16 ∧
  ∀ all_25 all_25l all_25c i_26 (j27 : Nat → Value) (w28 : World), I23 all_25 all_25l all_25c i_26 w28 →
  (V.sel (decide (i_26 < ((now_2l : Nat) : Int)))
  (V.when (decide ((0 : Int) ≤ i_26 ∧ (i_26 : Int) < ((now_2l : Nat) : Int))) (V.ptr now_2 fun a29 =>
  ∃ s30, World.cell? w28 (Addr.add (Addr.add a29 ((Int.toNat i_26) * 2)) 0) = some (Value.string s30) ∧
  Calls Tryz.prog 56 #[(Value.slice was_1 was_1l was_1c), (Value.string s30)] w28 fun e32 w33 =>
  ∃ n31, e32 = Ending.returned (Value.int .i64 n31) ∧
  V.sel (decide (n31 < 0))
  (V.when (decide ((0 : Int) ≤ i_26 ∧ (i_26 : Int) < ((now_2l : Nat) : Int))) (V.ptr now_2 fun a34 =>
  ∃ s35, ∃ s36, V.cellsC (fun a_ x_ => World.cell? w33 a_ = some x_) (Addr.add a34 ((Int.toNat i_26) * 2)) [(Value.string s35), (Value.string s36)] ∧
  ∀ w37, w37 = (World.alloc w33 (.cells #[(Value.string s35), (Value.string s36)] 40)) →
  ∃ A38, ∃ A38l, ∃ A38c, ∃ w39, Sem.run Tryz.prog (Builtin.append_ #[22, 22] 22 #[(Value.slice all_25 all_25l all_25c), (Value.slice (some ⟨Array.size (World.heap w33), 0, none⟩) 1 1)]) w37 = .ok (Value.slice A38 A38l A38c) w39 ∧
  I23 A38 A38l A38c (IntKind.wrap .i64 (i_26 + 1)) w39 ∧ μ24 A38 A38l A38c (IntKind.wrap .i64 (i_26 + 1)) w39 < μ24 all_25 all_25l all_25c i_26 w28))
  (I23 all_25 all_25l all_25c (IntKind.wrap .i64 (i_26 + 1)) w33 ∧ μ24 all_25 all_25l all_25c (IntKind.wrap .i64 (i_26 + 1)) w33 < μ24 all_25 all_25l all_25c i_26 w28)))
  (Calls Tryz.prog 57 #[(Value.slice all_25 all_25l all_25c)] w28 fun e41 w42 =>
  ∃ A40, ∃ A40l, ∃ A40c, e41 = Ending.returned (Value.slice A40 A40l A40c) ∧
  ∃ I43 : Option Addr → Nat → Nat → Int → World → Prop, ∃ μ44 : Option Addr → Nat → Nat → Int → World → Nat, I43 none 0 0 0 w42 ∧
  ∀ out_45 out_45l out_45c i_46 (j47 : Nat → Value) (w48 : World), I43 out_45 out_45l out_45c i_46 w48 →
  (V.sel (decide (i_46 < ((A40l : Nat) : Int)))
  (V.when (decide ((0 : Int) ≤ i_46 ∧ (i_46 : Int) < ((A40l : Nat) : Int))) (V.ptr A40 fun a49 =>
  ∃ s50, World.cell? w48 (Addr.add (Addr.add a49 ((Int.toNat i_46) * 2)) 0) = some (Value.string s50) ∧
  Calls Tryz.prog 97 #[(Value.slice was_1 was_1l was_1c), (Value.slice now_2 now_2l now_2c), (Value.string s50)] w48 fun e56 w57 =>
  ∃ s51, ∃ s52, ∃ s53, ∃ b54, ∃ b55, e56 = Ending.returned (Value.agg #[(Value.string s51), (Value.string s52), (Value.string s53), (Value.bool b54), (Value.bool b55)]) ∧
  ∀ w58, w58 = (World.alloc w57 (.cells #[(Value.string ByteArray.empty), (Value.string ByteArray.empty), (Value.string ByteArray.empty), (Value.bool false), (Value.bool false)] 59)) →
  ∃ w59, Sem.run Tryz.prog (Instr.storeAt 59 (Value.pointer (some ⟨Array.size (World.heap w57), 0, none⟩)) (Value.agg #[(Value.string s51), (Value.string s52), (Value.string s53), (Value.bool b54), (Value.bool b55)])) w58 = .ok () w59 ∧
  ∃ b60, World.cell? w59 (Addr.add ⟨Array.size (World.heap w57), 0, none⟩ 3) = some (Value.bool b60) ∧
  ∃ b61, World.cell? w59 (Addr.add ⟨Array.size (World.heap w57), 0, none⟩ 4) = some (Value.bool b61) ∧
  V.sel (!(b60 == b61))
  (∃ s62, ∃ s63, ∃ s64, ∃ b65, ∃ b66, V.cellsC (fun a_ x_ => World.cell? w59 a_ = some x_) ⟨Array.size (World.heap w57), 0, none⟩ [(Value.string s62), (Value.string s63), (Value.string s64), (Value.bool b65), (Value.bool b66)] ∧
  ∀ w67, w67 = (World.alloc w59 (.cells #[(Value.string s62), (Value.string s63), (Value.string s64), (Value.bool b65), (Value.bool b66)] 59)) →
  ∃ A68, ∃ A68l, ∃ A68c, ∃ w69, Sem.run Tryz.prog (Builtin.append_ #[23, 23] 23 #[(Value.slice out_45 out_45l out_45c), (Value.slice (some ⟨Array.size (World.heap w59), 0, none⟩) 1 1)]) w67 = .ok (Value.slice A68 A68l A68c) w69 ∧
  I43 A68 A68l A68c (IntKind.wrap .i64 (i_46 + 1)) w69 ∧ μ44 A68 A68l A68c (IntKind.wrap .i64 (i_46 + 1)) w69 < μ44 out_45 out_45l out_45c i_46 w48)
  (∃ s70, World.cell? w59 (Addr.add ⟨Array.size (World.heap w57), 0, none⟩ 1) = some (Value.string s70) ∧
  ∃ s71, World.cell? w59 (Addr.add ⟨Array.size (World.heap w57), 0, none⟩ 2) = some (Value.string s71) ∧
  V.sel (!(ByteArray.toList s70 == ByteArray.toList s71))
  (∃ s72, ∃ s73, ∃ s74, ∃ b75, ∃ b76, V.cellsC (fun a_ x_ => World.cell? w59 a_ = some x_) ⟨Array.size (World.heap w57), 0, none⟩ [(Value.string s72), (Value.string s73), (Value.string s74), (Value.bool b75), (Value.bool b76)] ∧
  ∀ w77, w77 = (World.alloc w59 (.cells #[(Value.string s72), (Value.string s73), (Value.string s74), (Value.bool b75), (Value.bool b76)] 59)) →
  ∃ A78, ∃ A78l, ∃ A78c, ∃ w79, Sem.run Tryz.prog (Builtin.append_ #[23, 23] 23 #[(Value.slice out_45 out_45l out_45c), (Value.slice (some ⟨Array.size (World.heap w59), 0, none⟩) 1 1)]) w77 = .ok (Value.slice A78 A78l A78c) w79 ∧
  I43 A78 A78l A78c (IntKind.wrap .i64 (i_46 + 1)) w79 ∧ μ44 A78 A78l A78c (IntKind.wrap .i64 (i_46 + 1)) w79 < μ44 out_45 out_45l out_45c i_46 w48)
  (I43 out_45 out_45l out_45c (IntKind.wrap .i64 (i_46 + 1)) w59 ∧ μ44 out_45 out_45l out_45c (IntKind.wrap .i64 (i_46 + 1)) w59 < μ44 out_45 out_45l out_45c i_46 w48))))
  (R (Ending.returned (Value.slice out_45 out_45l out_45c)) w48))))))))) :
  Calls Tryz.prog 74 #[(Value.slice was_1 was_1l was_1c), (Value.slice now_2 now_2l now_2c)] w R :=
  V.calls_of_R ⟨V.assoc [(0, [9, 10]), (1, [9, 11]), (2, [13, 14])], V.assocP [], V.assocC [], V.assocS [], ⟨[], true⟩⟩ Tryz.func74 rfl (Eq.mp (by kernel_rfl) h)

theorem berthlaw03_sameDiffs_nf (a_1 : Option Addr) (a_1l : Nat) (a_1c : Nat) (b_2 : Option Addr) (b_2l : Nat) (b_2c : Nat) (w : World) (R : Ending → World → Prop) (h :
  V.sel (((a_1l : Nat) : Int) != ((b_2l : Nat) : Int))
  (R (Ending.returned (Value.bool false)) w)
  (∃ I3 : Int → World → Prop, ∃ μ4 : Int → World → Nat, I3 0 w ∧
  ∀ i_5 (j6 : Nat → Value) (w7 : World), I3 i_5 w7 →
  (V.sel (decide (i_5 < ((a_1l : Nat) : Int)))
  (V.when (decide ((0 : Int) ≤ i_5 ∧ (i_5 : Int) < ((a_1l : Nat) : Int))) (V.ptr a_1 fun a8 =>
  ∃ s9, ∃ s10, ∃ s11, ∃ b12, ∃ b13, V.cellsC (fun a_ x_ => World.cell? w7 a_ = some x_) (Addr.add a8 ((Int.toNat i_5) * 5)) [(Value.string s9), (Value.string s10), (Value.string s11), (Value.bool b12), (Value.bool b13)] ∧
  V.when (decide ((0 : Int) ≤ i_5 ∧ (i_5 : Int) < ((b_2l : Nat) : Int))) (V.ptr b_2 fun a14 =>
  ∃ s15, ∃ s16, ∃ s17, ∃ b18, ∃ b19, V.cellsC (fun a_ x_ => World.cell? w7 a_ = some x_) (Addr.add a14 ((Int.toNat i_5) * 5)) [(Value.string s15), (Value.string s16), (Value.string s17), (Value.bool b18), (Value.bool b19)] ∧
  V.sel (!((ByteArray.toList s9 == ByteArray.toList s15) && ((ByteArray.toList s10 == ByteArray.toList s16) && ((ByteArray.toList s11 == ByteArray.toList s17) && ((b12 == b18) && ((b13 == b19) && true))))))
  (R (Ending.returned (Value.bool false)) (World.drew w7))
  (I3 (IntKind.wrap .i64 (i_5 + 1)) (World.drew w7) ∧ μ4 (IntKind.wrap .i64 (i_5 + 1)) (World.drew w7) < μ4 i_5 w7))))
  (R (Ending.returned (Value.bool true)) w7)))) :
  Calls Tryz.prog 75 #[(Value.slice a_1 a_1l a_1c), (Value.slice b_2 b_2l b_2c)] w R :=
  V.calls_of_R ⟨V.assoc [(0, [5])], V.assocP [(6, V.line [0, 1, 2, 3, 4, 5, 6, 7, 8])], V.assocC [], V.assocS [], ⟨[], true⟩⟩ Tryz.func75 rfl (Eq.mp (by kernel_rfl) h)

theorem berthref03_short_nf (s_1 : ByteArray) (w : World) (R : Ending → World → Prop) (h :
  V.sel (ByteArray.toList s_1 == ByteArray.toList ByteArray.empty)
  (R (Ending.returned (Value.bool false)) w)
  (V.sel (decide (((ByteArray.size s_1 : Nat) : Int) > 63))
  (R (Ending.returned (Value.bool false)) w)
  (∃ I2 : Int → World → Prop, ∃ μ3 : Int → World → Nat, I2 0 w ∧
  ∀ i_4 (j5 : Nat → Value) (w6 : World), I2 i_4 w6 →
  (V.sel (decide (i_4 < ((ByteArray.size s_1 : Nat) : Int)))
  (V.when (decide ((0 : Int) ≤ i_4 ∧ (i_4 : Int) < ((ByteArray.size s_1 : Nat) : Int))) (Calls Tryz.prog 85 #[(Value.int .u8 (V.byteAt s_1 i_4))] w6 fun e8 w9 =>
  ∃ b7, e8 = Ending.returned (Value.bool b7) ∧
  V.sel (!b7)
  (R (Ending.returned (Value.bool false)) w9)
  (I2 (IntKind.wrap .i64 (i_4 + 1)) w9 ∧ μ3 (IntKind.wrap .i64 (i_4 + 1)) w9 < μ3 i_4 w6)))
  (V.when (decide ((0 : Int) ≤ 0 ∧ (0 : Int) < ((ByteArray.size s_1 : Nat) : Int))) (Calls Tryz.prog 86 #[(Value.int .u8 (V.byteAt s_1 0))] w6 fun e11 w12 =>
  ∃ b10, e11 = Ending.returned (Value.bool b10) ∧
  V.sel b10
  (V.when (decide ((0 : Int) ≤ (IntKind.wrap .i64 (((ByteArray.size s_1 : Nat) : Int) - 1)) ∧ ((IntKind.wrap .i64 (((ByteArray.size s_1 : Nat) : Int) - 1)) : Int) < ((ByteArray.size s_1 : Nat) : Int))) (Calls Tryz.prog 86 #[(Value.int .u8 (V.byteAt s_1 (IntKind.wrap .i64 (((ByteArray.size s_1 : Nat) : Int) - 1))))] w12 fun e14 w15 =>
  ∃ b13, e14 = Ending.returned (Value.bool b13) ∧
  R (Ending.returned (Value.bool b13)) w15))
  (R (Ending.returned (Value.bool false)) w12))))))) :
  Calls Tryz.prog 84 #[(Value.string s_1)] w R :=
  V.calls_of_R ⟨V.assoc [(0, [3])], V.assocP [], V.assocC [], V.assocS [], ⟨[], true⟩⟩ Tryz.func84 rfl (Eq.mp (by kernel_rfl) h)

theorem berthref03_inner_nf (c_1 : Int) (w : World) (R : Ending → World → Prop) (h :
  Calls Tryz.prog 86 #[(Value.int .u8 c_1)] w fun e3 w4 =>
  ∃ b2, e3 = Ending.returned (Value.bool b2) ∧
  V.sel b2
  (R (Ending.returned (Value.bool true)) w4)
  (V.sel (c_1 == 45)
  (R (Ending.returned (Value.bool true)) w4)
  (V.sel (c_1 == 95)
  (R (Ending.returned (Value.bool true)) w4)
  (R (Ending.returned (Value.bool (c_1 == 46))) w4)))) :
  Calls Tryz.prog 85 #[(Value.int .u8 c_1)] w R :=
  V.calls_of_R ⟨V.assoc [], V.assocP [], V.assocC [], V.assocS [], ⟨[], true⟩⟩ Tryz.func85 rfl (Eq.mp (by kernel_rfl) h)

theorem berthref03_word_nf (c_1 : Int) (w : World) (R : Ending → World → Prop) (h :
  Calls Tryz.prog 120 #[(Value.int .u8 c_1)] w fun e3 w4 =>
  ∃ b2, e3 = Ending.returned (Value.bool b2) ∧
  V.sel b2
  (R (Ending.returned (Value.bool true)) w4)
  (V.sel (decide (c_1 ≥ 65))
  (R (Ending.returned (Value.bool (decide (c_1 ≤ 90)))) w4)
  (R (Ending.returned (Value.bool false)) w4))) :
  Calls Tryz.prog 86 #[(Value.int .u8 c_1)] w R :=
  V.calls_of_R ⟨V.assoc [], V.assocP [], V.assocC [], V.assocS [], ⟨[], true⟩⟩ Tryz.func86 rfl (Eq.mp (by kernel_rfl) h)

theorem berthref03_part_nf (s_1 : ByteArray) (w : World) (R : Ending → World → Prop) (h :
  V.sel (ByteArray.toList s_1 == ByteArray.toList ByteArray.empty)
  (R (Ending.returned (Value.bool false)) w)
  (∃ I2 : Int → World → Prop, ∃ μ3 : Int → World → Nat, I2 0 w ∧
  ∀ i_4 (j5 : Nat → Value) (w6 : World), I2 i_4 w6 →
  (V.sel (decide (i_4 < ((ByteArray.size s_1 : Nat) : Int)))
  (V.when (decide ((0 : Int) ≤ i_4 ∧ (i_4 : Int) < ((ByteArray.size s_1 : Nat) : Int))) (Calls Tryz.prog 120 #[(Value.int .u8 (V.byteAt s_1 i_4))] w6 fun e8 w9 =>
  ∃ b7, e8 = Ending.returned (Value.bool b7) ∧
  V.sel (!b7)
  (V.when (decide ((0 : Int) ≤ i_4 ∧ (i_4 : Int) < ((ByteArray.size s_1 : Nat) : Int))) (V.sel ((V.byteAt s_1 i_4) != 45)
  (R (Ending.returned (Value.bool false)) w9)
  (I2 (IntKind.wrap .i64 (i_4 + 1)) w9 ∧ μ3 (IntKind.wrap .i64 (i_4 + 1)) w9 < μ3 i_4 w6)))
  (I2 (IntKind.wrap .i64 (i_4 + 1)) w9 ∧ μ3 (IntKind.wrap .i64 (i_4 + 1)) w9 < μ3 i_4 w6)))
  (V.when (decide ((0 : Int) ≤ 0 ∧ (0 : Int) < ((ByteArray.size s_1 : Nat) : Int))) (Calls Tryz.prog 120 #[(Value.int .u8 (V.byteAt s_1 0))] w6 fun e11 w12 =>
  ∃ b10, e11 = Ending.returned (Value.bool b10) ∧
  V.sel b10
  (V.when (decide ((0 : Int) ≤ (IntKind.wrap .i64 (((ByteArray.size s_1 : Nat) : Int) - 1)) ∧ ((IntKind.wrap .i64 (((ByteArray.size s_1 : Nat) : Int) - 1)) : Int) < ((ByteArray.size s_1 : Nat) : Int))) (Calls Tryz.prog 120 #[(Value.int .u8 (V.byteAt s_1 (IntKind.wrap .i64 (((ByteArray.size s_1 : Nat) : Int) - 1))))] w12 fun e14 w15 =>
  ∃ b13, e14 = Ending.returned (Value.bool b13) ∧
  R (Ending.returned (Value.bool b13)) w15))
  (R (Ending.returned (Value.bool false)) w12)))))) :
  Calls Tryz.prog 91 #[(Value.string s_1)] w R :=
  V.calls_of_R ⟨V.assoc [(0, [3])], V.assocP [], V.assocC [], V.assocS [], ⟨[], true⟩⟩ Tryz.func91 rfl (Eq.mp (by kernel_rfl) h)

theorem strings_TrimPrefix_nf (s_1 : ByteArray) (prefix_2 : ByteArray) (w : World) (R : Ending → World → Prop) (h :
  Calls Tryz.prog 123 #[(Value.string s_1), (Value.string prefix_2)] w fun e4 w5 =>
  ∃ s3, e4 = Ending.returned (Value.string s3) ∧
  R (Ending.returned (Value.string s3)) w5) :
  Calls Tryz.prog 92 #[(Value.string s_1), (Value.string prefix_2)] w R :=
  V.calls_of_R ⟨V.assoc [], V.assocP [], V.assocC [], V.assocS [], ⟨[], true⟩⟩ Tryz.func92 rfl (Eq.mp (by kernel_rfl) h)

end Go.Proofs.YtcohengppaighaaGreatDoor
