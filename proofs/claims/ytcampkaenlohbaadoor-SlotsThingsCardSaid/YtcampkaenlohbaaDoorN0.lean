/- Normal forms of the program's functions, printed by a program of mine; the kernel checks each. -/
import Derived.Test.YtcampkaenlohbaaDoorProg
import Derived.Test.YtcampkaenlohbaaDoorV2
set_option linter.unusedVariables false
set_option maxRecDepth 100000
namespace Go.Proofs.YtcampkaenlohbaaDoor
open Go

theorem berthlaw05_SlotsFills_nf (most_1 : Int) (drops_2 : Option Addr) (drops_2l : Nat) (drops_2c : Nat) (w : World) (R : Ending → World → Prop) (h :
  Calls Tryd.prog 6 #[] w fun e4 w5 =>
  ∃ b3, e4 = Ending.returned (Value.bool b3) ∧
  V.sel (!b3)
  (R (Ending.returned (Value.bool false)) w5)
  (Calls Tryd.prog 7 #[(Value.int .i64 most_1)] w5 fun e8 w9 =>
  ∃ p6, ∃ n7, e8 = Ending.returned (Value.tuple #[(Value.pointer p6), (Value.int .i64 n7)]) ∧
  V.sel (decide (most_1 < 0))
  (V.sel (Option.isNone p6)
  (R (Ending.returned (Value.bool (n7 == 50))) w9)
  (R (Ending.returned (Value.bool false)) w9))
  (V.sel (decide (most_1 > 65536))
  (V.sel (Option.isNone p6)
  (R (Ending.returned (Value.bool (n7 == 50))) w9)
  (R (Ending.returned (Value.bool false)) w9))
  (V.sel (Option.isNone p6)
  (R (Ending.returned (Value.bool false)) w9)
  (V.sel (n7 != 0)
  (R (Ending.returned (Value.bool false)) w9)
  (∃ I10 : Int → World → Prop, ∃ μ11 : Int → World → Nat, I10 0 w9 ∧
  ∀ i_12 (j13 : Nat → Value) (w14 : World), I10 i_12 w14 →
  (V.sel (decide (i_12 < (if 200 < most_1 then 200 else most_1)))
  (Calls Tryd.prog 9 #[(Value.int .i64 i_12)] w14 fun e16 w17 =>
  ∃ s15, e16 = Ending.returned (Value.string s15) ∧
  V.when (decide (ByteArray.size ⟨#[110]⟩ + ByteArray.size s15 ≤ 9223372036854775807)) (Calls Tryd.prog 8 #[(Value.pointer p6), (Value.string (⟨#[110]⟩ ++ s15)), (Value.int .i64 i_12)] w17 fun e20 w21 =>
  ∃ n18, ∃ n19, e20 = Ending.returned (Value.tuple #[(Value.int .i64 n18), (Value.int .i64 n19)]) ∧
  Calls Tryd.prog 9 #[(Value.int .i64 i_12)] w21 fun e23 w24 =>
  ∃ s22, e23 = Ending.returned (Value.string s22) ∧
  V.when (decide (ByteArray.size ⟨#[110]⟩ + ByteArray.size s22 ≤ 9223372036854775807)) (Calls Tryd.prog 8 #[(Value.pointer p6), (Value.string (⟨#[110]⟩ ++ s22)), (Value.int .i64 i_12)] w24 fun e27 w28 =>
  ∃ n25, ∃ n26, e27 = Ending.returned (Value.tuple #[(Value.int .i64 n25), (Value.int .i64 n26)]) ∧
  Calls Tryd.prog 8 #[(Value.pointer p6), (Value.string ByteArray.empty), (Value.int .i64 i_12)] w28 fun e31 w32 =>
  ∃ n29, ∃ n30, e31 = Ending.returned (Value.tuple #[(Value.int .i64 n29), (Value.int .i64 n30)]) ∧
  V.sel (n18 != i_12)
  (R (Ending.returned (Value.bool false)) w32)
  (V.sel (n19 != 0)
  (R (Ending.returned (Value.bool false)) w32)
  (V.sel (n26 != 52)
  (R (Ending.returned (Value.bool false)) w32)
  (V.sel (n30 != 51)
  (R (Ending.returned (Value.bool false)) w32)
  (I10 (IntKind.wrap .i64 (i_12 + 1)) w32 ∧ μ11 (IntKind.wrap .i64 (i_12 + 1)) w32 < μ11 i_12 w14)))))))
  (V.sel (decide ((if 200 < most_1 then 200 else most_1) < most_1))
  (Calls Tryd.prog 10 #[(Value.pointer p6)] w14 fun e34 w35 =>
  ∃ n33, e34 = Ending.returned (Value.int .i64 n33) ∧
  R (Ending.returned (Value.bool (n33 == (if 200 < most_1 then 200 else most_1)))) w35)
  (∃ I36 : Int → World → Prop, ∃ μ37 : Int → World → Nat, I36 0 w14 ∧
  ∀ t103_38 (j39 : Nat → Value) (w40 : World), I36 t103_38 w40 →
  (V.sel (decide (t103_38 < ((drops_2l : Nat) : Int)))
  (V.when (decide ((0 : Int) ≤ t103_38 ∧ (t103_38 : Int) < ((drops_2l : Nat) : Int))) (V.ptr drops_2 fun a41 =>
  ∃ n42, World.cell? w40 (Addr.add a41 ((Int.toNat t103_38) * 1)) = some (Value.int .i64 n42) ∧
  Calls Tryd.prog 8 #[(Value.pointer p6), (Value.string ⟨#[109, 111, 114, 101]⟩), (Value.int .i64 0)] w40 fun e45 w46 =>
  ∃ n43, ∃ n44, e45 = Ending.returned (Value.tuple #[(Value.int .i64 n43), (Value.int .i64 n44)]) ∧
  V.sel (n44 != 53)
  (R (Ending.returned (Value.bool false)) w46)
  (Calls Tryd.prog 10 #[(Value.pointer p6)] w46 fun e48 w49 =>
  ∃ n47, e48 = Ending.returned (Value.int .i64 n47) ∧
  V.sel (n47 != (if 200 < most_1 then 200 else most_1))
  (R (Ending.returned (Value.bool false)) w49)
  (Calls Tryd.prog 11 #[(Value.pointer p6)] w49 fun e51 w52 =>
  ∃ n50, e51 = Ending.returned (Value.int .i64 n50) ∧
  V.sel (n50 != (if 200 < most_1 then 200 else most_1))
  (R (Ending.returned (Value.bool false)) w52)
  (V.sel ((if 200 < most_1 then 200 else most_1) == 0)
  (I36 (IntKind.wrap .i64 (t103_38 + 1)) w52 ∧ μ37 (IntKind.wrap .i64 (t103_38 + 1)) w52 < μ37 t103_38 w40)
  (V.when (decide ((if 200 < most_1 then 200 else most_1) ≠ 0)) (V.when (decide ((if 200 < most_1 then 200 else most_1) ≠ 0)) (V.lt (Int.tmod (IntKind.wrap .i64 ((Int.tmod n42 (if 200 < most_1 then 200 else most_1)) + (if 200 < most_1 then 200 else most_1))) (if 200 < most_1 then 200 else most_1)) fun x53 =>
  Calls Tryd.prog 9 #[(Value.int .i64 x53)] w52 fun e55 w56 =>
  ∃ s54, e55 = Ending.returned (Value.string s54) ∧
  V.when (decide (ByteArray.size ⟨#[110]⟩ + ByteArray.size s54 ≤ 9223372036854775807)) (Calls Tryd.prog 12 #[(Value.pointer p6), (Value.string (⟨#[110]⟩ ++ s54))] w56 fun e59 w60 =>
  ∃ n57, ∃ n58, e59 = Ending.returned (Value.tuple #[(Value.int .i64 n57), (Value.int .i64 n58)]) ∧
  Calls Tryd.prog 9 #[(Value.int .i64 x53)] w60 fun e62 w63 =>
  ∃ s61, e62 = Ending.returned (Value.string s61) ∧
  V.when (decide (ByteArray.size ⟨#[110]⟩ + ByteArray.size s61 ≤ 9223372036854775807)) (Calls Tryd.prog 8 #[(Value.pointer p6), (Value.string (⟨#[110]⟩ ++ s61)), (Value.int .i64 x53)] w63 fun e66 w67 =>
  ∃ n64, ∃ n65, e66 = Ending.returned (Value.tuple #[(Value.int .i64 n64), (Value.int .i64 n65)]) ∧
  V.sel (n58 != 0)
  (R (Ending.returned (Value.bool false)) w67)
  (V.sel (n65 != 0)
  (R (Ending.returned (Value.bool false)) w67)
  (V.sel (n57 != x53)
  (R (Ending.returned (Value.bool false)) w67)
  (V.sel (n64 != x53)
  (R (Ending.returned (Value.bool false)) w67)
  (I36 (IntKind.wrap .i64 (t103_38 + 1)) w67 ∧ μ37 (IntKind.wrap .i64 (t103_38 + 1)) w67 < μ37 t103_38 w40))))))))))))))
  (R (Ending.returned (Value.bool true)) w40))))))))))) :
  Calls Tryd.prog 3 #[(Value.int .i64 most_1), (Value.slice drops_2 drops_2l drops_2c)] w R :=
  V.calls_of_R ⟨V.assoc [(0, [8]), (1, [103])], V.assocP [], V.assocC [], V.assocS [], ⟨[], true⟩⟩ Tryd.func3 rfl (Eq.mp (by kernel_rfl) h)

theorem berthlaw05_SlotsMemory_nf (script_1 : Option Addr) (script_1l : Nat) (script_1c : Nat) (w : World) (R : Ending → World → Prop) (h :
  Calls Tryd.prog 6 #[] w fun e3 w4 =>
  ∃ b2, e3 = Ending.returned (Value.bool b2) ∧
  V.sel (!b2)
  (R (Ending.returned (Value.bool false)) w4)
  (Calls Tryd.prog 33 #[] w4 fun e7 w8 =>
  ∃ p5, ∃ b6, e7 = Ending.returned (Value.tuple #[(Value.pointer p5), (Value.bool b6)]) ∧
  V.sel (!b6)
  (R (Ending.returned (Value.bool false)) w8)
  (∃ I9 : Int → World → Prop, ∃ μ10 : Int → World → Nat, I9 0 w8 ∧
  ∀ t35_11 (j12 : Nat → Value) (w13 : World), I9 t35_11 w13 →
  (V.sel (decide (t35_11 < ((script_1l : Nat) : Int)))
  (V.when (decide ((0 : Int) ≤ t35_11 ∧ (t35_11 : Int) < ((script_1l : Nat) : Int))) (V.ptr script_1 fun a14 =>
  ∃ n15, ∃ n16, ∃ n17, ∃ s18, ∃ n19, V.cellsC (fun a_ x_ => World.cell? w13 a_ = some x_) (Addr.add a14 ((Int.toNat t35_11) * 5)) [(Value.int .i64 n15), (Value.int .i64 n16), (Value.int .i64 n17), (Value.string s18), (Value.int .i64 n19)] ∧
  ∀ w20, w20 = (World.alloc w13 (.cells #[(Value.int .i64 0), (Value.int .i64 0), (Value.int .i64 0), (Value.string ByteArray.empty), (Value.int .i64 0)] 49)) →
  ∃ w21, Sem.run Tryd.prog (Instr.storeAt 49 (Value.pointer (some ⟨Array.size (World.heap w13), 0, none⟩)) (Value.agg #[(Value.int .i64 n15), (Value.int .i64 n16), (Value.int .i64 n17), (Value.string s18), (Value.int .i64 n19)])) w20 = .ok () w21 ∧
  ∃ n22, ∃ n23, ∃ n24, ∃ s25, ∃ n26, V.cellsC (fun a_ x_ => World.cell? w21 a_ = some x_) ⟨Array.size (World.heap w13), 0, none⟩ [(Value.int .i64 n22), (Value.int .i64 n23), (Value.int .i64 n24), (Value.string s25), (Value.int .i64 n26)] ∧
  Calls Tryd.prog 34 #[(Value.pointer p5), (Value.agg #[(Value.int .i64 n22), (Value.int .i64 n23), (Value.int .i64 n24), (Value.string s25), (Value.int .i64 n26)])] w21 fun e28 w29 =>
  ∃ b27, e28 = Ending.returned (Value.bool b27) ∧
  V.sel (!b27)
  (R (Ending.returned (Value.bool false)) w29)
  (I9 (IntKind.wrap .i64 (t35_11 + 1)) w29 ∧ μ10 (IntKind.wrap .i64 (t35_11 + 1)) w29 < μ10 t35_11 w13)))
  (∃ I30 : Int → World → Prop, ∃ μ31 : Int → World → Nat, I30 0 w13 ∧
  ∀ t44_32 (j33 : Nat → Value) (w34 : World), I30 t44_32 w34 →
  (V.sel (decide (t44_32 < 4))
  (V.ptr p5 fun a35 =>
  V.when (decide ((0 : Int) ≤ t44_32 ∧ (t44_32 : Int) < 4)) (∃ n36, ∃ A37, ∃ A37l, ∃ A37c, V.cellsC (fun a_ x_ => World.cell? w34 a_ = some x_) (Addr.add (Addr.add a35 4) ((Int.toNat t44_32) * 2)) [(Value.int .i64 n36), (Value.slice A37 A37l A37c)] ∧
  Calls Tryd.prog 31 #[(Value.agg #[(Value.int .i64 n36), (Value.slice A37 A37l A37c)])] w34 fun e39 w40 =>
  ∃ A38, ∃ A38l, ∃ A38c, e39 = Ending.returned (Value.slice A38 A38l A38c) ∧
  ∃ I41 : Option Addr → Nat → Nat → Int → World → Prop, ∃ μ42 : Option Addr → Nat → Nat → Int → World → Nat, I41 none 0 0 0 w40 ∧
  ∀ lists_43 lists_43l lists_43c k_44 (j45 : Nat → Value) (w46 : World), I41 lists_43 lists_43l lists_43c k_44 w46 →
  (V.sel (decide (k_44 < 18))
  (V.ptr p5 fun a47 =>
  V.when (decide ((0 : Int) ≤ t44_32 ∧ (t44_32 : Int) < 4)) (∃ p48, World.cell? w46 (Addr.add (Addr.add a47 0) ((Int.toNat t44_32) * 1)) = some (Value.pointer p48) ∧
  Calls Tryd.prog 35 #[(Value.pointer p48)] w46 fun e50 w51 =>
  ∃ A49, ∃ A49l, ∃ A49c, e50 = Ending.returned (Value.slice A49 A49l A49c) ∧
  Calls Tryd.prog 29 #[(Value.slice A49 A49l A49c), (Value.slice A38 A38l A38c)] w51 fun e53 w54 =>
  ∃ b52, e53 = Ending.returned (Value.bool b52) ∧
  V.sel (!b52)
  (R (Ending.returned (Value.bool false)) w54)
  (∀ w55, w55 = (World.alloc w54 (.cells #[(Value.slice A49 A49l A49c)] 68)) →
  ∃ A56, ∃ A56l, ∃ A56c, ∃ w57, Sem.run Tryd.prog (Builtin.append_ #[79, 79] 79 #[(Value.slice lists_43 lists_43l lists_43c), (Value.slice (some ⟨Array.size (World.heap w54), 0, none⟩) 1 1)]) w55 = .ok (Value.slice A56 A56l A56c) w57 ∧
  I41 A56 A56l A56c (IntKind.wrap .i64 (k_44 + 1)) w57 ∧ μ42 A56 A56l A56c (IntKind.wrap .i64 (k_44 + 1)) w57 < μ42 lists_43 lists_43l lists_43c k_44 w46)))
  (∃ I58 : Int → World → Prop, ∃ μ59 : Int → World → Nat, I58 0 w46 ∧
  ∀ t75_60 (j61 : Nat → Value) (w62 : World), I58 t75_60 w62 →
  (V.sel (decide (t75_60 < ((lists_43l : Nat) : Int)))
  (V.when (decide ((0 : Int) ≤ t75_60 ∧ (t75_60 : Int) < ((lists_43l : Nat) : Int))) (V.ptr lists_43 fun a63 =>
  ∃ A64, ∃ A64l, ∃ A64c, World.cell? w62 (Addr.add a63 ((Int.toNat t75_60) * 1)) = some (Value.slice A64 A64l A64c) ∧
  Calls Tryd.prog 29 #[(Value.slice A64 A64l A64c), (Value.slice A38 A38l A38c)] w62 fun e66 w67 =>
  ∃ b65, e66 = Ending.returned (Value.bool b65) ∧
  V.sel (!b65)
  (R (Ending.returned (Value.bool false)) w67)
  (I58 (IntKind.wrap .i64 (t75_60 + 1)) w67 ∧ μ59 (IntKind.wrap .i64 (t75_60 + 1)) w67 < μ59 t75_60 w62)))
  (∃ I68 : Int → World → Prop, ∃ μ69 : Int → World → Nat, I68 0 w62 ∧
  ∀ t86_70 (j71 : Nat → Value) (w72 : World), I68 t86_70 w72 →
  (V.sel (decide (t86_70 < ((lists_43l : Nat) : Int)))
  (V.when (decide ((0 : Int) ≤ t86_70 ∧ (t86_70 : Int) < ((lists_43l : Nat) : Int))) (V.ptr lists_43 fun a73 =>
  ∃ A74, ∃ A74l, ∃ A74c, World.cell? w72 (Addr.add a73 ((Int.toNat t86_70) * 1)) = some (Value.slice A74 A74l A74c) ∧
  ∃ I75 : Int → World → Prop, ∃ μ76 : Int → World → Nat, I75 0 w72 ∧
  ∀ t93_77 (j78 : Nat → Value) (w79 : World), I75 t93_77 w79 →
  (V.sel (decide (t93_77 < ((A74l : Nat) : Int)))
  (Calls Tryd.prog 9 #[(Value.int .i64 t86_70)] w79 fun e81 w82 =>
  ∃ s80, e81 = Ending.returned (Value.string s80) ∧
  V.when (decide (ByteArray.size ⟨#[126]⟩ + ByteArray.size s80 ≤ 9223372036854775807)) (V.when (decide (ByteArray.size (⟨#[126]⟩ ++ s80) + ByteArray.size ⟨#[126]⟩ ≤ 9223372036854775807)) (Calls Tryd.prog 9 #[(Value.int .i64 t93_77)] w82 fun e84 w85 =>
  ∃ s83, e84 = Ending.returned (Value.string s83) ∧
  V.when (decide (ByteArray.size ((⟨#[126]⟩ ++ s80) ++ ⟨#[126]⟩) + ByteArray.size s83 ≤ 9223372036854775807)) (V.when (decide ((0 : Int) ≤ t93_77 ∧ (t93_77 : Int) < ((A74l : Nat) : Int))) (V.ptr A74 fun a86 =>
  ∃ w87, Sem.run Tryd.prog (Instr.storeAt 9 (Value.pointer (some (Addr.add a86 ((Int.toNat t93_77) * 1)))) (Value.string (((⟨#[126]⟩ ++ s80) ++ ⟨#[126]⟩) ++ s83))) w85 = .ok () w87 ∧
  I75 (IntKind.wrap .i64 (t93_77 + 1)) w87 ∧ μ76 (IntKind.wrap .i64 (t93_77 + 1)) w87 < μ76 t93_77 w79)))))
  (I68 (IntKind.wrap .i64 (t86_70 + 1)) w79 ∧ μ69 (IntKind.wrap .i64 (t86_70 + 1)) w79 < μ69 t86_70 w72))))
  (∃ I88 : Option Addr → Nat → Nat → Int → World → Prop, ∃ μ89 : Option Addr → Nat → Nat → Int → World → Nat, I88 none 0 0 0 w72 ∧
  ∀ grown_90 grown_90l grown_90c t110_91 (j92 : Nat → Value) (w93 : World), I88 grown_90 grown_90l grown_90c t110_91 w93 →
  (V.sel (decide (t110_91 < ((lists_43l : Nat) : Int)))
  (V.when (decide ((0 : Int) ≤ t110_91 ∧ (t110_91 : Int) < ((lists_43l : Nat) : Int))) (V.ptr lists_43 fun a94 =>
  ∃ A95, ∃ A95l, ∃ A95c, World.cell? w93 (Addr.add a94 ((Int.toNat t110_91) * 1)) = some (Value.slice A95 A95l A95c) ∧
  ∃ I96 : Option Addr → Nat → Nat → Int → World → Prop, ∃ μ97 : Option Addr → Nat → Nat → Int → World → Nat, I96 A95 A95l A95c 0 w93 ∧
  ∀ g_98 g_98l g_98c j_99 (j100 : Nat → Value) (w101 : World), I96 g_98 g_98l g_98c j_99 w101 →
  (V.sel (decide (j_99 < 64))
  (Calls Tryd.prog 9 #[(Value.int .i64 t110_91)] w101 fun e103 w104 =>
  ∃ s102, e103 = Ending.returned (Value.string s102) ∧
  V.when (decide (ByteArray.size ⟨#[43]⟩ + ByteArray.size s102 ≤ 9223372036854775807)) (∀ w105, w105 = (World.alloc w104 (.cells #[(Value.string (⟨#[43]⟩ ++ s102))] 9)) →
  ∃ A106, ∃ A106l, ∃ A106c, ∃ w107, Sem.run Tryd.prog (Builtin.append_ #[68, 68] 68 #[(Value.slice g_98 g_98l g_98c), (Value.slice (some ⟨Array.size (World.heap w104), 0, none⟩) 1 1)]) w105 = .ok (Value.slice A106 A106l A106c) w107 ∧
  I96 A106 A106l A106c (IntKind.wrap .i64 (j_99 + 1)) w107 ∧ μ97 A106 A106l A106c (IntKind.wrap .i64 (j_99 + 1)) w107 < μ97 g_98 g_98l g_98c j_99 w101))
  (Calls Tryd.prog 9 #[(Value.int .i64 t110_91)] w101 fun e109 w110 =>
  ∃ s108, e109 = Ending.returned (Value.string s108) ∧
  V.when (decide (ByteArray.size ⟨#[42]⟩ + ByteArray.size s108 ≤ 9223372036854775807)) (∀ w111, w111 = (World.alloc w110 (.cells #[(Value.string (⟨#[42]⟩ ++ s108))] 9)) →
  ∃ A112, ∃ A112l, ∃ A112c, ∃ w113, Sem.run Tryd.prog (Builtin.append_ #[68, 68] 68 #[(Value.slice A95 A95l A95c), (Value.slice (some ⟨Array.size (World.heap w110), 0, none⟩) 1 1)]) w111 = .ok (Value.slice A112 A112l A112c) w113 ∧
  ∀ w114, w114 = (World.alloc w113 (.cells #[(Value.slice A112 A112l A112c)] 68)) →
  ∃ A115, ∃ A115l, ∃ A115c, ∃ w116, Sem.run Tryd.prog (Builtin.append_ #[79, 79] 79 #[(Value.slice grown_90 grown_90l grown_90c), (Value.slice (some ⟨Array.size (World.heap w113), 0, none⟩) 1 1)]) w114 = .ok (Value.slice A115 A115l A115c) w116 ∧
  I88 A115 A115l A115c (IntKind.wrap .i64 (t110_91 + 1)) w116 ∧ μ89 A115 A115l A115c (IntKind.wrap .i64 (t110_91 + 1)) w116 < μ89 grown_90 grown_90l grown_90c t110_91 w93)))))
  (∃ I117 : Int → World → Prop, ∃ μ118 : Int → World → Nat, I117 0 w93 ∧
  ∀ t138_119 (j120 : Nat → Value) (w121 : World), I117 t138_119 w121 →
  (V.sel (decide (t138_119 < ((lists_43l : Nat) : Int)))
  (V.when (decide ((0 : Int) ≤ t138_119 ∧ (t138_119 : Int) < ((lists_43l : Nat) : Int))) (V.ptr lists_43 fun a122 =>
  ∃ A123, ∃ A123l, ∃ A123c, World.cell? w121 (Addr.add a122 ((Int.toNat t138_119) * 1)) = some (Value.slice A123 A123l A123c) ∧
  ∃ I124 : Int → World → Prop, ∃ μ125 : Int → World → Nat, I124 0 w121 ∧
  ∀ t145_126 (j127 : Nat → Value) (w128 : World), I124 t145_126 w128 →
  (V.sel (decide (t145_126 < ((A123l : Nat) : Int)))
  (∃ S129 : World → Prop, S129 (World.drew w128) ∧
  V.when (decide ((0 : Int) ≤ t145_126 ∧ (t145_126 : Int) < ((A123l : Nat) : Int))) (V.ptr A123 fun a131 =>
  ∃ s132, (∀ w130, S129 w130 → World.cell? w130 (Addr.add a131 ((Int.toNat t145_126) * 1)) = some (Value.string s132)) ∧
  Calls Tryd.prog 9 #[(Value.int .i64 t138_119)] (World.drew w128) fun e134 w135 =>
  ∃ s133, e134 = Ending.returned (Value.string s133) ∧
  S129 w135 ∧
  V.when (decide (ByteArray.size ⟨#[126]⟩ + ByteArray.size s133 ≤ 9223372036854775807)) (V.when (decide (ByteArray.size (⟨#[126]⟩ ++ s133) + ByteArray.size ⟨#[126]⟩ ≤ 9223372036854775807)) (Calls Tryd.prog 9 #[(Value.int .i64 t145_126)] w135 fun e137 w138 =>
  ∃ s136, e137 = Ending.returned (Value.string s136) ∧
  S129 w138 ∧
  V.when (decide (ByteArray.size ((⟨#[126]⟩ ++ s133) ++ ⟨#[126]⟩) + ByteArray.size s136 ≤ 9223372036854775807)) (V.sel (!(ByteArray.toList s132 == ByteArray.toList (((⟨#[126]⟩ ++ s133) ++ ⟨#[126]⟩) ++ s136)))
  (R (Ending.returned (Value.bool false)) w138)
  (I124 (IntKind.wrap .i64 (t145_126 + 1)) w138 ∧ μ125 (IntKind.wrap .i64 (t145_126 + 1)) w138 < μ125 t145_126 w128))))))
  (∃ S139 : World → Prop, S139 (World.drew w128) ∧
  V.when (decide ((0 : Int) ≤ t138_119 ∧ (t138_119 : Int) < ((grown_90l : Nat) : Int))) (V.ptr grown_90 fun a141 =>
  ∃ A142, ∃ A142l, ∃ A142c, (∀ w140, S139 w140 → World.cell? w140 (Addr.add a141 ((Int.toNat t138_119) * 1)) = some (Value.slice A142 A142l A142c)) ∧
  V.when (decide ((0 : Int) ≤ ((A123l : Nat) : Int) ∧ (((A123l : Nat) : Int) : Int) < ((A142l : Nat) : Int))) (V.ptr A142 fun a143 =>
  ∃ s144, (∀ w140, S139 w140 → World.cell? w140 (Addr.add a143 ((A123l : Nat) * 1)) = some (Value.string s144)) ∧
  Calls Tryd.prog 9 #[(Value.int .i64 t138_119)] (World.drew w128) fun e146 w147 =>
  ∃ s145, e146 = Ending.returned (Value.string s145) ∧
  S139 w147 ∧
  V.when (decide (ByteArray.size ⟨#[42]⟩ + ByteArray.size s145 ≤ 9223372036854775807)) (V.sel (!(ByteArray.toList s144 == ByteArray.toList (⟨#[42]⟩ ++ s145)))
  (R (Ending.returned (Value.bool false)) w147)
  (I117 (IntKind.wrap .i64 (t138_119 + 1)) w147 ∧ μ118 (IntKind.wrap .i64 (t138_119 + 1)) w147 < μ118 t138_119 w121))))))))
  (∃ S148 : World → Prop, S148 (World.drew w121) ∧
  V.ptr p5 fun a150 =>
  V.when (decide ((0 : Int) ≤ t44_32 ∧ (t44_32 : Int) < 4)) (∃ p151, (∀ w149, S148 w149 → World.cell? w149 (Addr.add (Addr.add a150 0) ((Int.toNat t44_32) * 1)) = some (Value.pointer p151)) ∧
  V.ptr p5 fun a152 =>
  V.when (decide ((0 : Int) ≤ t44_32 ∧ (t44_32 : Int) < 4)) (∃ n153, ∃ A154, ∃ A154l, ∃ A154c, V.cellsC (fun a_ x_ => ∀ w149, S148 w149 → World.cell? w149 a_ = some x_) (Addr.add (Addr.add a152 4) ((Int.toNat t44_32) * 2)) [(Value.int .i64 n153), (Value.slice A154 A154l A154c)] ∧
  Calls Tryd.prog 36 #[(Value.pointer p151), (Value.agg #[(Value.int .i64 n153), (Value.slice A154 A154l A154c)])] (World.drew w121) fun e156 w157 =>
  ∃ b155, e156 = Ending.returned (Value.bool b155) ∧
  S148 w157 ∧
  V.sel (!b155)
  (R (Ending.returned (Value.bool false)) w157)
  (I30 (IntKind.wrap .i64 (t44_32 + 1)) w157 ∧ μ31 (IntKind.wrap .i64 (t44_32 + 1)) w157 < μ31 t44_32 w34)))))))))))))))
  (R (Ending.returned (Value.bool true)) w34))))))) :
  Calls Tryd.prog 5 #[(Value.slice script_1 script_1l script_1c)] w R :=
  V.calls_of_R ⟨V.assoc [(0, [35]), (1, [44]), (2, [9, 10]), (3, [75]), (4, [86]), (5, [93]), (6, [17, 110]), (7, [20, 21]), (8, [138]), (9, [145])], V.assocP [(56, V.line [0, 1, 2, 3, 4, 8, 5, 6, 7, 9, 10, 11]), (59, V.line [0, 1, 2, 3, 4, 5, 6, 7, 8, 9, 10, 11]), (62, V.line [0, 1, 2, 3, 4, 5, 6, 7, 8, 9, 10, 11, 12, 13])], V.assocC [], V.assocS [], ⟨[], true⟩⟩ Tryd.func5 rfl (Eq.mp (by kernel_rfl) h)

theorem berthlaw05_fixed_nf  (w : World) (R : Ending → World → Prop) (h :
  Calls Tryd.prog 7 #[(Value.int .i64 2)] w fun e3 w4 =>
  ∃ p1, ∃ n2, e3 = Ending.returned (Value.tuple #[(Value.pointer p1), (Value.int .i64 n2)]) ∧
  V.sel (Option.isNone p1)
  (R (Ending.returned (Value.bool false)) w4)
  (V.sel (n2 != 0)
  (R (Ending.returned (Value.bool false)) w4)
  (Calls Tryd.prog 8 #[(Value.pointer p1), (Value.string ⟨#[98]⟩), (Value.int .i64 7)] w4 fun e7 w8 =>
  ∃ n5, ∃ n6, e7 = Ending.returned (Value.tuple #[(Value.int .i64 n5), (Value.int .i64 n6)]) ∧
  Calls Tryd.prog 8 #[(Value.pointer p1), (Value.string ⟨#[97]⟩), (Value.int .i64 8)] w8 fun e11 w12 =>
  ∃ n9, ∃ n10, e11 = Ending.returned (Value.tuple #[(Value.int .i64 n9), (Value.int .i64 n10)]) ∧
  Calls Tryd.prog 8 #[(Value.pointer p1), (Value.string ⟨#[99]⟩), (Value.int .i64 9)] w12 fun e15 w16 =>
  ∃ n13, ∃ n14, e15 = Ending.returned (Value.tuple #[(Value.int .i64 n13), (Value.int .i64 n14)]) ∧
  Calls Tryd.prog 12 #[(Value.pointer p1), (Value.string ⟨#[98]⟩)] w16 fun e19 w20 =>
  ∃ n17, ∃ n18, e19 = Ending.returned (Value.tuple #[(Value.int .i64 n17), (Value.int .i64 n18)]) ∧
  Calls Tryd.prog 8 #[(Value.pointer p1), (Value.string ⟨#[99]⟩), (Value.int .i64 5)] w20 fun e23 w24 =>
  ∃ n21, ∃ n22, e23 = Ending.returned (Value.tuple #[(Value.int .i64 n21), (Value.int .i64 n22)]) ∧
  V.sel (n5 == 0)
  (V.sel (n6 == 0)
  (V.sel (n9 == 1)
  (V.sel (n10 == 0)
  (V.sel (n14 == 53)
  (V.sel (n17 == 0)
  (V.sel (n18 == 0)
  (V.sel (n21 == 0)
  (R (Ending.returned (Value.bool (n22 == 0))) w24)
  (R (Ending.returned (Value.bool false)) w24))
  (R (Ending.returned (Value.bool false)) w24))
  (R (Ending.returned (Value.bool false)) w24))
  (R (Ending.returned (Value.bool false)) w24))
  (R (Ending.returned (Value.bool false)) w24))
  (R (Ending.returned (Value.bool false)) w24))
  (R (Ending.returned (Value.bool false)) w24))
  (R (Ending.returned (Value.bool false)) w24)))) :
  Calls Tryd.prog 6 #[] w R :=
  V.calls_of_R ⟨V.assoc [], V.assocP [], V.assocC [], V.assocS [], ⟨[], true⟩⟩ Tryd.func6 rfl (Eq.mp (by kernel_rfl) h)

theorem slots_New_int__nf (most_1 : Int) (w : World) (R : Ending → World → Prop) (h :
  V.sel (decide (most_1 < 0))
  (R (Ending.returned (Value.tuple #[(Value.pointer none), (Value.int .i64 50)])) w)
  (V.sel (decide (most_1 > 65536))
  (R (Ending.returned (Value.tuple #[(Value.pointer none), (Value.int .i64 50)])) w)
  (∀ w2, w2 = (World.alloc w (.map #[] 0)) →
  ∀ w3, w3 = (World.alloc w2 (.cells #[(Value.int .i64 most_1), (Value.map (some (Array.size (World.heap w)))), (Value.slice none 0 0), (Value.int .i64 0)] 84)) →
  R (Ending.returned (Value.tuple #[(Value.pointer (some ⟨Array.size (World.heap w2), 0, none⟩)), (Value.int .i64 0)])) w3))) :
  Calls Tryd.prog 7 #[(Value.int .i64 most_1)] w R :=
  V.calls_of_R ⟨V.assoc [], V.assocP [], V.assocC [], V.assocS [], ⟨[], true⟩⟩ Tryd.func7 rfl (Eq.mp (by kernel_rfl) h)

theorem slots_Table_int__Put_nf (t_1 : Option Addr) (name_2 : ByteArray) (v_3 : Int) (w : World) (R : Ending → World → Prop) (h :
  Calls Tryd.prog 37 #[(Value.pointer t_1), (Value.string name_2)] w fun e6 w7 =>
  ∃ n4, ∃ n5, e6 = Ending.returned (Value.tuple #[(Value.int .i64 n4), (Value.int .i64 n5)]) ∧
  V.sel (n5 == 0)
  (R (Ending.returned (Value.tuple #[(Value.int .i64 0), (Value.int .i64 52)])) w7)
  (V.sel (n5 != 54)
  (R (Ending.returned (Value.tuple #[(Value.int .i64 0), (Value.int .i64 n5)])) w7)
  (V.ptr t_1 fun a8 =>
  ∃ m9, World.cell? w7 (Addr.add a8 1) = some (Value.map m9) ∧
  ∃ n10, Sem.run Tryd.prog (Builtin.len_ #[81] 3 #[(Value.map m9)]) (World.drew w7) = .ok (Value.int .i64 n10) (World.drew w7) ∧
  V.ptr t_1 fun a11 =>
  ∃ n12, World.cell? w7 (Addr.add a11 0) = some (Value.int .i64 n12) ∧
  V.sel (decide (n10 ≥ n12))
  (R (Ending.returned (Value.tuple #[(Value.int .i64 0), (Value.int .i64 53)])) (World.drew w7))
  (V.ptr t_1 fun a13 =>
  ∃ n14, World.cell? (World.drew w7) (Addr.add a13 3) = some (Value.int .i64 n14) ∧
  ∃ I15 : Int → World → Prop, ∃ μ16 : Int → World → Nat, I15 n14 (World.drew w7) ∧
  ∀ slot_17 (j18 : Nat → Value) (w19 : World), I15 slot_17 w19 →
  (V.ptr t_1 fun a20 =>
  ∃ A21, ∃ A21l, ∃ A21c, World.cell? w19 (Addr.add a20 2) = some (Value.slice A21 A21l A21c) ∧
  V.sel (decide (slot_17 < ((A21l : Nat) : Int)))
  (V.ptr t_1 fun a22 =>
  ∃ A23, ∃ A23l, ∃ A23c, World.cell? w19 (Addr.add a22 2) = some (Value.slice A23 A23l A23c) ∧
  V.when (decide ((0 : Int) ≤ slot_17 ∧ (slot_17 : Int) < ((A23l : Nat) : Int))) (V.ptr A23 fun a24 =>
  ∃ b25, World.cell? w19 (Addr.add (Addr.add a24 ((Int.toNat slot_17) * 3)) 0) = some (Value.bool b25) ∧
  V.sel b25
  (I15 (IntKind.wrap .i64 (slot_17 + 1)) w19 ∧ μ16 (IntKind.wrap .i64 (slot_17 + 1)) w19 < μ16 slot_17 w19)
  (V.ptr t_1 fun a26 =>
  ∃ A27, ∃ A27l, ∃ A27c, World.cell? w19 (Addr.add a26 2) = some (Value.slice A27 A27l A27c) ∧
  V.sel (slot_17 == ((A27l : Nat) : Int))
  (V.ptr t_1 fun a28 =>
  ∃ A29, ∃ A29l, ∃ A29c, World.cell? w19 (Addr.add a28 2) = some (Value.slice A29 A29l A29c) ∧
  ∀ w30, w30 = (World.alloc w19 (.cells #[(Value.bool false), (Value.string ByteArray.empty), (Value.int .i64 0)] 86)) →
  ∃ A31, ∃ A31l, ∃ A31c, ∃ w32, Sem.run Tryd.prog (Builtin.append_ #[82, 82] 82 #[(Value.slice A29 A29l A29c), (Value.slice (some ⟨Array.size (World.heap w19), 0, none⟩) 1 1)]) w30 = .ok (Value.slice A31 A31l A31c) w32 ∧
  V.ptr t_1 fun a33 =>
  ∃ w34, Sem.run Tryd.prog (Instr.storeAt 82 (Value.pointer (some (Addr.add a33 2))) (Value.slice A31 A31l A31c)) w32 = .ok () w34 ∧
  V.ptr t_1 fun a35 =>
  ∃ A36, ∃ A36l, ∃ A36c, World.cell? w34 (Addr.add a35 2) = some (Value.slice A36 A36l A36c) ∧
  V.when (decide ((0 : Int) ≤ slot_17 ∧ (slot_17 : Int) < ((A36l : Nat) : Int))) (V.ptr A36 fun a37 =>
  ∃ w38, Sem.run Tryd.prog (Instr.storeAt 86 (Value.pointer (some (Addr.add a37 ((Int.toNat slot_17) * 3)))) (Value.agg #[(Value.bool true), (Value.string name_2), (Value.int .i64 v_3)])) w34 = .ok () w38 ∧
  V.ptr t_1 fun a39 =>
  ∃ m40, World.cell? w38 (Addr.add a39 1) = some (Value.map m40) ∧
  ∃ w41, Sem.run Tryd.prog (Instr.mapUpdate 81 (Value.map m40) (Value.string name_2) (Value.int .i64 slot_17)) w38 = .ok () w41 ∧
  V.ptr t_1 fun a42 =>
  ∃ w43, Sem.run Tryd.prog (Instr.storeAt 3 (Value.pointer (some (Addr.add a42 3))) (Value.int .i64 (IntKind.wrap .i64 (slot_17 + 1)))) w41 = .ok () w43 ∧
  R (Ending.returned (Value.tuple #[(Value.int .i64 slot_17), (Value.int .i64 0)])) w43))
  (V.ptr t_1 fun a44 =>
  ∃ A45, ∃ A45l, ∃ A45c, World.cell? w19 (Addr.add a44 2) = some (Value.slice A45 A45l A45c) ∧
  V.when (decide ((0 : Int) ≤ slot_17 ∧ (slot_17 : Int) < ((A45l : Nat) : Int))) (V.ptr A45 fun a46 =>
  ∃ w47, Sem.run Tryd.prog (Instr.storeAt 86 (Value.pointer (some (Addr.add a46 ((Int.toNat slot_17) * 3)))) (Value.agg #[(Value.bool true), (Value.string name_2), (Value.int .i64 v_3)])) w19 = .ok () w47 ∧
  V.ptr t_1 fun a48 =>
  ∃ m49, World.cell? w47 (Addr.add a48 1) = some (Value.map m49) ∧
  ∃ w50, Sem.run Tryd.prog (Instr.mapUpdate 81 (Value.map m49) (Value.string name_2) (Value.int .i64 slot_17)) w47 = .ok () w50 ∧
  V.ptr t_1 fun a51 =>
  ∃ w52, Sem.run Tryd.prog (Instr.storeAt 3 (Value.pointer (some (Addr.add a51 3))) (Value.int .i64 (IntKind.wrap .i64 (slot_17 + 1)))) w50 = .ok () w52 ∧
  R (Ending.returned (Value.tuple #[(Value.int .i64 slot_17), (Value.int .i64 0)])) w52)))))
  (V.ptr t_1 fun a53 =>
  ∃ A54, ∃ A54l, ∃ A54c, World.cell? w19 (Addr.add a53 2) = some (Value.slice A54 A54l A54c) ∧
  V.sel (slot_17 == ((A54l : Nat) : Int))
  (V.ptr t_1 fun a55 =>
  ∃ A56, ∃ A56l, ∃ A56c, World.cell? w19 (Addr.add a55 2) = some (Value.slice A56 A56l A56c) ∧
  ∀ w57, w57 = (World.alloc w19 (.cells #[(Value.bool false), (Value.string ByteArray.empty), (Value.int .i64 0)] 86)) →
  ∃ A58, ∃ A58l, ∃ A58c, ∃ w59, Sem.run Tryd.prog (Builtin.append_ #[82, 82] 82 #[(Value.slice A56 A56l A56c), (Value.slice (some ⟨Array.size (World.heap w19), 0, none⟩) 1 1)]) w57 = .ok (Value.slice A58 A58l A58c) w59 ∧
  V.ptr t_1 fun a60 =>
  ∃ w61, Sem.run Tryd.prog (Instr.storeAt 82 (Value.pointer (some (Addr.add a60 2))) (Value.slice A58 A58l A58c)) w59 = .ok () w61 ∧
  V.ptr t_1 fun a62 =>
  ∃ A63, ∃ A63l, ∃ A63c, World.cell? w61 (Addr.add a62 2) = some (Value.slice A63 A63l A63c) ∧
  V.when (decide ((0 : Int) ≤ slot_17 ∧ (slot_17 : Int) < ((A63l : Nat) : Int))) (V.ptr A63 fun a64 =>
  ∃ w65, Sem.run Tryd.prog (Instr.storeAt 86 (Value.pointer (some (Addr.add a64 ((Int.toNat slot_17) * 3)))) (Value.agg #[(Value.bool true), (Value.string name_2), (Value.int .i64 v_3)])) w61 = .ok () w65 ∧
  V.ptr t_1 fun a66 =>
  ∃ m67, World.cell? w65 (Addr.add a66 1) = some (Value.map m67) ∧
  ∃ w68, Sem.run Tryd.prog (Instr.mapUpdate 81 (Value.map m67) (Value.string name_2) (Value.int .i64 slot_17)) w65 = .ok () w68 ∧
  V.ptr t_1 fun a69 =>
  ∃ w70, Sem.run Tryd.prog (Instr.storeAt 3 (Value.pointer (some (Addr.add a69 3))) (Value.int .i64 (IntKind.wrap .i64 (slot_17 + 1)))) w68 = .ok () w70 ∧
  R (Ending.returned (Value.tuple #[(Value.int .i64 slot_17), (Value.int .i64 0)])) w70))
  (V.ptr t_1 fun a71 =>
  ∃ A72, ∃ A72l, ∃ A72c, World.cell? w19 (Addr.add a71 2) = some (Value.slice A72 A72l A72c) ∧
  V.when (decide ((0 : Int) ≤ slot_17 ∧ (slot_17 : Int) < ((A72l : Nat) : Int))) (V.ptr A72 fun a73 =>
  ∃ w74, Sem.run Tryd.prog (Instr.storeAt 86 (Value.pointer (some (Addr.add a73 ((Int.toNat slot_17) * 3)))) (Value.agg #[(Value.bool true), (Value.string name_2), (Value.int .i64 v_3)])) w19 = .ok () w74 ∧
  V.ptr t_1 fun a75 =>
  ∃ m76, World.cell? w74 (Addr.add a75 1) = some (Value.map m76) ∧
  ∃ w77, Sem.run Tryd.prog (Instr.mapUpdate 81 (Value.map m76) (Value.string name_2) (Value.int .i64 slot_17)) w74 = .ok () w77 ∧
  V.ptr t_1 fun a78 =>
  ∃ w79, Sem.run Tryd.prog (Instr.storeAt 3 (Value.pointer (some (Addr.add a78 3))) (Value.int .i64 (IntKind.wrap .i64 (slot_17 + 1)))) w77 = .ok () w79 ∧
  R (Ending.returned (Value.tuple #[(Value.int .i64 slot_17), (Value.int .i64 0)])) w79)))))))) :
  Calls Tryd.prog 8 #[(Value.pointer t_1), (Value.string name_2), (Value.int .i64 v_3)] w R :=
  V.calls_of_R ⟨V.assoc [(0, [10])], V.assocP [(6, V.line [0, 1, 2, 3, 4, 5, 6, 7, 8, 9, 10])], V.assocC [], V.assocS [], ⟨[], true⟩⟩ Tryd.func8 rfl (Eq.mp (by kernel_rfl) h)

theorem slots_Table_int__Len_nf (t_1 : Option Addr) (w : World) (R : Ending → World → Prop) (h :
  V.sel (Option.isNone t_1)
  (R (Ending.returned (Value.int .i64 0)) w)
  (V.ptr t_1 fun a2 =>
  ∃ m3, World.cell? w (Addr.add a2 1) = some (Value.map m3) ∧
  ∃ n4, ∃ w5, Sem.run Tryd.prog (Builtin.len_ #[81] 3 #[(Value.map m3)]) w = .ok (Value.int .i64 n4) w5 ∧
  R (Ending.returned (Value.int .i64 n4)) w5)) :
  Calls Tryd.prog 10 #[(Value.pointer t_1)] w R :=
  V.calls_of_R ⟨V.assoc [], V.assocP [], V.assocC [], V.assocS [], ⟨[], true⟩⟩ Tryd.func10 rfl (Eq.mp (by kernel_rfl) h)

theorem slots_Table_int__Span_nf (t_1 : Option Addr) (w : World) (R : Ending → World → Prop) (h :
  V.sel (Option.isNone t_1)
  (R (Ending.returned (Value.int .i64 0)) w)
  (V.ptr t_1 fun a2 =>
  ∃ A3, ∃ A3l, ∃ A3c, World.cell? w (Addr.add a2 2) = some (Value.slice A3 A3l A3c) ∧
  R (Ending.returned (Value.int .i64 ((A3l : Nat) : Int))) w)) :
  Calls Tryd.prog 11 #[(Value.pointer t_1)] w R :=
  V.calls_of_R ⟨V.assoc [], V.assocP [], V.assocC [], V.assocS [], ⟨[], true⟩⟩ Tryd.func11 rfl (Eq.mp (by kernel_rfl) h)

theorem slots_Table_int__Drop_nf (t_1 : Option Addr) (name_2 : ByteArray) (w : World) (R : Ending → World → Prop) (h :
  Calls Tryd.prog 37 #[(Value.pointer t_1), (Value.string name_2)] w fun e5 w6 =>
  ∃ n3, ∃ n4, e5 = Ending.returned (Value.tuple #[(Value.int .i64 n3), (Value.int .i64 n4)]) ∧
  V.sel (n4 != 0)
  (R (Ending.returned (Value.tuple #[(Value.int .i64 0), (Value.int .i64 n4)])) w6)
  (V.ptr t_1 fun a7 =>
  ∃ m8, World.cell? w6 (Addr.add a7 1) = some (Value.map m8) ∧
  ∃ w9, Sem.run Tryd.prog (Builtin.delete_ #[81, 9] 0 #[(Value.map m8), (Value.string name_2)]) w6 = .ok undef w9 ∧
  V.ptr t_1 fun a10 =>
  ∃ A11, ∃ A11l, ∃ A11c, World.cell? w9 (Addr.add a10 2) = some (Value.slice A11 A11l A11c) ∧
  V.when (decide ((0 : Int) ≤ n3 ∧ (n3 : Int) < ((A11l : Nat) : Int))) (V.ptr A11 fun a12 =>
  ∃ w13, Sem.run Tryd.prog (Instr.storeAt 86 (Value.pointer (some (Addr.add a12 ((Int.toNat n3) * 3)))) (Value.agg #[(Value.bool false), (Value.string ByteArray.empty), (Value.int .i64 0)])) w9 = .ok () w13 ∧
  ∃ I14 : World → Prop, ∃ μ15 : World → Nat, I14 w13 ∧
  ∀ (j16 : Nat → Value) (w17 : World), I14 w17 →
  (V.ptr t_1 fun a18 =>
  ∃ A19, ∃ A19l, ∃ A19c, World.cell? w17 (Addr.add a18 2) = some (Value.slice A19 A19l A19c) ∧
  V.sel (decide (((A19l : Nat) : Int) > 0))
  (V.ptr t_1 fun a20 =>
  ∃ A21, ∃ A21l, ∃ A21c, World.cell? w17 (Addr.add a20 2) = some (Value.slice A21 A21l A21c) ∧
  V.ptr t_1 fun a22 =>
  ∃ A23, ∃ A23l, ∃ A23c, World.cell? w17 (Addr.add a22 2) = some (Value.slice A23 A23l A23c) ∧
  V.when (decide ((0 : Int) ≤ (IntKind.wrap .i64 (((A23l : Nat) : Int) - 1)) ∧ ((IntKind.wrap .i64 (((A23l : Nat) : Int) - 1)) : Int) < ((A21l : Nat) : Int))) (V.ptr A21 fun a24 =>
  ∃ b25, World.cell? w17 (Addr.add (Addr.add a24 ((Int.toNat (IntKind.wrap .i64 (((A23l : Nat) : Int) - 1))) * 3)) 0) = some (Value.bool b25) ∧
  V.sel (!b25)
  (V.ptr t_1 fun a26 =>
  ∃ A27, ∃ A27l, ∃ A27c, World.cell? (World.drew w17) (Addr.add a26 2) = some (Value.slice A27 A27l A27c) ∧
  V.ptr t_1 fun a28 =>
  ∃ A29, ∃ A29l, ∃ A29c, World.cell? (World.drew w17) (Addr.add a28 2) = some (Value.slice A29 A29l A29c) ∧
  V.when (decide ((0 : Int) ≤ (IntKind.wrap .i64 (((A29l : Nat) : Int) - 1)) ∧ ((IntKind.wrap .i64 (((A29l : Nat) : Int) - 1)) : Int) ≤ ((A27c : Nat) : Int))) (V.ptr t_1 fun a30 =>
  ∃ w31, Sem.run Tryd.prog (Instr.storeAt 82 (Value.pointer (some (Addr.add a30 2))) (Value.slice (V.cut A27 A27c 0 3) ((Int.toNat (IntKind.wrap .i64 (((A29l : Nat) : Int) - 1))) - 0) (A27c - 0))) (World.drew (World.drew w17)) = .ok () w31 ∧
  I14 w31 ∧ μ15 w31 < μ15 w17))
  (V.ptr t_1 fun a32 =>
  ∃ n33, World.cell? (World.drew w17) (Addr.add a32 3) = some (Value.int .i64 n33) ∧
  V.ptr t_1 fun a34 =>
  ∃ w35, Sem.run Tryd.prog (Instr.storeAt 3 (Value.pointer (some (Addr.add a34 3))) (Value.int .i64 (if n3 < n33 then n3 else n33))) (World.drew w17) = .ok () w35 ∧
  R (Ending.returned (Value.tuple #[(Value.int .i64 n3), (Value.int .i64 0)])) w35)))
  (V.ptr t_1 fun a36 =>
  ∃ n37, World.cell? (World.drew w17) (Addr.add a36 3) = some (Value.int .i64 n37) ∧
  V.ptr t_1 fun a38 =>
  ∃ w39, Sem.run Tryd.prog (Instr.storeAt 3 (Value.pointer (some (Addr.add a38 3))) (Value.int .i64 (if n3 < n37 then n3 else n37))) (World.drew w17) = .ok () w39 ∧
  R (Ending.returned (Value.tuple #[(Value.int .i64 n3), (Value.int .i64 0)])) w39))))) :
  Calls Tryd.prog 12 #[(Value.pointer t_1), (Value.string name_2)] w R :=
  V.calls_of_R ⟨V.assoc [(0, [])], V.assocP [(6, V.line [0, 1, 2, 3, 4, 5, 6, 7, 8, 9, 10, 11, 12, 13, 14, 15, 16, 17, 18, 19, 20, 21]), (7, V.line [0, 1, 2, 3, 4, 5, 6, 7, 8, 9, 10, 11, 12, 13, 14])], V.assocC [], V.assocS [], ⟨[], true⟩⟩ Tryd.func12 rfl (Eq.mp (by kernel_rfl) h)

theorem berthref05_New_nf (most_1 : Int) (w : World) (R : Ending → World → Prop) (h :
  ∀ w2, w2 = (World.alloc w (.cells #[(Value.int .i64 0), (Value.slice none 0 0)] 45)) →
  V.sel (decide (most_1 < 0))
  (∃ w3, Sem.run Tryd.prog (Instr.storeAt 45 (Value.pointer (some ⟨Array.size (World.heap w), 0, none⟩)) (Value.agg #[(Value.int .i64 0), (Value.slice none 0 0)])) w2 = .ok () w3 ∧
  ∃ n4, ∃ A5, ∃ A5l, ∃ A5c, V.cellsC (fun a_ x_ => World.cell? w3 a_ = some x_) ⟨Array.size (World.heap w), 0, none⟩ [(Value.int .i64 n4), (Value.slice A5 A5l A5c)] ∧
  R (Ending.returned (Value.tuple #[(Value.agg #[(Value.int .i64 n4), (Value.slice A5 A5l A5c)]), (Value.int .i64 50)])) w3)
  (V.sel (decide (most_1 > 65536))
  (∃ w6, Sem.run Tryd.prog (Instr.storeAt 45 (Value.pointer (some ⟨Array.size (World.heap w), 0, none⟩)) (Value.agg #[(Value.int .i64 0), (Value.slice none 0 0)])) w2 = .ok () w6 ∧
  ∃ n7, ∃ A8, ∃ A8l, ∃ A8c, V.cellsC (fun a_ x_ => World.cell? w6 a_ = some x_) ⟨Array.size (World.heap w), 0, none⟩ [(Value.int .i64 n7), (Value.slice A8 A8l A8c)] ∧
  R (Ending.returned (Value.tuple #[(Value.agg #[(Value.int .i64 n7), (Value.slice A8 A8l A8c)]), (Value.int .i64 50)])) w6)
  (∃ w9, Sem.run Tryd.prog (Instr.storeAt 45 (Value.pointer (some ⟨Array.size (World.heap w), 0, none⟩)) (Value.agg #[(Value.int .i64 most_1), (Value.slice none 0 0)])) w2 = .ok () w9 ∧
  ∃ n10, ∃ A11, ∃ A11l, ∃ A11c, V.cellsC (fun a_ x_ => World.cell? w9 a_ = some x_) ⟨Array.size (World.heap w), 0, none⟩ [(Value.int .i64 n10), (Value.slice A11 A11l A11c)] ∧
  R (Ending.returned (Value.tuple #[(Value.agg #[(Value.int .i64 n10), (Value.slice A11 A11l A11c)]), (Value.int .i64 0)])) w9))) :
  Calls Tryd.prog 15 #[(Value.int .i64 most_1)] w R :=
  V.calls_of_R ⟨V.assoc [], V.assocP [], V.assocC [], V.assocS [], ⟨[], true⟩⟩ Tryd.func15 rfl (Eq.mp (by kernel_rfl) h)

end Go.Proofs.YtcampkaenlohbaaDoor
