/- Normal forms of the program's functions, printed by a program of mine; the kernel checks each. -/
import Derived.Test.YtoaeefjcjdhlkaaGreatProg
import Derived.Test.YtoaeefjcjdhlkaaGreatV4
set_option linter.unusedVariables false
set_option maxRecDepth 100000
namespace Go.Proofs.YtoaeefjcjdhlkaaGreat
open Go

theorem slices_pdqsortOrdered_string__nf (data_1 : Option Addr) (data_1l : Nat) (data_1c : Nat) (a_2 : Int) (b_3 : Int) (limit_4 : Int) (w : World) (R : Ending → World → Prop) (h :
  ∃ I5 : Int → Int → Int → Bool → Bool → World → Prop, ∃ μ6 : Int → Int → Int → Bool → Bool → World → Nat, I5 a_2 b_3 limit_4 true true w ∧
  ∀ a_7 b_8 limit_9 wasBalanced_10 wasPartitioned_11 (j12 : Nat → Value) (w13 : World), I5 a_7 b_8 limit_9 wasBalanced_10 wasPartitioned_11 w13 →
  (V.sel (decide ((IntKind.wrap .i64 (b_8 - a_7)) ≤ 12))
  (Calls Tryz.prog 107 #[(Value.slice data_1 data_1l data_1c), (Value.int .i64 a_7), (Value.int .i64 b_8)] w13 fun e14 w15 =>
  e14 = Ending.returned undef ∧
  R (Ending.returned undef) w15)
  (V.sel (limit_9 == 0)
  (Calls Tryz.prog 108 #[(Value.slice data_1 data_1l data_1c), (Value.int .i64 a_7), (Value.int .i64 b_8)] w13 fun e16 w17 =>
  e16 = Ending.returned undef ∧
  R (Ending.returned undef) w17)
  (∃ J18 : Int → World → Prop, (V.sel (!wasBalanced_10)
  (Calls Tryz.prog 109 #[(Value.slice data_1 data_1l data_1c), (Value.int .i64 a_7), (Value.int .i64 b_8)] w13 fun e19 w20 =>
  e19 = Ending.returned undef ∧
  J18 (IntKind.wrap .i64 (limit_9 - 1)) w20)
  (J18 limit_9 w13)) ∧
  ∀ limit_21 (j22 : Nat → Value) (w23 : World), J18 limit_21 w23 →
  Calls Tryz.prog 110 #[(Value.slice data_1 data_1l data_1c), (Value.int .i64 a_7), (Value.int .i64 b_8)] w23 fun e26 w27 =>
  ∃ n24, ∃ n25, e26 = Ending.returned (Value.tuple #[(Value.int .i64 n24), (Value.int .i64 n25)]) ∧
  ∃ J28 : Int → Int → World → Prop, (V.sel (n25 == 2)
  (Calls Tryz.prog 111 #[(Value.slice data_1 data_1l data_1c), (Value.int .i64 a_7), (Value.int .i64 b_8)] w27 fun e29 w30 =>
  e29 = Ending.returned undef ∧
  V.lt (IntKind.wrap .i64 ((IntKind.wrap .i64 (b_8 - 1)) - (IntKind.wrap .i64 (n24 - a_7)))) fun x31 =>
  J28 x31 1 w30)
  (J28 n24 n25 w27)) ∧
  ∀ pivot_32 hint_33 (j34 : Nat → Value) (w35 : World), J28 pivot_32 hint_33 w35 →
  ∃ J36 : World → Prop, (∃ J37 : Bool → World → Prop, (V.sel wasBalanced_10
  (V.sel wasPartitioned_11
  (J37 (hint_33 == 1) w35)
  (J37 false w35))
  (J37 false w35)) ∧
  ∀ t68_38 (j39 : Nat → Value) (w40 : World), J37 t68_38 w40 →
  V.sel t68_38
  (Calls Tryz.prog 112 #[(Value.slice data_1 data_1l data_1c), (Value.int .i64 a_7), (Value.int .i64 b_8)] w40 fun e42 w43 =>
  ∃ b41, e42 = Ending.returned (Value.bool b41) ∧
  V.sel b41
  (R (Ending.returned undef) w43)
  (J36  w43))
  (J36  w40)) ∧
  ∀ (j44 : Nat → Value) (w45 : World), J36  w45 →
  ∃ J46 : Int → World → Prop, (∃ J47 : Bool → World → Prop, (∃ S48 : World → Prop, S48 (World.drew w45) ∧
  V.sel (decide (a_7 > 0))
  (V.when (decide ((0 : Int) ≤ (IntKind.wrap .i64 (a_7 - 1)) ∧ ((IntKind.wrap .i64 (a_7 - 1)) : Int) < ((data_1l : Nat) : Int))) (V.ptr data_1 fun a50 =>
  ∃ s51, (∀ w49, S48 w49 → World.cell? w49 (Addr.add a50 ((Int.toNat (IntKind.wrap .i64 (a_7 - 1))) * 1)) = some (Value.string s51)) ∧
  V.when (decide ((0 : Int) ≤ pivot_32 ∧ (pivot_32 : Int) < ((data_1l : Nat) : Int))) (V.ptr data_1 fun a52 =>
  ∃ s53, (∀ w49, S48 w49 → World.cell? w49 (Addr.add a52 ((Int.toNat pivot_32) * 1)) = some (Value.string s53)) ∧
  Calls Tryz.prog 113 #[(Value.string s51), (Value.string s53)] (World.drew w45) fun e55 w56 =>
  ∃ b54, e55 = Ending.returned (Value.bool b54) ∧
  S48 w56 ∧
  J47 (!b54) w56)))
  (J47 false (World.drew w45))) ∧
  ∀ t87_57 (j58 : Nat → Value) (w59 : World), J47 t87_57 w59 →
  V.sel t87_57
  (Calls Tryz.prog 114 #[(Value.slice data_1 data_1l data_1c), (Value.int .i64 a_7), (Value.int .i64 b_8), (Value.int .i64 pivot_32)] w59 fun e61 w62 =>
  ∃ n60, e61 = Ending.returned (Value.int .i64 n60) ∧
  I5 n60 b_8 limit_21 wasBalanced_10 wasPartitioned_11 w62 ∧ μ6 n60 b_8 limit_21 wasBalanced_10 wasPartitioned_11 w62 < μ6 a_7 b_8 limit_9 wasBalanced_10 wasPartitioned_11 w13)
  (J46 a_7 w59)) ∧
  ∀ a_63 (j64 : Nat → Value) (w65 : World), J46 a_63 w65 →
  Calls Tryz.prog 115 #[(Value.slice data_1 data_1l data_1c), (Value.int .i64 a_63), (Value.int .i64 b_8), (Value.int .i64 pivot_32)] w65 fun e68 w69 =>
  ∃ n66, ∃ b67, e68 = Ending.returned (Value.tuple #[(Value.int .i64 n66), (Value.bool b67)]) ∧
  V.lt (IntKind.wrap .i64 (Int.tdiv (IntKind.wrap .i64 (b_8 - a_7)) 8)) fun x70 =>
  V.sel (decide ((IntKind.wrap .i64 (n66 - a_63)) < (IntKind.wrap .i64 (b_8 - n66))))
  (Calls Tryz.prog 85 #[(Value.slice data_1 data_1l data_1c), (Value.int .i64 a_63), (Value.int .i64 n66), (Value.int .i64 limit_21)] w69 fun e71 w72 =>
  e71 = Ending.returned undef ∧
  I5 (IntKind.wrap .i64 (n66 + 1)) b_8 limit_21 (decide ((IntKind.wrap .i64 (n66 - a_63)) ≥ x70)) b67 w72 ∧ μ6 (IntKind.wrap .i64 (n66 + 1)) b_8 limit_21 (decide ((IntKind.wrap .i64 (n66 - a_63)) ≥ x70)) b67 w72 < μ6 a_7 b_8 limit_9 wasBalanced_10 wasPartitioned_11 w13)
  (Calls Tryz.prog 85 #[(Value.slice data_1 data_1l data_1c), (Value.int .i64 (IntKind.wrap .i64 (n66 + 1))), (Value.int .i64 b_8), (Value.int .i64 limit_21)] w69 fun e73 w74 =>
  e73 = Ending.returned undef ∧
  I5 a_63 n66 limit_21 (decide ((IntKind.wrap .i64 (b_8 - n66)) ≥ x70)) b67 w74 ∧ μ6 a_63 n66 limit_21 (decide ((IntKind.wrap .i64 (b_8 - n66)) ≥ x70)) b67 w74 < μ6 a_7 b_8 limit_9 wasBalanced_10 wasPartitioned_11 w13))))) :
  Calls Tryz.prog 85 #[(Value.slice data_1 data_1l data_1c), (Value.int .i64 a_2), (Value.int .i64 b_3), (Value.int .i64 limit_4)] w R :=
  V.Z.calls_of_N ⟨V.assoc [(0, [1, 2, 3, 8, 9])], V.assocP [(17, V.line [0, 1, 2, 3, 4, 5, 6, 7, 8, 9, 10, 11, 12, 13, 14])], V.assocC [(1000011, ([3], [V.Sh.one (.int .i64)])), (1000016, ([11, 12], [V.Sh.one (.int .i64), V.Sh.one (.int .i64)])), (1000017, ([68], [V.Sh.one .bool])), (1000018, ([], [])), (1000019, ([87], [V.Sh.one .bool])), (1000021, ([1], [V.Sh.one (.int .i64)]))], V.assocS [], ⟨[], true⟩⟩ Tryz.func85 rfl (Eq.mp (by kernel_rfl) h)

theorem math_bits_Len_nf (x_1 : Int) (w : World) (R : Ending → World → Prop) (h :
  Calls Tryz.prog 117 #[(Value.int .u64 x_1)] w fun e3 w4 =>
  ∃ n2, e3 = Ending.returned (Value.int .i64 n2) ∧
  R (Ending.returned (Value.int .i64 n2)) w4) :
  Calls Tryz.prog 86 #[(Value.int .u64 x_1)] w R :=
  V.Z.calls_of_N ⟨V.assoc [], V.assocP [], V.assocC [], V.assocS [], ⟨[], true⟩⟩ Tryz.func86 rfl (Eq.mp (by kernel_rfl) h)

theorem slices_insertionSortOrdered_string__nf (data_1 : Option Addr) (data_1l : Nat) (data_1c : Nat) (a_2 : Int) (b_3 : Int) (w : World) (R : Ending → World → Prop) (h :
  ∃ I4 : Int → World → Prop, ∃ μ5 : Int → World → Nat, I4 (IntKind.wrap .i64 (a_2 + 1)) w ∧
  ∀ i_6 (j7 : Nat → Value) (w8 : World), I4 i_6 w8 →
  (V.sel (decide (i_6 < b_3))
  (∃ I9 : Int → World → Prop, ∃ μ10 : Int → World → Nat, I9 i_6 w8 ∧
  ∀ j_11 (j12 : Nat → Value) (w13 : World), I9 j_11 w13 →
  (∃ S14 : World → Prop, S14 (World.drew w13) ∧
  V.sel (decide (j_11 > a_2))
  (V.when (decide ((0 : Int) ≤ j_11 ∧ (j_11 : Int) < ((data_1l : Nat) : Int))) (V.ptr data_1 fun a16 =>
  ∃ s17, (∀ w15, S14 w15 → World.cell? w15 (Addr.add a16 ((Int.toNat j_11) * 1)) = some (Value.string s17)) ∧
  V.when (decide ((0 : Int) ≤ (IntKind.wrap .i64 (j_11 - 1)) ∧ ((IntKind.wrap .i64 (j_11 - 1)) : Int) < ((data_1l : Nat) : Int))) (V.ptr data_1 fun a18 =>
  ∃ s19, (∀ w15, S14 w15 → World.cell? w15 (Addr.add a18 ((Int.toNat (IntKind.wrap .i64 (j_11 - 1))) * 1)) = some (Value.string s19)) ∧
  Calls Tryz.prog 113 #[(Value.string s17), (Value.string s19)] (World.drew w13) fun e21 w22 =>
  ∃ b20, e21 = Ending.returned (Value.bool b20) ∧
  S14 w22 ∧
  V.sel b20
  (∃ S23 : World → Prop, S23 (World.drew w22) ∧
  V.when (decide ((0 : Int) ≤ (IntKind.wrap .i64 (j_11 - 1)) ∧ ((IntKind.wrap .i64 (j_11 - 1)) : Int) < ((data_1l : Nat) : Int))) (V.ptr data_1 fun a25 =>
  ∃ s26, (∀ w24, S23 w24 → World.cell? w24 (Addr.add a25 ((Int.toNat (IntKind.wrap .i64 (j_11 - 1))) * 1)) = some (Value.string s26)) ∧
  V.when (decide ((0 : Int) ≤ j_11 ∧ (j_11 : Int) < ((data_1l : Nat) : Int))) (V.ptr data_1 fun a27 =>
  ∃ s28, (∀ w24, S23 w24 → World.cell? w24 (Addr.add a27 ((Int.toNat j_11) * 1)) = some (Value.string s28)) ∧
  V.when (decide ((0 : Int) ≤ j_11 ∧ (j_11 : Int) < ((data_1l : Nat) : Int))) (V.ptr data_1 fun a29 =>
  ∃ w30, Sem.run Tryz.prog (Instr.storeAt 9 (Value.pointer (some (Addr.add a29 ((Int.toNat j_11) * 1)))) (Value.string s26)) (World.drew w22) = .ok () w30 ∧
  S23 w30 ∧
  V.when (decide ((0 : Int) ≤ (IntKind.wrap .i64 (j_11 - 1)) ∧ ((IntKind.wrap .i64 (j_11 - 1)) : Int) < ((data_1l : Nat) : Int))) (V.ptr data_1 fun a31 =>
  ∃ w32, Sem.run Tryz.prog (Instr.storeAt 9 (Value.pointer (some (Addr.add a31 ((Int.toNat (IntKind.wrap .i64 (j_11 - 1))) * 1)))) (Value.string s28)) w30 = .ok () w32 ∧
  I9 (IntKind.wrap .i64 (j_11 - 1)) w32 ∧ μ10 (IntKind.wrap .i64 (j_11 - 1)) w32 < μ10 j_11 w13)))))
  (I4 (IntKind.wrap .i64 (i_6 + 1)) w22 ∧ μ5 (IntKind.wrap .i64 (i_6 + 1)) w22 < μ5 i_6 w8))))
  (I4 (IntKind.wrap .i64 (i_6 + 1)) (World.drew w13) ∧ μ5 (IntKind.wrap .i64 (i_6 + 1)) (World.drew w13) < μ5 i_6 w8)))
  (R (Ending.returned undef) w8))) :
  Calls Tryz.prog 107 #[(Value.slice data_1 data_1l data_1c), (Value.int .i64 a_2), (Value.int .i64 b_3)] w R :=
  V.Z.calls_of_N ⟨V.assoc [(0, [6]), (1, [7])], V.assocP [(4, V.line [0, 1, 2, 3, 4, 5, 6, 7, 8, 9, 10, 11, 12, 13, 14]), (6, V.line [0, 1, 2, 3, 4, 5, 6, 7, 8, 9, 10, 11, 12, 13, 14, 15, 16, 17])], V.assocC [], V.assocS [], ⟨[], true⟩⟩ Tryz.func107 rfl (Eq.mp (by kernel_rfl) h)

theorem math_bits_Len64_nf (x_1 : Int) (w : World) (R : Ending → World → Prop) (h :
  ∃ J2 : Int → Int → World → Prop, (V.sel (decide (x_1 ≥ 4294967296))
  (J2 (Int.fdiv x_1 (2 ^ 32)) 32 w)
  (J2 x_1 0 w)) ∧
  ∀ x_3 n_4 (j5 : Nat → Value) (w6 : World), J2 x_3 n_4 w6 →
  ∃ J7 : Int → Int → World → Prop, (V.sel (decide (x_3 ≥ 65536))
  (J7 (Int.fdiv x_3 (2 ^ 16)) (IntKind.wrap .i64 (n_4 + 16)) w6)
  (J7 x_3 n_4 w6)) ∧
  ∀ x_8 n_9 (j10 : Nat → Value) (w11 : World), J7 x_8 n_9 w11 →
  V.sel (decide (x_8 ≥ 256))
  (V.when (decide ((0 : Int) ≤ (IntKind.wrap .u8 ((Int.fdiv x_8 (2 ^ 8)))) ∧ ((IntKind.wrap .u8 ((Int.fdiv x_8 (2 ^ 8)))) : Int) < ((ByteArray.size ⟨#[0, 1, 2, 2, 3, 3, 3, 3, 4, 4, 4, 4, 4, 4, 4, 4, 5, 5, 5, 5, 5, 5, 5, 5, 5, 5, 5, 5, 5, 5, 5, 5, 6, 6, 6, 6, 6, 6, 6, 6, 6, 6, 6, 6, 6, 6, 6, 6, 6, 6, 6, 6, 6, 6, 6, 6, 6, 6, 6, 6, 6, 6, 6, 6, 7, 7, 7, 7, 7, 7, 7, 7, 7, 7, 7, 7, 7, 7, 7, 7, 7, 7, 7, 7, 7, 7, 7, 7, 7, 7, 7, 7, 7, 7, 7, 7, 7, 7, 7, 7, 7, 7, 7, 7, 7, 7, 7, 7, 7, 7, 7, 7, 7, 7, 7, 7, 7, 7, 7, 7, 7, 7, 7, 7, 7, 7, 7, 7, 8, 8, 8, 8, 8, 8, 8, 8, 8, 8, 8, 8, 8, 8, 8, 8, 8, 8, 8, 8, 8, 8, 8, 8, 8, 8, 8, 8, 8, 8, 8, 8, 8, 8, 8, 8, 8, 8, 8, 8, 8, 8, 8, 8, 8, 8, 8, 8, 8, 8, 8, 8, 8, 8, 8, 8, 8, 8, 8, 8, 8, 8, 8, 8, 8, 8, 8, 8, 8, 8, 8, 8, 8, 8, 8, 8, 8, 8, 8, 8, 8, 8, 8, 8, 8, 8, 8, 8, 8, 8, 8, 8, 8, 8, 8, 8, 8, 8, 8, 8, 8, 8, 8, 8, 8, 8, 8, 8, 8, 8, 8, 8, 8, 8, 8, 8, 8, 8, 8, 8, 8, 8, 8, 8, 8, 8, 8, 8]⟩ : Nat) : Int))) (V.lt (IntKind.wrap .i64 ((IntKind.wrap .i64 (n_9 + 8)) + (IntKind.wrap .i64 ((V.byteAt ⟨#[0, 1, 2, 2, 3, 3, 3, 3, 4, 4, 4, 4, 4, 4, 4, 4, 5, 5, 5, 5, 5, 5, 5, 5, 5, 5, 5, 5, 5, 5, 5, 5, 6, 6, 6, 6, 6, 6, 6, 6, 6, 6, 6, 6, 6, 6, 6, 6, 6, 6, 6, 6, 6, 6, 6, 6, 6, 6, 6, 6, 6, 6, 6, 6, 7, 7, 7, 7, 7, 7, 7, 7, 7, 7, 7, 7, 7, 7, 7, 7, 7, 7, 7, 7, 7, 7, 7, 7, 7, 7, 7, 7, 7, 7, 7, 7, 7, 7, 7, 7, 7, 7, 7, 7, 7, 7, 7, 7, 7, 7, 7, 7, 7, 7, 7, 7, 7, 7, 7, 7, 7, 7, 7, 7, 7, 7, 7, 7, 8, 8, 8, 8, 8, 8, 8, 8, 8, 8, 8, 8, 8, 8, 8, 8, 8, 8, 8, 8, 8, 8, 8, 8, 8, 8, 8, 8, 8, 8, 8, 8, 8, 8, 8, 8, 8, 8, 8, 8, 8, 8, 8, 8, 8, 8, 8, 8, 8, 8, 8, 8, 8, 8, 8, 8, 8, 8, 8, 8, 8, 8, 8, 8, 8, 8, 8, 8, 8, 8, 8, 8, 8, 8, 8, 8, 8, 8, 8, 8, 8, 8, 8, 8, 8, 8, 8, 8, 8, 8, 8, 8, 8, 8, 8, 8, 8, 8, 8, 8, 8, 8, 8, 8, 8, 8, 8, 8, 8, 8, 8, 8, 8, 8, 8, 8, 8, 8, 8, 8, 8, 8, 8, 8, 8, 8, 8, 8]⟩ (IntKind.wrap .u8 ((Int.fdiv x_8 (2 ^ 8))))))))) fun x12 =>
  R (Ending.returned (Value.int .i64 x12)) w11))
  (V.when (decide ((0 : Int) ≤ (IntKind.wrap .u8 (x_8)) ∧ ((IntKind.wrap .u8 (x_8)) : Int) < ((ByteArray.size ⟨#[0, 1, 2, 2, 3, 3, 3, 3, 4, 4, 4, 4, 4, 4, 4, 4, 5, 5, 5, 5, 5, 5, 5, 5, 5, 5, 5, 5, 5, 5, 5, 5, 6, 6, 6, 6, 6, 6, 6, 6, 6, 6, 6, 6, 6, 6, 6, 6, 6, 6, 6, 6, 6, 6, 6, 6, 6, 6, 6, 6, 6, 6, 6, 6, 7, 7, 7, 7, 7, 7, 7, 7, 7, 7, 7, 7, 7, 7, 7, 7, 7, 7, 7, 7, 7, 7, 7, 7, 7, 7, 7, 7, 7, 7, 7, 7, 7, 7, 7, 7, 7, 7, 7, 7, 7, 7, 7, 7, 7, 7, 7, 7, 7, 7, 7, 7, 7, 7, 7, 7, 7, 7, 7, 7, 7, 7, 7, 7, 8, 8, 8, 8, 8, 8, 8, 8, 8, 8, 8, 8, 8, 8, 8, 8, 8, 8, 8, 8, 8, 8, 8, 8, 8, 8, 8, 8, 8, 8, 8, 8, 8, 8, 8, 8, 8, 8, 8, 8, 8, 8, 8, 8, 8, 8, 8, 8, 8, 8, 8, 8, 8, 8, 8, 8, 8, 8, 8, 8, 8, 8, 8, 8, 8, 8, 8, 8, 8, 8, 8, 8, 8, 8, 8, 8, 8, 8, 8, 8, 8, 8, 8, 8, 8, 8, 8, 8, 8, 8, 8, 8, 8, 8, 8, 8, 8, 8, 8, 8, 8, 8, 8, 8, 8, 8, 8, 8, 8, 8, 8, 8, 8, 8, 8, 8, 8, 8, 8, 8, 8, 8, 8, 8, 8, 8, 8, 8]⟩ : Nat) : Int))) (V.lt (IntKind.wrap .i64 (n_9 + (IntKind.wrap .i64 ((V.byteAt ⟨#[0, 1, 2, 2, 3, 3, 3, 3, 4, 4, 4, 4, 4, 4, 4, 4, 5, 5, 5, 5, 5, 5, 5, 5, 5, 5, 5, 5, 5, 5, 5, 5, 6, 6, 6, 6, 6, 6, 6, 6, 6, 6, 6, 6, 6, 6, 6, 6, 6, 6, 6, 6, 6, 6, 6, 6, 6, 6, 6, 6, 6, 6, 6, 6, 7, 7, 7, 7, 7, 7, 7, 7, 7, 7, 7, 7, 7, 7, 7, 7, 7, 7, 7, 7, 7, 7, 7, 7, 7, 7, 7, 7, 7, 7, 7, 7, 7, 7, 7, 7, 7, 7, 7, 7, 7, 7, 7, 7, 7, 7, 7, 7, 7, 7, 7, 7, 7, 7, 7, 7, 7, 7, 7, 7, 7, 7, 7, 7, 8, 8, 8, 8, 8, 8, 8, 8, 8, 8, 8, 8, 8, 8, 8, 8, 8, 8, 8, 8, 8, 8, 8, 8, 8, 8, 8, 8, 8, 8, 8, 8, 8, 8, 8, 8, 8, 8, 8, 8, 8, 8, 8, 8, 8, 8, 8, 8, 8, 8, 8, 8, 8, 8, 8, 8, 8, 8, 8, 8, 8, 8, 8, 8, 8, 8, 8, 8, 8, 8, 8, 8, 8, 8, 8, 8, 8, 8, 8, 8, 8, 8, 8, 8, 8, 8, 8, 8, 8, 8, 8, 8, 8, 8, 8, 8, 8, 8, 8, 8, 8, 8, 8, 8, 8, 8, 8, 8, 8, 8, 8, 8, 8, 8, 8, 8, 8, 8, 8, 8, 8, 8, 8, 8, 8, 8, 8, 8]⟩ (IntKind.wrap .u8 (x_8))))))) fun x13 =>
  R (Ending.returned (Value.int .i64 x13)) w11))) :
  Calls Tryz.prog 117 #[(Value.int .u64 x_1)] w R :=
  V.Z.calls_of_N ⟨V.assoc [], V.assocP [], V.assocC [(1000005, ([0, 2], [V.Sh.one (.int .u64), V.Sh.one (.int .i64)])), (1000008, ([0, 2], [V.Sh.one (.int .u64), V.Sh.one (.int .i64)]))], V.assocS [], ⟨[], true⟩⟩ Tryz.func117 rfl (Eq.mp (by kernel_rfl) h)

end Go.Proofs.YtoaeefjcjdhlkaaGreat
