/- Normal forms of the program's functions, printed by a program of mine; the kernel checks each. -/
import Derived.Test.YtoaeefjcjdhlkaaGreatProg
import Derived.Test.YtoaeefjcjdhlkaaGreatV4
set_option linter.unusedVariables false
set_option maxRecDepth 100000
namespace Go.Proofs.YtoaeefjcjdhlkaaGreat
open Go

theorem image_list_api_Apart__nf (w_1 : Option Addr) (l_2 : Option Addr) (l_2l : Nat) (l_2c : Nat) (one_f3 : Nat) (one_a4 : Array Value) (one_c5 : Array Value) (w : World) (R : Ending → World → Prop) (h :
  Calls Tryz.prog 32 #[(Value.pointer w_1), (Value.int .u64 (IntKind.wrap .u64 (((l_2l : Nat) : Int))))] w fun e6 w7 =>
  e6 = Ending.returned undef ∧
  ∃ I8 : Int → World → Prop, ∃ μ9 : Int → World → Nat, I8 0 w7 ∧
  ∀ t15_10 (j11 : Nat → Value) (w12 : World), I8 t15_10 w12 →
  (V.sel (decide (t15_10 < ((l_2l : Nat) : Int)))
  (V.when (decide ((0 : Int) ≤ t15_10 ∧ (t15_10 : Int) < ((l_2l : Nat) : Int))) (V.ptr l_2 fun a13 =>
  ∃ s14, ∃ s15, V.cellsC (fun a_ x_ => World.cell? w12 a_ = some x_) (Addr.add a13 ((Int.toNat t15_10) * 2)) [(Value.string s14), (Value.string s15)] ∧
  ∀ w16, w16 = (World.alloc w12 (.cells #[(Value.string ByteArray.empty), (Value.string ByteArray.empty)] 125)) →
  ∃ w17, Sem.run Tryz.prog (Instr.storeAt 125 (Value.pointer (some ⟨Array.size (World.heap w12), 0, none⟩)) (Value.agg #[(Value.string s14), (Value.string s15)])) w16 = .ok () w17 ∧
  ∃ s18, ∃ s19, V.cellsC (fun a_ x_ => World.cell? w17 a_ = some x_) ⟨Array.size (World.heap w12), 0, none⟩ [(Value.string s18), (Value.string s19)] ∧
  V.when (V.hasB Tryz.prog one_f3) (Calls Tryz.prog one_f3 ⟨Array.toList one_a4 ++ [(Value.agg #[(Value.string s18), (Value.string s19)])] ++ Array.toList one_c5⟩ w17 fun e20 w21 =>
  e20 = Ending.returned undef ∧
  I8 (IntKind.wrap .i64 (t15_10 + 1)) w21 ∧ μ9 (IntKind.wrap .i64 (t15_10 + 1)) w21 < μ9 t15_10 w12)))
  (R (Ending.returned undef) w12))) :
  Calls Tryz.prog 103 #[(Value.pointer w_1), (Value.slice l_2 l_2l l_2c), (Value.func (.func one_f3) one_a4 one_c5)] w R :=
  V.Z.calls_of_N ⟨V.assoc [(0, [15])], V.assocP [], V.assocC [], V.assocS [], ⟨[], true⟩⟩ Tryz.func103 rfl (Eq.mp (by kernel_rfl) h)

theorem image_writer_apart_nf (w_1 : Option Addr) (a_2 : ByteArray) (a_3 : ByteArray) (w : World) (R : Ending → World → Prop) (h :
  ∀ w4, w4 = (World.alloc w (.cells #[(Value.string a_2), (Value.string a_3)] 125)) →
  ∃ s5, World.cell? w4 (Addr.add ⟨Array.size (World.heap w), 0, none⟩ 0) = some (Value.string s5) ∧
  Calls Tryz.prog 75 #[(Value.pointer w_1), (Value.string s5)] w4 fun e6 w7 =>
  e6 = Ending.returned undef ∧
  ∃ s8, World.cell? w7 (Addr.add ⟨Array.size (World.heap w), 0, none⟩ 1) = some (Value.string s8) ∧
  Calls Tryz.prog 75 #[(Value.pointer w_1), (Value.string s8)] w7 fun e9 w10 =>
  e9 = Ending.returned undef ∧
  R (Ending.returned undef) w10) :
  Calls Tryz.prog 104 #[(Value.pointer w_1), (Value.agg #[(Value.string a_2), (Value.string a_3)])] w R :=
  V.Z.calls_of_N ⟨V.assoc [], V.assocP [], V.assocC [], V.assocS [], ⟨[], true⟩⟩ Tryz.func104 rfl (Eq.mp (by kernel_rfl) h)

theorem image_list_api_Prefer__nf (w_1 : Option Addr) (l_2 : Option Addr) (l_2l : Nat) (l_2c : Nat) (one_f3 : Nat) (one_a4 : Array Value) (one_c5 : Array Value) (w : World) (R : Ending → World → Prop) (h :
  Calls Tryz.prog 32 #[(Value.pointer w_1), (Value.int .u64 (IntKind.wrap .u64 (((l_2l : Nat) : Int))))] w fun e6 w7 =>
  e6 = Ending.returned undef ∧
  ∃ I8 : Int → World → Prop, ∃ μ9 : Int → World → Nat, I8 0 w7 ∧
  ∀ t15_10 (j11 : Nat → Value) (w12 : World), I8 t15_10 w12 →
  (V.sel (decide (t15_10 < ((l_2l : Nat) : Int)))
  (V.when (decide ((0 : Int) ≤ t15_10 ∧ (t15_10 : Int) < ((l_2l : Nat) : Int))) (V.ptr l_2 fun a13 =>
  ∃ n14, ∃ s15, V.cellsC (fun a_ x_ => World.cell? w12 a_ = some x_) (Addr.add a13 ((Int.toNat t15_10) * 2)) [(Value.int .i64 n14), (Value.string s15)] ∧
  ∀ w16, w16 = (World.alloc w12 (.cells #[(Value.int .i64 0), (Value.string ByteArray.empty)] 127)) →
  ∃ w17, Sem.run Tryz.prog (Instr.storeAt 127 (Value.pointer (some ⟨Array.size (World.heap w12), 0, none⟩)) (Value.agg #[(Value.int .i64 n14), (Value.string s15)])) w16 = .ok () w17 ∧
  ∃ n18, ∃ s19, V.cellsC (fun a_ x_ => World.cell? w17 a_ = some x_) ⟨Array.size (World.heap w12), 0, none⟩ [(Value.int .i64 n18), (Value.string s19)] ∧
  V.when (V.hasB Tryz.prog one_f3) (Calls Tryz.prog one_f3 ⟨Array.toList one_a4 ++ [(Value.agg #[(Value.int .i64 n18), (Value.string s19)])] ++ Array.toList one_c5⟩ w17 fun e20 w21 =>
  e20 = Ending.returned undef ∧
  I8 (IntKind.wrap .i64 (t15_10 + 1)) w21 ∧ μ9 (IntKind.wrap .i64 (t15_10 + 1)) w21 < μ9 t15_10 w12)))
  (R (Ending.returned undef) w12))) :
  Calls Tryz.prog 105 #[(Value.pointer w_1), (Value.slice l_2 l_2l l_2c), (Value.func (.func one_f3) one_a4 one_c5)] w R :=
  V.Z.calls_of_N ⟨V.assoc [(0, [15])], V.assocP [], V.assocC [], V.assocS [], ⟨[], true⟩⟩ Tryz.func105 rfl (Eq.mp (by kernel_rfl) h)

theorem image_writer_prefer_nf (w_1 : Option Addr) (p_2 : Int) (p_3 : ByteArray) (w : World) (R : Ending → World → Prop) (h :
  ∀ w4, w4 = (World.alloc w (.cells #[(Value.int .i64 p_2), (Value.string p_3)] 127)) →
  ∃ n5, World.cell? w4 (Addr.add ⟨Array.size (World.heap w), 0, none⟩ 0) = some (Value.int .i64 n5) ∧
  Calls Tryz.prog 49 #[(Value.pointer w_1), (Value.int .i64 n5)] w4 fun e6 w7 =>
  e6 = Ending.returned undef ∧
  ∃ s8, World.cell? w7 (Addr.add ⟨Array.size (World.heap w), 0, none⟩ 1) = some (Value.string s8) ∧
  Calls Tryz.prog 75 #[(Value.pointer w_1), (Value.string s8)] w7 fun e9 w10 =>
  e9 = Ending.returned undef ∧
  R (Ending.returned undef) w10) :
  Calls Tryz.prog 106 #[(Value.pointer w_1), (Value.agg #[(Value.int .i64 p_2), (Value.string p_3)])] w R :=
  V.Z.calls_of_N ⟨V.assoc [], V.assocP [], V.assocC [], V.assocS [], ⟨[], true⟩⟩ Tryz.func106 rfl (Eq.mp (by kernel_rfl) h)

theorem berthref26_In_raw_nf (r_1 : Option Addr) (w : World) (R : Ending → World → Prop) (h :
  V.ptr r_1 fun a2 =>
  ∃ n3, World.cell? w (Addr.add a2 1) = some (Value.int .i64 n3) ∧
  ∃ I4 : Int → Int → World → Prop, ∃ μ5 : Int → Int → World → Nat, I4 0 0 w ∧
  ∀ n_6 i_7 (j8 : Nat → Value) (w9 : World), I4 n_6 i_7 w9 →
  (V.sel (decide (i_7 < 10))
  (Calls Tryz.prog 131 #[(Value.pointer r_1)] w9 fun e11 w12 =>
  ∃ n10, e11 = Ending.returned (Value.int .i64 n10) ∧
  V.ptr r_1 fun a13 =>
  ∃ n14, World.cell? w12 (Addr.add a13 6) = some (Value.int .i64 n14) ∧
  V.sel (n14 != 0)
  (R (Ending.returned (Value.int .u64 0)) w12)
  (V.sel (i_7 == 9)
  (V.sel (decide (n10 > 1))
  (Calls Tryz.prog 72 #[(Value.pointer r_1), (Value.int .i64 263), (Value.int .i64 n3)] w12 fun e15 w16 =>
  e15 = Ending.returned undef ∧
  R (Ending.returned (Value.int .u64 0)) w16)
  (V.when (decide (0 ≤ (IntKind.wrap .i64 (7 * i_7)))) (V.lt (IntKind.wrap .u64 ((BitVec.toNat (BitVec.ofInt 64 n_6 ||| BitVec.ofInt 64 (IntKind.wrap .u64 ((IntKind.wrap .u64 ((Int.tmod n10 128))) * 2 ^ (min (Int.toNat (IntKind.wrap .i64 (7 * i_7))) 64)))) : Nat) : Int)) fun x17 =>
  V.sel (decide (n10 < 128))
  (V.sel (n10 == 0)
  (V.sel (decide (i_7 > 0))
  (Calls Tryz.prog 72 #[(Value.pointer r_1), (Value.int .i64 263), (Value.int .i64 n3)] w12 fun e18 w19 =>
  e18 = Ending.returned undef ∧
  R (Ending.returned (Value.int .u64 0)) w19)
  (R (Ending.returned (Value.int .u64 x17)) w12))
  (R (Ending.returned (Value.int .u64 x17)) w12))
  (I4 x17 (IntKind.wrap .i64 (i_7 + 1)) w12 ∧ μ5 x17 (IntKind.wrap .i64 (i_7 + 1)) w12 < μ5 n_6 i_7 w9))))
  (V.when (decide (0 ≤ (IntKind.wrap .i64 (7 * i_7)))) (V.lt (IntKind.wrap .u64 ((BitVec.toNat (BitVec.ofInt 64 n_6 ||| BitVec.ofInt 64 (IntKind.wrap .u64 ((IntKind.wrap .u64 ((Int.tmod n10 128))) * 2 ^ (min (Int.toNat (IntKind.wrap .i64 (7 * i_7))) 64)))) : Nat) : Int)) fun x20 =>
  V.sel (decide (n10 < 128))
  (V.sel (n10 == 0)
  (V.sel (decide (i_7 > 0))
  (Calls Tryz.prog 72 #[(Value.pointer r_1), (Value.int .i64 263), (Value.int .i64 n3)] w12 fun e21 w22 =>
  e21 = Ending.returned undef ∧
  R (Ending.returned (Value.int .u64 0)) w22)
  (R (Ending.returned (Value.int .u64 x20)) w12))
  (R (Ending.returned (Value.int .u64 x20)) w12))
  (I4 x20 (IntKind.wrap .i64 (i_7 + 1)) w12 ∧ μ5 x20 (IntKind.wrap .i64 (i_7 + 1)) w12 < μ5 n_6 i_7 w9)))))
  (Calls Tryz.prog 72 #[(Value.pointer r_1), (Value.int .i64 263), (Value.int .i64 n3)] w9 fun e23 w24 =>
  e23 = Ending.returned undef ∧
  R (Ending.returned (Value.int .u64 0)) w24))) :
  Calls Tryz.prog 128 #[(Value.pointer r_1)] w R :=
  V.Z.calls_of_N ⟨V.assoc [(0, [4, 5])], V.assocP [], V.assocC [], V.assocS [], ⟨[], true⟩⟩ Tryz.func128 rfl (Eq.mp (by kernel_rfl) h)

theorem berthref26_In_labels_nf (r_1 : Option Addr) (w : World) (R : Ending → World → Prop) (h :
  Calls Tryz.prog 95 #[(Value.pointer r_1)] w fun e3 w4 =>
  ∃ n2, e3 = Ending.returned (Value.int .i64 n2) ∧
  ∃ I5 : Option Addr → Nat → Nat → Int → World → Prop, ∃ μ6 : Option Addr → Nat → Nat → Int → World → Nat, I5 none 0 0 0 w4 ∧
  ∀ l_7 l_7l l_7c i_8 (j9 : Nat → Value) (w10 : World), I5 l_7 l_7l l_7c i_8 w10 →
  (V.sel (decide (i_8 < n2))
  (V.ptr r_1 fun a11 =>
  ∃ n12, World.cell? w10 (Addr.add a11 6) = some (Value.int .i64 n12) ∧
  V.sel (n12 == 0)
  (∀ w13, w13 = (World.alloc w10 (.cells #[(Value.string ByteArray.empty), (Value.string ByteArray.empty)] 87)) →
  ∃ w14, Sem.run Tryz.prog (Instr.storeAt 87 (Value.pointer (some ⟨Array.size (World.heap w10), 0, none⟩)) (Value.agg #[(Value.string ByteArray.empty), (Value.string ByteArray.empty)])) w13 = .ok () w14 ∧
  Calls Tryz.prog 99 #[(Value.pointer r_1)] w14 fun e16 w17 =>
  ∃ s15, e16 = Ending.returned (Value.string s15) ∧
  ∃ w18, Sem.run Tryz.prog (Instr.storeAt 9 (Value.pointer (some (Addr.add ⟨Array.size (World.heap w10), 0, none⟩ 0))) (Value.string s15)) w17 = .ok () w18 ∧
  Calls Tryz.prog 99 #[(Value.pointer r_1)] w18 fun e20 w21 =>
  ∃ s19, e20 = Ending.returned (Value.string s19) ∧
  ∃ w22, Sem.run Tryz.prog (Instr.storeAt 9 (Value.pointer (some (Addr.add ⟨Array.size (World.heap w10), 0, none⟩ 1))) (Value.string s19)) w21 = .ok () w22 ∧
  ∃ s23, ∃ s24, V.cellsC (fun a_ x_ => World.cell? w22 a_ = some x_) ⟨Array.size (World.heap w10), 0, none⟩ [(Value.string s23), (Value.string s24)] ∧
  ∀ w25, w25 = (World.alloc w22 (.cells #[(Value.string s23), (Value.string s24)] 87)) →
  ∃ A26, ∃ A26l, ∃ A26c, ∃ w27, Sem.run Tryz.prog (Builtin.append_ #[49, 49] 49 #[(Value.slice l_7 l_7l l_7c), (Value.slice (some ⟨Array.size (World.heap w22), 0, none⟩) 1 1)]) w25 = .ok (Value.slice A26 A26l A26c) w27 ∧
  I5 A26 A26l A26c (IntKind.wrap .i64 (i_8 + 1)) w27 ∧ μ6 A26 A26l A26c (IntKind.wrap .i64 (i_8 + 1)) w27 < μ6 l_7 l_7l l_7c i_8 w10)
  (R (Ending.returned (Value.slice l_7 l_7l l_7c)) w10))
  (R (Ending.returned (Value.slice l_7 l_7l l_7c)) w10))) :
  Calls Tryz.prog 129 #[(Value.pointer r_1)] w R :=
  V.Z.calls_of_N ⟨V.assoc [(0, [3, 5])], V.assocP [], V.assocC [], V.assocS [], ⟨[], true⟩⟩ Tryz.func129 rfl (Eq.mp (by kernel_rfl) h)

theorem berthref26_In_items_nf (r_1 : Option Addr) (w : World) (R : Ending → World → Prop) (h :
  Calls Tryz.prog 95 #[(Value.pointer r_1)] w fun e3 w4 =>
  ∃ n2, e3 = Ending.returned (Value.int .i64 n2) ∧
  ∃ I5 : Option Addr → Nat → Nat → Int → World → Prop, ∃ μ6 : Option Addr → Nat → Nat → Int → World → Nat, I5 none 0 0 0 w4 ∧
  ∀ l_7 l_7l l_7c i_8 (j9 : Nat → Value) (w10 : World), I5 l_7 l_7l l_7c i_8 w10 →
  (V.sel (decide (i_8 < n2))
  (V.ptr r_1 fun a11 =>
  ∃ n12, World.cell? w10 (Addr.add a11 6) = some (Value.int .i64 n12) ∧
  V.sel (n12 == 0)
  (∀ w13, w13 = (World.alloc w10 (.cells #[(Value.string ByteArray.empty), (Value.int .i64 0)] 91)) →
  ∃ w14, Sem.run Tryz.prog (Instr.storeAt 91 (Value.pointer (some ⟨Array.size (World.heap w10), 0, none⟩)) (Value.agg #[(Value.string ByteArray.empty), (Value.int .i64 0)])) w13 = .ok () w14 ∧
  Calls Tryz.prog 99 #[(Value.pointer r_1)] w14 fun e16 w17 =>
  ∃ s15, e16 = Ending.returned (Value.string s15) ∧
  ∃ w18, Sem.run Tryz.prog (Instr.storeAt 9 (Value.pointer (some (Addr.add ⟨Array.size (World.heap w10), 0, none⟩ 0))) (Value.string s15)) w17 = .ok () w18 ∧
  Calls Tryz.prog 96 #[(Value.pointer r_1)] w18 fun e20 w21 =>
  ∃ n19, e20 = Ending.returned (Value.int .i64 n19) ∧
  ∃ w22, Sem.run Tryz.prog (Instr.storeAt 3 (Value.pointer (some (Addr.add ⟨Array.size (World.heap w10), 0, none⟩ 1))) (Value.int .i64 n19)) w21 = .ok () w22 ∧
  ∃ s23, ∃ n24, V.cellsC (fun a_ x_ => World.cell? w22 a_ = some x_) ⟨Array.size (World.heap w10), 0, none⟩ [(Value.string s23), (Value.int .i64 n24)] ∧
  ∀ w25, w25 = (World.alloc w22 (.cells #[(Value.string s23), (Value.int .i64 n24)] 91)) →
  ∃ A26, ∃ A26l, ∃ A26c, ∃ w27, Sem.run Tryz.prog (Builtin.append_ #[51, 51] 51 #[(Value.slice l_7 l_7l l_7c), (Value.slice (some ⟨Array.size (World.heap w22), 0, none⟩) 1 1)]) w25 = .ok (Value.slice A26 A26l A26c) w27 ∧
  I5 A26 A26l A26c (IntKind.wrap .i64 (i_8 + 1)) w27 ∧ μ6 A26 A26l A26c (IntKind.wrap .i64 (i_8 + 1)) w27 < μ6 l_7 l_7l l_7c i_8 w10)
  (R (Ending.returned (Value.slice l_7 l_7l l_7c)) w10))
  (R (Ending.returned (Value.slice l_7 l_7l l_7c)) w10))) :
  Calls Tryz.prog 130 #[(Value.pointer r_1)] w R :=
  V.Z.calls_of_N ⟨V.assoc [(0, [3, 5])], V.assocP [], V.assocC [], V.assocS [], ⟨[], true⟩⟩ Tryz.func130 rfl (Eq.mp (by kernel_rfl) h)

theorem berthref26_In_one_nf (r_1 : Option Addr) (w : World) (R : Ending → World → Prop) (h :
  V.ptr r_1 fun a2 =>
  ∃ n3, World.cell? w (Addr.add a2 6) = some (Value.int .i64 n3) ∧
  V.sel (n3 != 0)
  (R (Ending.returned (Value.int .i64 0)) w)
  (V.ptr r_1 fun a4 =>
  ∃ n5, World.cell? w (Addr.add a4 1) = some (Value.int .i64 n5) ∧
  V.ptr r_1 fun a6 =>
  ∃ n7, World.cell? w (Addr.add a6 2) = some (Value.int .i64 n7) ∧
  V.sel (decide (n5 ≥ n7))
  (V.ptr r_1 fun a8 =>
  ∃ n9, World.cell? (World.drew w) (Addr.add a8 2) = some (Value.int .i64 n9) ∧
  Calls Tryz.prog 72 #[(Value.pointer r_1), (Value.int .i64 262), (Value.int .i64 n9)] (World.drew w) fun e10 w11 =>
  e10 = Ending.returned undef ∧
  R (Ending.returned (Value.int .i64 0)) w11)
  (V.ptr r_1 fun a12 =>
  ∃ A13, ∃ A13l, ∃ A13c, World.cell? (World.drew w) (Addr.add a12 0) = some (Value.slice A13 A13l A13c) ∧
  V.ptr r_1 fun a14 =>
  ∃ n15, World.cell? (World.drew w) (Addr.add a14 1) = some (Value.int .i64 n15) ∧
  V.when (decide ((0 : Int) ≤ n15 ∧ (n15 : Int) < ((A13l : Nat) : Int))) (V.ptr A13 fun a16 =>
  ∃ n17, World.cell? (World.drew w) (Addr.add a16 ((Int.toNat n15) * 1)) = some (Value.int .u8 n17) ∧
  V.ptr r_1 fun a18 =>
  ∃ n19, World.cell? (World.drew (World.drew w)) (Addr.add a18 1) = some (Value.int .i64 n19) ∧
  V.ptr r_1 fun a20 =>
  ∃ w21, Sem.run Tryz.prog (Instr.storeAt 3 (Value.pointer (some (Addr.add a20 1))) (Value.int .i64 (IntKind.wrap .i64 (n19 + 1)))) (World.drew (World.drew w)) = .ok () w21 ∧
  R (Ending.returned (Value.int .i64 (IntKind.wrap .i64 (n17)))) w21)))) :
  Calls Tryz.prog 131 #[(Value.pointer r_1)] w R :=
  V.Z.calls_of_N ⟨V.assoc [], V.assocP [(3, V.line [0, 1, 2, 3, 4, 5, 6, 7, 8]), (6, V.line [0, 1, 2, 3, 4, 5, 6, 7, 8, 9, 10, 11])], V.assocC [], V.assocS [], ⟨[], true⟩⟩ Tryz.func131 rfl (Eq.mp (by kernel_rfl) h)

theorem slices_Index___bool_bool__nf (s_1 : Option Addr) (s_1l : Nat) (s_1c : Nat) (v_2 : Bool) (w : World) (R : Ending → World → Prop) (h :
  ∃ I3 : Int → World → Prop, ∃ μ4 : Int → World → Nat, I3 0 w ∧
  ∀ t8_5 (j6 : Nat → Value) (w7 : World), I3 t8_5 w7 →
  (V.sel (decide (t8_5 < ((s_1l : Nat) : Int)))
  (V.when (decide ((0 : Int) ≤ t8_5 ∧ (t8_5 : Int) < ((s_1l : Nat) : Int))) (V.ptr s_1 fun a8 =>
  ∃ b9, World.cell? w7 (Addr.add a8 ((Int.toNat t8_5) * 1)) = some (Value.bool b9) ∧
  V.sel (v_2 == b9)
  (R (Ending.returned (Value.int .i64 t8_5)) w7)
  (I3 (IntKind.wrap .i64 (t8_5 + 1)) w7 ∧ μ4 (IntKind.wrap .i64 (t8_5 + 1)) w7 < μ4 t8_5 w7)))
  (R (Ending.returned (Value.int .i64 (-1))) w7))) :
  Calls Tryz.prog 63 #[(Value.slice s_1 s_1l s_1c), (Value.bool v_2)] w R :=
  V.Z.calls_of_N ⟨V.assoc [(0, [8])], V.assocP [], V.assocC [], V.assocS [], ⟨[], true⟩⟩ Tryz.func63 rfl (Eq.mp (by kernel_rfl) h)

theorem slices_Sorted_string__nf (seq_f1 : Nat) (seq_a2 : Array Value) (seq_c3 : Array Value) (w : World) (R : Ending → World → Prop) (h :
  Calls Tryz.prog 56 #[(Value.func (.func seq_f1) seq_a2 seq_c3)] w fun e5 w6 =>
  ∃ A4, ∃ A4l, ∃ A4c, e5 = Ending.returned (Value.slice A4 A4l A4c) ∧
  Calls Tryz.prog 57 #[(Value.slice A4 A4l A4c)] w6 fun e7 w8 =>
  e7 = Ending.returned undef ∧
  R (Ending.returned (Value.slice A4 A4l A4c)) w8) :
  Calls Tryz.prog 30 #[(Value.func (.func seq_f1) seq_a2 seq_c3)] w R :=
  V.Z.calls_of_N ⟨V.assoc [], V.assocP [], V.assocC [], V.assocS [], ⟨[], true⟩⟩ Tryz.func30 rfl (Eq.mp (by kernel_rfl) h)

theorem slices_Sorted_string__nil_nf  (w : World) (R : Ending → World → Prop) (h :
  Calls Tryz.prog 56 #[Value.nilFunc] w fun e2 w3 =>
  ∃ A1, ∃ A1l, ∃ A1c, e2 = Ending.returned (Value.slice A1 A1l A1c) ∧
  Calls Tryz.prog 57 #[(Value.slice A1 A1l A1c)] w3 fun e4 w5 =>
  e4 = Ending.returned undef ∧
  R (Ending.returned (Value.slice A1 A1l A1c)) w5) :
  Calls Tryz.prog 30 #[Value.nilFunc] w R :=
  V.Z.calls_of_N ⟨V.assoc [], V.assocP [], V.assocC [], V.assocS [], ⟨[], true⟩⟩ Tryz.func30 rfl (Eq.mp (by kernel_rfl) h)

theorem maps_Keys_map_string_int_string_int__nf (m_1 : Option Nat) (w : World) (R : Ending → World → Prop) (h :
  ∀ w2, w2 = (World.alloc w (.cells #[(Value.map m_1)] 75)) →
  R (Ending.returned (Value.func (.func 58) #[] #[(Value.pointer (some ⟨Array.size (World.heap w), 0, none⟩))])) w2) :
  Calls Tryz.prog 31 #[(Value.map m_1)] w R :=
  V.Z.calls_of_N ⟨V.assoc [], V.assocP [], V.assocC [], V.assocS [], ⟨[], true⟩⟩ Tryz.func31 rfl (Eq.mp (by kernel_rfl) h)

theorem slices_Collect_string__nf (seq_f1 : Nat) (seq_a2 : Array Value) (seq_c3 : Array Value) (w : World) (R : Ending → World → Prop) (h :
  Calls Tryz.prog 84 #[(Value.slice none 0 0), (Value.func (.func seq_f1) seq_a2 seq_c3)] w fun e5 w6 =>
  ∃ A4, ∃ A4l, ∃ A4c, e5 = Ending.returned (Value.slice A4 A4l A4c) ∧
  R (Ending.returned (Value.slice A4 A4l A4c)) w6) :
  Calls Tryz.prog 56 #[(Value.func (.func seq_f1) seq_a2 seq_c3)] w R :=
  V.Z.calls_of_N ⟨V.assoc [], V.assocP [], V.assocC [], V.assocS [], ⟨[], true⟩⟩ Tryz.func56 rfl (Eq.mp (by kernel_rfl) h)

theorem slices_Collect_string__nil_nf  (w : World) (R : Ending → World → Prop) (h :
  Calls Tryz.prog 84 #[(Value.slice none 0 0), Value.nilFunc] w fun e2 w3 =>
  ∃ A1, ∃ A1l, ∃ A1c, e2 = Ending.returned (Value.slice A1 A1l A1c) ∧
  R (Ending.returned (Value.slice A1 A1l A1c)) w3) :
  Calls Tryz.prog 56 #[Value.nilFunc] w R :=
  V.Z.calls_of_N ⟨V.assoc [], V.assocP [], V.assocC [], V.assocS [], ⟨[], true⟩⟩ Tryz.func56 rfl (Eq.mp (by kernel_rfl) h)

theorem slices_Sort___string_string__nf (x_1 : Option Addr) (x_1l : Nat) (x_1c : Nat) (w : World) (R : Ending → World → Prop) (h :
  Calls Tryz.prog 86 #[(Value.int .u64 (IntKind.wrap .u64 (((x_1l : Nat) : Int))))] w fun e3 w4 =>
  ∃ n2, e3 = Ending.returned (Value.int .i64 n2) ∧
  Calls Tryz.prog 85 #[(Value.slice x_1 x_1l x_1c), (Value.int .i64 0), (Value.int .i64 ((x_1l : Nat) : Int)), (Value.int .i64 n2)] w4 fun e5 w6 =>
  e5 = Ending.returned undef ∧
  R (Ending.returned undef) w6) :
  Calls Tryz.prog 57 #[(Value.slice x_1 x_1l x_1c)] w R :=
  V.Z.calls_of_N ⟨V.assoc [], V.assocP [], V.assocC [], V.assocS [], ⟨[], true⟩⟩ Tryz.func57 rfl (Eq.mp (by kernel_rfl) h)

theorem maps_Keys_map_string_int_string_int__l1_nf (yl : Nat) (free0_1 : Option Addr) (w : World) (R : Ending → World → Prop) (h :
  V.ptr free0_1 fun a2 =>
  ∃ m3, World.cell? w a2 = some (Value.map m3) ∧
  ∃ p4, ∃ w5, Sem.run Tryz.prog (Instr.range 75 (Value.map m3)) w = .ok (Value.pointer p4) w5 ∧
  ∃ I6 : World → Prop, ∃ μ7 : World → Nat, I6 w5 ∧
  ∀ (j8 : Nat → Value) (w9 : World), I6 w9 →
  ((∃ w10, Sem.run Tryz.prog (Instr.next (Value.pointer p4) false 0) w9 = .ok (.tuple #[.bool false]) w10 ∧
  R (Ending.returned undef) w10) ∨
  (∃ k11, ∃ v12, ∃ w13, Sem.run Tryz.prog (Instr.next (Value.pointer p4) false 0) w9 = .ok (.tuple #[.bool true, k11, v12]) w13 ∧
  ∃ k14, ∃ v15, ∃ w16, Sem.run Tryz.prog (Instr.entry (Value.pointer p4)) w13 = .ok (.tuple #[.string k14, v15]) w16 ∧
  V.Yield Tryz.prog yl [(Value.string k14)] w16 fun e18 w19 =>
  ∃ b17, e18 = Ending.returned (Value.bool b17) ∧
  V.sel (!b17)
  (R (Ending.returned undef) w19)
  (I6 w19 ∧ μ7 w19 < μ7 w9)))) :
  Calls Tryz.prog 58 #[(Value.func (.yield yl) #[] #[]), (Value.pointer free0_1)] w R :=
  V.Z.calls_of_N ⟨V.assoc [(0, [])], V.assocP [], V.assocC [], V.assocS [], ⟨[], true⟩⟩ Tryz.func58 rfl (Eq.mp (by kernel_rfl) h)

theorem slices_AppendSeq___string_string__nf (s_1 : Option Addr) (s_1l : Nat) (s_1c : Nat) (seq_f2 : Nat) (seq_a3 : Array Value) (seq_c4 : Array Value) (w : World) (R : Ending → World → Prop) (h :
  ∀ w5, w5 = (World.alloc w (.cells #[(Value.slice s_1 s_1l s_1c)] 56)) →
  V.when (V.hasB Tryz.prog seq_f2 && true) (∀ (Rc6 : Loop) (l7 : Nat) (w8 : World), l7 = Array.size (World.heap w5) + 1 → w8 = World.alloc (World.alloc w5 (.deferred (some []))) (.loop { Rc6 with state := .ready, pending := none }) →
  (∀ y7_11 (W9 : World) (R10 : Ending → World → Prop), V.LoopSt W9 l7 Rc6 .ready none →
  (V.LoopSt W9 l7 Rc6 .ready none ∧
  ∃ A12, ∃ A12l, ∃ A12c, World.cell? (V.setLoop W9 l7 Rc6 .busy none) ⟨Array.size (World.heap w), 0, none⟩ = some (Value.slice A12 A12l A12c) ∧
  ∀ w13, w13 = (World.alloc (V.setLoop W9 l7 Rc6 .busy none) (.cells #[(Value.string y7_11)] 9)) →
  ∃ A14, ∃ A14l, ∃ A14c, ∃ w15, Sem.run Tryz.prog (Builtin.append_ #[56, 56] 56 #[(Value.slice A12 A12l A12c), (Value.slice (some ⟨Array.size (World.heap (V.setLoop W9 l7 Rc6 .busy none)), 0, none⟩) 1 1)]) w13 = .ok (Value.slice A14 A14l A14c) w15 ∧
  ∃ w16, Sem.run Tryz.prog (Instr.storeAt 56 (Value.pointer (some ⟨Array.size (World.heap w), 0, none⟩)) (Value.slice A14 A14l A14c)) w15 = .ok () w16 ∧
  V.LoopSt w16 l7 Rc6 .busy none ∧ R10 (Ending.returned (Value.bool true)) (V.setLoop w16 l7 Rc6 .ready none)) →
  V.Yield Tryz.prog l7 [(Value.string y7_11)] W9 R10) →
  Calls Tryz.prog seq_f2 ⟨Array.toList seq_a3 ++ [(Value.func (.yield l7) #[] #[])] ++ Array.toList seq_c4⟩ w8 fun e17 w19 => (∃ v18, e17 = Ending.returned v18) ∧
  ((V.LoopSt w19 l7 Rc6 .ready none ∧
  ∃ A20, ∃ A20l, ∃ A20c, World.cell? (V.setLoop w19 l7 Rc6 .exhausted none) ⟨Array.size (World.heap w), 0, none⟩ = some (Value.slice A20 A20l A20c) ∧
  V.closeR (Array.size (World.heap w5) :: []) (V.setLoop w19 l7 Rc6 .exhausted none) fun w21 =>
  R (Ending.returned (Value.slice A20 A20l A20c)) w21) ∨
  False))) :
  Calls Tryz.prog 84 #[(Value.slice s_1 s_1l s_1c), (Value.func (.func seq_f2) seq_a3 seq_c4)] w R :=
  V.Z.calls_of_N ⟨V.assoc [], V.assocP [], V.assocC [], V.assocS [(0, [V.Sh.one .str])], ⟨[], true⟩⟩ Tryz.func84 rfl (Eq.mp (by kernel_rfl) h)

theorem berthlaw26_ImageEncodes_nf (st_1 : Int) (st_2 : Int) (st_3 : Option Addr) (st_3l : Nat) (st_3c : Nat) (st_4 : Option Addr) (st_4l : Nat) (st_4c : Nat) (st_5 : Option Addr) (st_5l : Nat) (st_5c : Nat) (w : World) (R : Ending → World → Prop) (h :
  ∀ w6, w6 = (World.alloc w (.cells #[(Value.int .i64 st_1), (Value.int .i64 st_2), (Value.slice st_3 st_3l st_3c), (Value.slice st_4 st_4l st_4c), (Value.slice st_5 st_5l st_5c)] 26)) →
  Calls Tryz.prog 12 #[] w6 fun e8 w9 =>
  ∃ b7, e8 = Ending.returned (Value.bool b7) ∧
  V.sel (!b7)
  (R (Ending.returned (Value.bool false)) w9)
  (∃ n10, ∃ n11, ∃ A12, ∃ A12l, ∃ A12c, ∃ A13, ∃ A13l, ∃ A13c, ∃ A14, ∃ A14l, ∃ A14c, V.cellsC (fun a_ x_ => World.cell? w9 a_ = some x_) ⟨Array.size (World.heap w), 0, none⟩ [(Value.int .i64 n10), (Value.int .i64 n11), (Value.slice A12 A12l A12c), (Value.slice A13 A13l A13c), (Value.slice A14 A14l A14c)] ∧
  Calls Tryz.prog 14 #[(Value.agg #[(Value.int .i64 n10), (Value.int .i64 n11), (Value.slice A12 A12l A12c), (Value.slice A13 A13l A13c), (Value.slice A14 A14l A14c)])] w9 fun e20 w21 =>
  ∃ n15, ∃ n16, ∃ A17, ∃ A17l, ∃ A17c, ∃ A18, ∃ A18l, ∃ A18c, ∃ A19, ∃ A19l, ∃ A19c, e20 = Ending.returned (Value.agg #[(Value.int .i64 n15), (Value.int .i64 n16), (Value.slice A17 A17l A17c), (Value.slice A18 A18l A18c), (Value.slice A19 A19l A19c)]) ∧
  Calls Tryz.prog 13 #[(Value.agg #[(Value.int .i64 n15), (Value.int .i64 n16), (Value.slice A17 A17l A17c), (Value.slice A18 A18l A18c), (Value.slice A19 A19l A19c)])] w21 fun e24 w25 =>
  ∃ A22, ∃ A22l, ∃ A22c, ∃ n23, e24 = Ending.returned (Value.tuple #[(Value.slice A22 A22l A22c), (Value.int .i64 n23)]) ∧
  ∃ n26, ∃ n27, ∃ A28, ∃ A28l, ∃ A28c, ∃ A29, ∃ A29l, ∃ A29c, ∃ A30, ∃ A30l, ∃ A30c, V.cellsC (fun a_ x_ => World.cell? w25 a_ = some x_) ⟨Array.size (World.heap w), 0, none⟩ [(Value.int .i64 n26), (Value.int .i64 n27), (Value.slice A28 A28l A28c), (Value.slice A29 A29l A29c), (Value.slice A30 A30l A30c)] ∧
  Calls Tryz.prog 15 #[(Value.agg #[(Value.int .i64 n26), (Value.int .i64 n27), (Value.slice A28 A28l A28c), (Value.slice A29 A29l A29c), (Value.slice A30 A30l A30c)])] w25 fun e33 w34 =>
  ∃ A31, ∃ A31l, ∃ A31c, ∃ n32, e33 = Ending.returned (Value.tuple #[(Value.slice A31 A31l A31c), (Value.int .i64 n32)]) ∧
  V.sel (n32 == n23)
  (Calls Tryz.prog 16 #[(Value.slice A31 A31l A31c), (Value.slice A22 A22l A22c)] w34 fun e36 w37 =>
  ∃ b35, e36 = Ending.returned (Value.bool b35) ∧
  R (Ending.returned (Value.bool b35)) w37)
  (R (Ending.returned (Value.bool false)) w34))) :
  Calls Tryz.prog 3 #[(Value.agg #[(Value.int .i64 st_1), (Value.int .i64 st_2), (Value.slice st_3 st_3l st_3c), (Value.slice st_4 st_4l st_4c), (Value.slice st_5 st_5l st_5c)])] w R :=
  V.Z.calls_of_N ⟨V.assoc [], V.assocP [], V.assocC [], V.assocS [], ⟨[], true⟩⟩ Tryz.func3 rfl (Eq.mp (by kernel_rfl) h)

theorem berthlaw26_ImageTurned_nf (st_1 : Int) (st_2 : Int) (st_3 : Option Addr) (st_3l : Nat) (st_3c : Nat) (st_4 : Option Addr) (st_4l : Nat) (st_4c : Nat) (st_5 : Option Addr) (st_5l : Nat) (st_5c : Nat) (at_6 : Int) (x_7 : Int) (w : World) (R : Ending → World → Prop) (h :
  ∀ w8, w8 = (World.alloc w (.cells #[(Value.int .i64 st_1), (Value.int .i64 st_2), (Value.slice st_3 st_3l st_3c), (Value.slice st_4 st_4l st_4c), (Value.slice st_5 st_5l st_5c)] 26)) →
  Calls Tryz.prog 12 #[] w8 fun e10 w11 =>
  ∃ b9, e10 = Ending.returned (Value.bool b9) ∧
  V.sel (!b9)
  (R (Ending.returned (Value.bool false)) w11)
  (∃ n12, ∃ n13, ∃ A14, ∃ A14l, ∃ A14c, ∃ A15, ∃ A15l, ∃ A15c, ∃ A16, ∃ A16l, ∃ A16c, V.cellsC (fun a_ x_ => World.cell? w11 a_ = some x_) ⟨Array.size (World.heap w), 0, none⟩ [(Value.int .i64 n12), (Value.int .i64 n13), (Value.slice A14 A14l A14c), (Value.slice A15 A15l A15c), (Value.slice A16 A16l A16c)] ∧
  Calls Tryz.prog 15 #[(Value.agg #[(Value.int .i64 n12), (Value.int .i64 n13), (Value.slice A14 A14l A14c), (Value.slice A15 A15l A15c), (Value.slice A16 A16l A16c)])] w11 fun e19 w20 =>
  ∃ A17, ∃ A17l, ∃ A17c, ∃ n18, e19 = Ending.returned (Value.tuple #[(Value.slice A17 A17l A17c), (Value.int .i64 n18)]) ∧
  V.sel (n18 != 0)
  (V.sel (n18 == 265)
  (∃ n21, ∃ n22, ∃ A23, ∃ A23l, ∃ A23c, ∃ A24, ∃ A24l, ∃ A24c, ∃ A25, ∃ A25l, ∃ A25c, V.cellsC (fun a_ x_ => World.cell? w20 a_ = some x_) ⟨Array.size (World.heap w), 0, none⟩ [(Value.int .i64 n21), (Value.int .i64 n22), (Value.slice A23 A23l A23c), (Value.slice A24 A24l A24c), (Value.slice A25 A25l A25c)] ∧
  Calls Tryz.prog 17 #[(Value.agg #[(Value.int .i64 n21), (Value.int .i64 n22), (Value.slice A23 A23l A23c), (Value.slice A24 A24l A24c), (Value.slice A25 A25l A25c)])] w20 fun e27 w28 =>
  ∃ n26, e27 = Ending.returned (Value.int .i64 n26) ∧
  R (Ending.returned (Value.bool (decide (n26 > 16777200)))) w28)
  (R (Ending.returned (Value.bool false)) w20))
  (V.sel (decide (at_6 < 0))
  (R (Ending.returned (Value.bool (decide (((A17l : Nat) : Int) ≥ 20)))) w20)
  (V.sel (decide (at_6 ≥ ((A17l : Nat) : Int)))
  (R (Ending.returned (Value.bool (decide (((A17l : Nat) : Int) ≥ 20)))) w20)
  (V.sel (x_7 == 0)
  (R (Ending.returned (Value.bool (decide (((A17l : Nat) : Int) ≥ 20)))) w20)
  (V.when (decide ((0 : Int) ≤ at_6 ∧ (at_6 : Int) < ((A17l : Nat) : Int))) (V.ptr A17 fun a29 =>
  ∃ n30, World.cell? w20 (Addr.add a29 ((Int.toNat at_6) * 1)) = some (Value.int .u8 n30) ∧
  V.when (decide ((0 : Int) ≤ at_6 ∧ (at_6 : Int) < ((A17l : Nat) : Int))) (V.ptr A17 fun a31 =>
  ∃ w32, Sem.run Tryz.prog (Instr.storeAt 5 (Value.pointer (some (Addr.add a31 ((Int.toNat at_6) * 1)))) (Value.int .u8 (IntKind.wrap .u8 ((BitVec.toNat (BitVec.ofInt 8 n30 ^^^ BitVec.ofInt 8 x_7) : Nat) : Int)))) w20 = .ok () w32 ∧
  Calls Tryz.prog 18 #[(Value.slice A17 A17l A17c)] w32 fun e39 w40 =>
  ∃ n33, ∃ n34, ∃ A35, ∃ A35l, ∃ A35c, ∃ A36, ∃ A36l, ∃ A36c, ∃ A37, ∃ A37l, ∃ A37c, ∃ v38, e39 = Ending.returned (Value.tuple #[(Value.agg #[(Value.int .i64 n33), (Value.int .i64 n34), (Value.slice A35 A35l A35c), (Value.slice A36 A36l A36c), (Value.slice A37 A37l A37c)]), v38]) ∧
  ∀ w41, w41 = (World.alloc w40 (.cells #[(Value.int .i64 0), (Value.int .i64 0), (Value.slice none 0 0), (Value.slice none 0 0), (Value.slice none 0 0)] 26)) →
  ∃ w42, Sem.run Tryz.prog (Instr.storeAt 26 (Value.pointer (some ⟨Array.size (World.heap w40), 0, none⟩)) (Value.agg #[(Value.int .i64 n33), (Value.int .i64 n34), (Value.slice A35 A35l A35c), (Value.slice A36 A36l A36c), (Value.slice A37 A37l A37c)])) w41 = .ok () w42 ∧
  V.when (V.Z.isIfc v38) (V.sel (!(V.Z.isNilI v38))
  (∃ n43, ∃ n44, ∃ A45, ∃ A45l, ∃ A45c, ∃ A46, ∃ A46l, ∃ A46c, ∃ A47, ∃ A47l, ∃ A47c, V.cellsC (fun a_ x_ => World.cell? w42 a_ = some x_) ⟨Array.size (World.heap w40), 0, none⟩ [(Value.int .i64 n43), (Value.int .i64 n44), (Value.slice A45 A45l A45c), (Value.slice A46 A46l A46c), (Value.slice A47 A47l A47c)] ∧
  Calls Tryz.prog 19 #[(Value.agg #[(Value.int .i64 n43), (Value.int .i64 n44), (Value.slice A45 A45l A45c), (Value.slice A46 A46l A46c), (Value.slice A47 A47l A47c)]), (Value.agg #[(Value.int .i64 0), (Value.int .i64 0), (Value.slice none 0 0), (Value.slice none 0 0), (Value.slice none 0 0)])] w42 fun e49 w50 =>
  ∃ b48, e49 = Ending.returned (Value.bool b48) ∧
  R (Ending.returned (Value.bool b48)) w50)
  (R (Ending.returned (Value.bool false)) w42)))))))))) :
  Calls Tryz.prog 4 #[(Value.agg #[(Value.int .i64 st_1), (Value.int .i64 st_2), (Value.slice st_3 st_3l st_3c), (Value.slice st_4 st_4l st_4c), (Value.slice st_5 st_5l st_5c)]), (Value.int .i64 at_6), (Value.int .u8 x_7)] w R :=
  V.Z.calls_of_N ⟨V.assoc [], V.assocP [], V.assocC [], V.assocS [], ⟨[], true⟩⟩ Tryz.func4 rfl (Eq.mp (by kernel_rfl) h)

theorem berthlaw26_ImageTells_nf (one_1 : Int) (one_2 : Int) (one_3 : Option Addr) (one_3l : Nat) (one_3c : Nat) (one_4 : Option Addr) (one_4l : Nat) (one_4c : Nat) (one_5 : Option Addr) (one_5l : Nat) (one_5c : Nat) (other_6 : Int) (other_7 : Int) (other_8 : Option Addr) (other_8l : Nat) (other_8c : Nat) (other_9 : Option Addr) (other_9l : Nat) (other_9c : Nat) (other_10 : Option Addr) (other_10l : Nat) (other_10c : Nat) (w : World) (R : Ending → World → Prop) (h :
  ∀ w11, w11 = (World.alloc w (.cells #[(Value.int .i64 one_1), (Value.int .i64 one_2), (Value.slice one_3 one_3l one_3c), (Value.slice one_4 one_4l one_4c), (Value.slice one_5 one_5l one_5c)] 26)) →
  ∀ w12, w12 = (World.alloc w11 (.cells #[(Value.int .i64 other_6), (Value.int .i64 other_7), (Value.slice other_8 other_8l other_8c), (Value.slice other_9 other_9l other_9c), (Value.slice other_10 other_10l other_10c)] 26)) →
  Calls Tryz.prog 12 #[] w12 fun e14 w15 =>
  ∃ b13, e14 = Ending.returned (Value.bool b13) ∧
  V.sel (!b13)
  (R (Ending.returned (Value.bool false)) w15)
  (∃ n16, ∃ n17, ∃ A18, ∃ A18l, ∃ A18c, ∃ A19, ∃ A19l, ∃ A19c, ∃ A20, ∃ A20l, ∃ A20c, V.cellsC (fun a_ x_ => World.cell? w15 a_ = some x_) ⟨Array.size (World.heap w), 0, none⟩ [(Value.int .i64 n16), (Value.int .i64 n17), (Value.slice A18 A18l A18c), (Value.slice A19 A19l A19c), (Value.slice A20 A20l A20c)] ∧
  Calls Tryz.prog 15 #[(Value.agg #[(Value.int .i64 n16), (Value.int .i64 n17), (Value.slice A18 A18l A18c), (Value.slice A19 A19l A19c), (Value.slice A20 A20l A20c)])] w15 fun e23 w24 =>
  ∃ A21, ∃ A21l, ∃ A21c, ∃ n22, e23 = Ending.returned (Value.tuple #[(Value.slice A21 A21l A21c), (Value.int .i64 n22)]) ∧
  ∃ n25, ∃ n26, ∃ A27, ∃ A27l, ∃ A27c, ∃ A28, ∃ A28l, ∃ A28c, ∃ A29, ∃ A29l, ∃ A29c, V.cellsC (fun a_ x_ => World.cell? w24 a_ = some x_) ⟨Array.size (World.heap w11), 0, none⟩ [(Value.int .i64 n25), (Value.int .i64 n26), (Value.slice A27 A27l A27c), (Value.slice A28 A28l A28c), (Value.slice A29 A29l A29c)] ∧
  Calls Tryz.prog 15 #[(Value.agg #[(Value.int .i64 n25), (Value.int .i64 n26), (Value.slice A27 A27l A27c), (Value.slice A28 A28l A28c), (Value.slice A29 A29l A29c)])] w24 fun e32 w33 =>
  ∃ A30, ∃ A30l, ∃ A30c, ∃ n31, e32 = Ending.returned (Value.tuple #[(Value.slice A30 A30l A30c), (Value.int .i64 n31)]) ∧
  ∃ J34 : Bool → World → Prop, (V.sel (n22 != 0)
  (J34 true w33)
  (J34 (n31 != 0) w33)) ∧
  ∀ t26_35 (j36 : Nat → Value) (w37 : World), J34 t26_35 w37 →
  V.sel t26_35
  (V.sel (n22 == 0)
  (V.sel (n31 == 0)
  (R (Ending.returned (Value.bool true)) w37)
  (∃ n38, ∃ n39, ∃ A40, ∃ A40l, ∃ A40c, ∃ A41, ∃ A41l, ∃ A41c, ∃ A42, ∃ A42l, ∃ A42c, V.cellsC (fun a_ x_ => World.cell? w37 a_ = some x_) ⟨Array.size (World.heap w11), 0, none⟩ [(Value.int .i64 n38), (Value.int .i64 n39), (Value.slice A40 A40l A40c), (Value.slice A41 A41l A41c), (Value.slice A42 A42l A42c)] ∧
  Calls Tryz.prog 17 #[(Value.agg #[(Value.int .i64 n38), (Value.int .i64 n39), (Value.slice A40 A40l A40c), (Value.slice A41 A41l A41c), (Value.slice A42 A42l A42c)])] w37 fun e44 w45 =>
  ∃ n43, e44 = Ending.returned (Value.int .i64 n43) ∧
  R (Ending.returned (Value.bool (decide (n43 > 16777200)))) w45))
  (∃ n46, ∃ n47, ∃ A48, ∃ A48l, ∃ A48c, ∃ A49, ∃ A49l, ∃ A49c, ∃ A50, ∃ A50l, ∃ A50c, V.cellsC (fun a_ x_ => World.cell? w37 a_ = some x_) ⟨Array.size (World.heap w), 0, none⟩ [(Value.int .i64 n46), (Value.int .i64 n47), (Value.slice A48 A48l A48c), (Value.slice A49 A49l A49c), (Value.slice A50 A50l A50c)] ∧
  Calls Tryz.prog 17 #[(Value.agg #[(Value.int .i64 n46), (Value.int .i64 n47), (Value.slice A48 A48l A48c), (Value.slice A49 A49l A49c), (Value.slice A50 A50l A50c)])] w37 fun e52 w53 =>
  ∃ n51, e52 = Ending.returned (Value.int .i64 n51) ∧
  V.sel (decide (n51 > 16777200))
  (V.sel (n31 == 0)
  (R (Ending.returned (Value.bool true)) w53)
  (∃ n54, ∃ n55, ∃ A56, ∃ A56l, ∃ A56c, ∃ A57, ∃ A57l, ∃ A57c, ∃ A58, ∃ A58l, ∃ A58c, V.cellsC (fun a_ x_ => World.cell? w53 a_ = some x_) ⟨Array.size (World.heap w11), 0, none⟩ [(Value.int .i64 n54), (Value.int .i64 n55), (Value.slice A56 A56l A56c), (Value.slice A57 A57l A57c), (Value.slice A58 A58l A58c)] ∧
  Calls Tryz.prog 17 #[(Value.agg #[(Value.int .i64 n54), (Value.int .i64 n55), (Value.slice A56 A56l A56c), (Value.slice A57 A57l A57c), (Value.slice A58 A58l A58c)])] w53 fun e60 w61 =>
  ∃ n59, e60 = Ending.returned (Value.int .i64 n59) ∧
  R (Ending.returned (Value.bool (decide (n59 > 16777200)))) w61))
  (R (Ending.returned (Value.bool false)) w53)))
  (∃ S62 : World → Prop, S62 (World.drew w37) ∧
  ∃ n64, ∃ n65, ∃ A66, ∃ A66l, ∃ A66c, ∃ A67, ∃ A67l, ∃ A67c, ∃ A68, ∃ A68l, ∃ A68c, V.cellsC (fun a_ x_ => ∀ w63, S62 w63 → World.cell? w63 a_ = some x_) ⟨Array.size (World.heap w), 0, none⟩ [(Value.int .i64 n64), (Value.int .i64 n65), (Value.slice A66 A66l A66c), (Value.slice A67 A67l A67c), (Value.slice A68 A68l A68c)] ∧
  ∃ n69, ∃ n70, ∃ A71, ∃ A71l, ∃ A71c, ∃ A72, ∃ A72l, ∃ A72c, ∃ A73, ∃ A73l, ∃ A73c, V.cellsC (fun a_ x_ => ∀ w63, S62 w63 → World.cell? w63 a_ = some x_) ⟨Array.size (World.heap w11), 0, none⟩ [(Value.int .i64 n69), (Value.int .i64 n70), (Value.slice A71 A71l A71c), (Value.slice A72 A72l A72c), (Value.slice A73 A73l A73c)] ∧
  Calls Tryz.prog 16 #[(Value.slice A21 A21l A21c), (Value.slice A30 A30l A30c)] (World.drew w37) fun e75 w76 =>
  ∃ b74, e75 = Ending.returned (Value.bool b74) ∧
  S62 w76 ∧
  Calls Tryz.prog 19 #[(Value.agg #[(Value.int .i64 n64), (Value.int .i64 n65), (Value.slice A66 A66l A66c), (Value.slice A67 A67l A67c), (Value.slice A68 A68l A68c)]), (Value.agg #[(Value.int .i64 n69), (Value.int .i64 n70), (Value.slice A71 A71l A71c), (Value.slice A72 A72l A72c), (Value.slice A73 A73l A73c)])] w76 fun e78 w79 =>
  ∃ b77, e78 = Ending.returned (Value.bool b77) ∧
  S62 w79 ∧
  R (Ending.returned (Value.bool (b74 == b77))) w79))) :
  Calls Tryz.prog 5 #[(Value.agg #[(Value.int .i64 one_1), (Value.int .i64 one_2), (Value.slice one_3 one_3l one_3c), (Value.slice one_4 one_4l one_4c), (Value.slice one_5 one_5l one_5c)]), (Value.agg #[(Value.int .i64 other_6), (Value.int .i64 other_7), (Value.slice other_8 other_8l other_8c), (Value.slice other_9 other_9l other_9c), (Value.slice other_10 other_10l other_10c)])] w R :=
  V.Z.calls_of_N ⟨V.assoc [], V.assocP [(7, V.line [0, 1, 3, 4, 2, 5, 6, 7])], V.assocC [(1000007, ([26], [V.Sh.one .bool]))], V.assocS [], ⟨[], true⟩⟩ Tryz.func5 rfl (Eq.mp (by kernel_rfl) h)

theorem berthlaw26_ImageDecodes_nf (b_1 : Option Addr) (b_1l : Nat) (b_1c : Nat) (w : World) (R : Ending → World → Prop) (h :
  Calls Tryz.prog 12 #[] w fun e3 w4 =>
  ∃ b2, e3 = Ending.returned (Value.bool b2) ∧
  V.sel b2
  (Calls Tryz.prog 20 #[(Value.slice b_1 b_1l b_1c)] w4 fun e6 w7 =>
  ∃ b5, e6 = Ending.returned (Value.bool b5) ∧
  R (Ending.returned (Value.bool b5)) w7)
  (R (Ending.returned (Value.bool false)) w4)) :
  Calls Tryz.prog 6 #[(Value.slice b_1 b_1l b_1c)] w R :=
  V.Z.calls_of_N ⟨V.assoc [], V.assocP [], V.assocC [], V.assocS [], ⟨[], true⟩⟩ Tryz.func6 rfl (Eq.mp (by kernel_rfl) h)

theorem berthlaw26_ImageInside_nf (inside_1 : Option Addr) (inside_1l : Nat) (inside_1c : Nat) (w : World) (R : Ending → World → Prop) (h :
  Calls Tryz.prog 12 #[] w fun e3 w4 =>
  ∃ b2, e3 = Ending.returned (Value.bool b2) ∧
  V.sel (!b2)
  (R (Ending.returned (Value.bool false)) w4)
  (∀ w5, w5 = (World.alloc w4 (.cells #[(Value.int .u8 98), (Value.int .u8 101), (Value.int .u8 114), (Value.int .u8 116), (Value.int .u8 104), (Value.int .u8 1)] 5)) →
  ∃ A6, ∃ A6l, ∃ A6c, ∃ w7, Sem.run Tryz.prog (convert 28 28 (Value.slice (some ⟨Array.size (World.heap w4), 0, none⟩) 6 6)) w5 = .ok (Value.slice A6 A6l A6c) w7 ∧
  ∃ A8, ∃ A8l, ∃ A8c, ∃ w9, Sem.run Tryz.prog (Builtin.append_ #[28, 28] 28 #[(Value.slice A6 A6l A6c), (Value.slice inside_1 inside_1l inside_1c)]) w7 = .ok (Value.slice A8 A8l A8c) w9 ∧
  Calls Tryz.prog 21 #[(Value.slice A8 A8l A8c)] w9 fun e11 w12 =>
  ∃ A10, ∃ A10l, ∃ A10c, e11 = Ending.returned (Value.slice A10 A10l A10c) ∧
  Calls Tryz.prog 20 #[(Value.slice A10 A10l A10c)] w12 fun e14 w15 =>
  ∃ b13, e14 = Ending.returned (Value.bool b13) ∧
  R (Ending.returned (Value.bool b13)) w15)) :
  Calls Tryz.prog 7 #[(Value.slice inside_1 inside_1l inside_1c)] w R :=
  V.Z.calls_of_N ⟨V.assoc [], V.assocP [], V.assocC [], V.assocS [], ⟨[], true⟩⟩ Tryz.func7 rfl (Eq.mp (by kernel_rfl) h)

theorem berthlaw26_ImageBack_nf (st_1 : Int) (st_2 : Int) (st_3 : Option Addr) (st_3l : Nat) (st_3c : Nat) (st_4 : Option Addr) (st_4l : Nat) (st_4c : Nat) (st_5 : Option Addr) (st_5l : Nat) (st_5c : Nat) (w : World) (R : Ending → World → Prop) (h :
  ∀ w6, w6 = (World.alloc w (.cells #[(Value.int .i64 st_1), (Value.int .i64 st_2), (Value.slice st_3 st_3l st_3c), (Value.slice st_4 st_4l st_4c), (Value.slice st_5 st_5l st_5c)] 26)) →
  Calls Tryz.prog 12 #[] w6 fun e8 w9 =>
  ∃ b7, e8 = Ending.returned (Value.bool b7) ∧
  V.sel (!b7)
  (R (Ending.returned (Value.bool false)) w9)
  (∃ n10, ∃ n11, ∃ A12, ∃ A12l, ∃ A12c, ∃ A13, ∃ A13l, ∃ A13c, ∃ A14, ∃ A14l, ∃ A14c, V.cellsC (fun a_ x_ => World.cell? w9 a_ = some x_) ⟨Array.size (World.heap w), 0, none⟩ [(Value.int .i64 n10), (Value.int .i64 n11), (Value.slice A12 A12l A12c), (Value.slice A13 A13l A13c), (Value.slice A14 A14l A14c)] ∧
  Calls Tryz.prog 14 #[(Value.agg #[(Value.int .i64 n10), (Value.int .i64 n11), (Value.slice A12 A12l A12c), (Value.slice A13 A13l A13c), (Value.slice A14 A14l A14c)])] w9 fun e20 w21 =>
  ∃ n15, ∃ n16, ∃ A17, ∃ A17l, ∃ A17c, ∃ A18, ∃ A18l, ∃ A18c, ∃ A19, ∃ A19l, ∃ A19c, e20 = Ending.returned (Value.agg #[(Value.int .i64 n15), (Value.int .i64 n16), (Value.slice A17 A17l A17c), (Value.slice A18 A18l A18c), (Value.slice A19 A19l A19c)]) ∧
  Calls Tryz.prog 15 #[(Value.agg #[(Value.int .i64 n15), (Value.int .i64 n16), (Value.slice A17 A17l A17c), (Value.slice A18 A18l A18c), (Value.slice A19 A19l A19c)])] w21 fun e24 w25 =>
  ∃ A22, ∃ A22l, ∃ A22c, ∃ n23, e24 = Ending.returned (Value.tuple #[(Value.slice A22 A22l A22c), (Value.int .i64 n23)]) ∧
  V.sel (n23 != 0)
  (V.sel (n23 == 265)
  (V.sel (((A22l : Nat) : Int) == 0)
  (∃ n26, ∃ n27, ∃ A28, ∃ A28l, ∃ A28c, ∃ A29, ∃ A29l, ∃ A29c, ∃ A30, ∃ A30l, ∃ A30c, V.cellsC (fun a_ x_ => World.cell? w25 a_ = some x_) ⟨Array.size (World.heap w), 0, none⟩ [(Value.int .i64 n26), (Value.int .i64 n27), (Value.slice A28 A28l A28c), (Value.slice A29 A29l A29c), (Value.slice A30 A30l A30c)] ∧
  Calls Tryz.prog 17 #[(Value.agg #[(Value.int .i64 n26), (Value.int .i64 n27), (Value.slice A28 A28l A28c), (Value.slice A29 A29l A29c), (Value.slice A30 A30l A30c)])] w25 fun e32 w33 =>
  ∃ n31, e32 = Ending.returned (Value.int .i64 n31) ∧
  R (Ending.returned (Value.bool (decide (n31 > 16777200)))) w33)
  (R (Ending.returned (Value.bool false)) w25))
  (R (Ending.returned (Value.bool false)) w25))
  (Calls Tryz.prog 22 #[(Value.slice A22 A22l A22c)] w25 fun e35 w36 =>
  ∃ A34, ∃ A34l, ∃ A34c, e35 = Ending.returned (Value.slice A34 A34l A34c) ∧
  Calls Tryz.prog 18 #[(Value.slice A34 A34l A34c)] w36 fun e43 w44 =>
  ∃ n37, ∃ n38, ∃ A39, ∃ A39l, ∃ A39c, ∃ A40, ∃ A40l, ∃ A40c, ∃ A41, ∃ A41l, ∃ A41c, ∃ v42, e43 = Ending.returned (Value.tuple #[(Value.agg #[(Value.int .i64 n37), (Value.int .i64 n38), (Value.slice A39 A39l A39c), (Value.slice A40 A40l A40c), (Value.slice A41 A41l A41c)]), v42]) ∧
  ∀ w45, w45 = (World.alloc w44 (.cells #[(Value.int .i64 0), (Value.int .i64 0), (Value.slice none 0 0), (Value.slice none 0 0), (Value.slice none 0 0)] 26)) →
  ∃ w46, Sem.run Tryz.prog (Instr.storeAt 26 (Value.pointer (some ⟨Array.size (World.heap w44), 0, none⟩)) (Value.agg #[(Value.int .i64 n37), (Value.int .i64 n38), (Value.slice A39 A39l A39c), (Value.slice A40 A40l A40c), (Value.slice A41 A41l A41c)])) w45 = .ok () w46 ∧
  V.when (V.Z.isIfc v42) (V.sel (!(V.Z.isNilI v42))
  (R (Ending.returned (Value.bool false)) w46)
  (∃ n47, ∃ n48, ∃ A49, ∃ A49l, ∃ A49c, ∃ A50, ∃ A50l, ∃ A50c, ∃ A51, ∃ A51l, ∃ A51c, V.cellsC (fun a_ x_ => World.cell? w46 a_ = some x_) ⟨Array.size (World.heap w44), 0, none⟩ [(Value.int .i64 n47), (Value.int .i64 n48), (Value.slice A49 A49l A49c), (Value.slice A50 A50l A50c), (Value.slice A51 A51l A51c)] ∧
  ∃ n52, ∃ n53, ∃ A54, ∃ A54l, ∃ A54c, ∃ A55, ∃ A55l, ∃ A55c, ∃ A56, ∃ A56l, ∃ A56c, V.cellsC (fun a_ x_ => World.cell? w46 a_ = some x_) ⟨Array.size (World.heap w), 0, none⟩ [(Value.int .i64 n52), (Value.int .i64 n53), (Value.slice A54 A54l A54c), (Value.slice A55 A55l A55c), (Value.slice A56 A56l A56c)] ∧
  Calls Tryz.prog 19 #[(Value.agg #[(Value.int .i64 n47), (Value.int .i64 n48), (Value.slice A49 A49l A49c), (Value.slice A50 A50l A50c), (Value.slice A51 A51l A51c)]), (Value.agg #[(Value.int .i64 n52), (Value.int .i64 n53), (Value.slice A54 A54l A54c), (Value.slice A55 A55l A55c), (Value.slice A56 A56l A56c)])] w46 fun e58 w59 =>
  ∃ b57, e58 = Ending.returned (Value.bool b57) ∧
  V.sel (!b57)
  (R (Ending.returned (Value.bool false)) w59)
  (∃ n60, ∃ n61, ∃ A62, ∃ A62l, ∃ A62c, ∃ A63, ∃ A63l, ∃ A63c, ∃ A64, ∃ A64l, ∃ A64c, V.cellsC (fun a_ x_ => World.cell? w59 a_ = some x_) ⟨Array.size (World.heap w44), 0, none⟩ [(Value.int .i64 n60), (Value.int .i64 n61), (Value.slice A62 A62l A62c), (Value.slice A63 A63l A63c), (Value.slice A64 A64l A64c)] ∧
  Calls Tryz.prog 15 #[(Value.agg #[(Value.int .i64 n60), (Value.int .i64 n61), (Value.slice A62 A62l A62c), (Value.slice A63 A63l A63c), (Value.slice A64 A64l A64c)])] w59 fun e67 w68 =>
  ∃ A65, ∃ A65l, ∃ A65c, ∃ n66, e67 = Ending.returned (Value.tuple #[(Value.slice A65 A65l A65c), (Value.int .i64 n66)]) ∧
  V.sel (n66 == 0)
  (Calls Tryz.prog 16 #[(Value.slice A65 A65l A65c), (Value.slice A22 A22l A22c)] w68 fun e70 w71 =>
  ∃ b69, e70 = Ending.returned (Value.bool b69) ∧
  R (Ending.returned (Value.bool b69)) w71)
  (R (Ending.returned (Value.bool false)) w68))))))) :
  Calls Tryz.prog 8 #[(Value.agg #[(Value.int .i64 st_1), (Value.int .i64 st_2), (Value.slice st_3 st_3l st_3c), (Value.slice st_4 st_4l st_4c), (Value.slice st_5 st_5l st_5c)])] w R :=
  V.Z.calls_of_N ⟨V.assoc [], V.assocP [], V.assocC [], V.assocS [], ⟨[], true⟩⟩ Tryz.func8 rfl (Eq.mp (by kernel_rfl) h)

theorem berthlaw26_ImageOneForm_nf (b_1 : Option Addr) (b_1l : Nat) (b_1c : Nat) (right_2 : Bool) (w : World) (R : Ending → World → Prop) (h :
  Calls Tryz.prog 12 #[] w fun e4 w5 =>
  ∃ b3, e4 = Ending.returned (Value.bool b3) ∧
  V.sel (!b3)
  (R (Ending.returned (Value.bool false)) w5)
  (V.sel right_2
  (∀ w6, w6 = (World.alloc w5 (.cells #[(Value.int .u8 98), (Value.int .u8 101), (Value.int .u8 114), (Value.int .u8 116), (Value.int .u8 104), (Value.int .u8 1)] 5)) →
  ∃ A7, ∃ A7l, ∃ A7c, ∃ w8, Sem.run Tryz.prog (convert 28 28 (Value.slice (some ⟨Array.size (World.heap w5), 0, none⟩) 6 6)) w6 = .ok (Value.slice A7 A7l A7c) w8 ∧
  ∃ A9, ∃ A9l, ∃ A9c, ∃ w10, Sem.run Tryz.prog (Builtin.append_ #[28, 28] 28 #[(Value.slice A7 A7l A7c), (Value.slice b_1 b_1l b_1c)]) w8 = .ok (Value.slice A9 A9l A9c) w10 ∧
  Calls Tryz.prog 21 #[(Value.slice A9 A9l A9c)] w10 fun e12 w13 =>
  ∃ A11, ∃ A11l, ∃ A11c, e12 = Ending.returned (Value.slice A11 A11l A11c) ∧
  Calls Tryz.prog 22 #[(Value.slice A11 A11l A11c)] w13 fun e15 w16 =>
  ∃ A14, ∃ A14l, ∃ A14c, e15 = Ending.returned (Value.slice A14 A14l A14c) ∧
  Calls Tryz.prog 18 #[(Value.slice A14 A14l A14c)] w16 fun e23 w24 =>
  ∃ n17, ∃ n18, ∃ A19, ∃ A19l, ∃ A19c, ∃ A20, ∃ A20l, ∃ A20c, ∃ A21, ∃ A21l, ∃ A21c, ∃ v22, e23 = Ending.returned (Value.tuple #[(Value.agg #[(Value.int .i64 n17), (Value.int .i64 n18), (Value.slice A19 A19l A19c), (Value.slice A20 A20l A20c), (Value.slice A21 A21l A21c)]), v22]) ∧
  ∀ w25, w25 = (World.alloc w24 (.cells #[(Value.int .i64 0), (Value.int .i64 0), (Value.slice none 0 0), (Value.slice none 0 0), (Value.slice none 0 0)] 26)) →
  ∃ w26, Sem.run Tryz.prog (Instr.storeAt 26 (Value.pointer (some ⟨Array.size (World.heap w24), 0, none⟩)) (Value.agg #[(Value.int .i64 n17), (Value.int .i64 n18), (Value.slice A19 A19l A19c), (Value.slice A20 A20l A20c), (Value.slice A21 A21l A21c)])) w25 = .ok () w26 ∧
  V.when (V.Z.isIfc v22) (V.sel (!(V.Z.isNilI v22))
  (R (Ending.returned (Value.bool true)) w26)
  (∃ n27, ∃ n28, ∃ A29, ∃ A29l, ∃ A29c, ∃ A30, ∃ A30l, ∃ A30c, ∃ A31, ∃ A31l, ∃ A31c, V.cellsC (fun a_ x_ => World.cell? w26 a_ = some x_) ⟨Array.size (World.heap w24), 0, none⟩ [(Value.int .i64 n27), (Value.int .i64 n28), (Value.slice A29 A29l A29c), (Value.slice A30 A30l A30c), (Value.slice A31 A31l A31c)] ∧
  Calls Tryz.prog 15 #[(Value.agg #[(Value.int .i64 n27), (Value.int .i64 n28), (Value.slice A29 A29l A29c), (Value.slice A30 A30l A30c), (Value.slice A31 A31l A31c)])] w26 fun e34 w35 =>
  ∃ A32, ∃ A32l, ∃ A32c, ∃ n33, e34 = Ending.returned (Value.tuple #[(Value.slice A32 A32l A32c), (Value.int .i64 n33)]) ∧
  V.sel (n33 == 0)
  (Calls Tryz.prog 16 #[(Value.slice A32 A32l A32c), (Value.slice A11 A11l A11c)] w35 fun e37 w38 =>
  ∃ b36, e37 = Ending.returned (Value.bool b36) ∧
  R (Ending.returned (Value.bool b36)) w38)
  (R (Ending.returned (Value.bool false)) w35))))
  (Calls Tryz.prog 22 #[(Value.slice b_1 b_1l b_1c)] w5 fun e40 w41 =>
  ∃ A39, ∃ A39l, ∃ A39c, e40 = Ending.returned (Value.slice A39 A39l A39c) ∧
  Calls Tryz.prog 18 #[(Value.slice A39 A39l A39c)] w41 fun e48 w49 =>
  ∃ n42, ∃ n43, ∃ A44, ∃ A44l, ∃ A44c, ∃ A45, ∃ A45l, ∃ A45c, ∃ A46, ∃ A46l, ∃ A46c, ∃ v47, e48 = Ending.returned (Value.tuple #[(Value.agg #[(Value.int .i64 n42), (Value.int .i64 n43), (Value.slice A44 A44l A44c), (Value.slice A45 A45l A45c), (Value.slice A46 A46l A46c)]), v47]) ∧
  ∀ w50, w50 = (World.alloc w49 (.cells #[(Value.int .i64 0), (Value.int .i64 0), (Value.slice none 0 0), (Value.slice none 0 0), (Value.slice none 0 0)] 26)) →
  ∃ w51, Sem.run Tryz.prog (Instr.storeAt 26 (Value.pointer (some ⟨Array.size (World.heap w49), 0, none⟩)) (Value.agg #[(Value.int .i64 n42), (Value.int .i64 n43), (Value.slice A44 A44l A44c), (Value.slice A45 A45l A45c), (Value.slice A46 A46l A46c)])) w50 = .ok () w51 ∧
  V.when (V.Z.isIfc v47) (V.sel (!(V.Z.isNilI v47))
  (R (Ending.returned (Value.bool true)) w51)
  (∃ n52, ∃ n53, ∃ A54, ∃ A54l, ∃ A54c, ∃ A55, ∃ A55l, ∃ A55c, ∃ A56, ∃ A56l, ∃ A56c, V.cellsC (fun a_ x_ => World.cell? w51 a_ = some x_) ⟨Array.size (World.heap w49), 0, none⟩ [(Value.int .i64 n52), (Value.int .i64 n53), (Value.slice A54 A54l A54c), (Value.slice A55 A55l A55c), (Value.slice A56 A56l A56c)] ∧
  Calls Tryz.prog 15 #[(Value.agg #[(Value.int .i64 n52), (Value.int .i64 n53), (Value.slice A54 A54l A54c), (Value.slice A55 A55l A55c), (Value.slice A56 A56l A56c)])] w51 fun e59 w60 =>
  ∃ A57, ∃ A57l, ∃ A57c, ∃ n58, e59 = Ending.returned (Value.tuple #[(Value.slice A57 A57l A57c), (Value.int .i64 n58)]) ∧
  V.sel (n58 == 0)
  (Calls Tryz.prog 16 #[(Value.slice A57 A57l A57c), (Value.slice b_1 b_1l b_1c)] w60 fun e62 w63 =>
  ∃ b61, e62 = Ending.returned (Value.bool b61) ∧
  R (Ending.returned (Value.bool b61)) w63)
  (R (Ending.returned (Value.bool false)) w60)))))) :
  Calls Tryz.prog 9 #[(Value.slice b_1 b_1l b_1c), (Value.bool right_2)] w R :=
  V.Z.calls_of_N ⟨V.assoc [], V.assocP [], V.assocC [], V.assocS [], ⟨[], true⟩⟩ Tryz.func9 rfl (Eq.mp (by kernel_rfl) h)

theorem berthlaw26_ImageCutShort_nf (st_1 : Int) (st_2 : Int) (st_3 : Option Addr) (st_3l : Nat) (st_3c : Nat) (st_4 : Option Addr) (st_4l : Nat) (st_4c : Nat) (st_5 : Option Addr) (st_5l : Nat) (st_5c : Nat) (n_6 : Int) (w : World) (R : Ending → World → Prop) (h :
  ∀ w7, w7 = (World.alloc w (.cells #[(Value.int .i64 st_1), (Value.int .i64 st_2), (Value.slice st_3 st_3l st_3c), (Value.slice st_4 st_4l st_4c), (Value.slice st_5 st_5l st_5c)] 26)) →
  Calls Tryz.prog 12 #[] w7 fun e9 w10 =>
  ∃ b8, e9 = Ending.returned (Value.bool b8) ∧
  V.sel (!b8)
  (R (Ending.returned (Value.bool false)) w10)
  (∃ n11, ∃ n12, ∃ A13, ∃ A13l, ∃ A13c, ∃ A14, ∃ A14l, ∃ A14c, ∃ A15, ∃ A15l, ∃ A15c, V.cellsC (fun a_ x_ => World.cell? w10 a_ = some x_) ⟨Array.size (World.heap w), 0, none⟩ [(Value.int .i64 n11), (Value.int .i64 n12), (Value.slice A13 A13l A13c), (Value.slice A14 A14l A14c), (Value.slice A15 A15l A15c)] ∧
  Calls Tryz.prog 15 #[(Value.agg #[(Value.int .i64 n11), (Value.int .i64 n12), (Value.slice A13 A13l A13c), (Value.slice A14 A14l A14c), (Value.slice A15 A15l A15c)])] w10 fun e18 w19 =>
  ∃ A16, ∃ A16l, ∃ A16c, ∃ n17, e18 = Ending.returned (Value.tuple #[(Value.slice A16 A16l A16c), (Value.int .i64 n17)]) ∧
  V.sel (n17 != 0)
  (V.sel (n17 == 265)
  (∃ n20, ∃ n21, ∃ A22, ∃ A22l, ∃ A22c, ∃ A23, ∃ A23l, ∃ A23c, ∃ A24, ∃ A24l, ∃ A24c, V.cellsC (fun a_ x_ => World.cell? w19 a_ = some x_) ⟨Array.size (World.heap w), 0, none⟩ [(Value.int .i64 n20), (Value.int .i64 n21), (Value.slice A22 A22l A22c), (Value.slice A23 A23l A23c), (Value.slice A24 A24l A24c)] ∧
  Calls Tryz.prog 17 #[(Value.agg #[(Value.int .i64 n20), (Value.int .i64 n21), (Value.slice A22 A22l A22c), (Value.slice A23 A23l A23c), (Value.slice A24 A24l A24c)])] w19 fun e26 w27 =>
  ∃ n25, e26 = Ending.returned (Value.int .i64 n25) ∧
  R (Ending.returned (Value.bool (decide (n25 > 16777200)))) w27)
  (R (Ending.returned (Value.bool false)) w19))
  (V.sel (decide (n_6 < 0))
  (R (Ending.returned (Value.bool (decide (((A16l : Nat) : Int) ≥ 20)))) w19)
  (V.sel (decide (n_6 ≥ ((A16l : Nat) : Int)))
  (R (Ending.returned (Value.bool (decide (((A16l : Nat) : Int) ≥ 20)))) w19)
  (V.when (decide ((0 : Int) ≤ n_6 ∧ (n_6 : Int) ≤ ((A16c : Nat) : Int))) (Calls Tryz.prog 22 #[(Value.slice (V.cut A16 A16c 0 1) ((Int.toNat n_6) - 0) (A16c - 0))] w19 fun e29 w30 =>
  ∃ A28, ∃ A28l, ∃ A28c, e29 = Ending.returned (Value.slice A28 A28l A28c) ∧
  Calls Tryz.prog 18 #[(Value.slice A28 A28l A28c)] w30 fun e37 w38 =>
  ∃ n31, ∃ n32, ∃ A33, ∃ A33l, ∃ A33c, ∃ A34, ∃ A34l, ∃ A34c, ∃ A35, ∃ A35l, ∃ A35c, ∃ v36, e37 = Ending.returned (Value.tuple #[(Value.agg #[(Value.int .i64 n31), (Value.int .i64 n32), (Value.slice A33 A33l A33c), (Value.slice A34 A34l A34c), (Value.slice A35 A35l A35c)]), v36]) ∧
  ∀ w39, w39 = (World.alloc w38 (.cells #[(Value.int .i64 0), (Value.int .i64 0), (Value.slice none 0 0), (Value.slice none 0 0), (Value.slice none 0 0)] 26)) →
  ∃ w40, Sem.run Tryz.prog (Instr.storeAt 26 (Value.pointer (some ⟨Array.size (World.heap w38), 0, none⟩)) (Value.agg #[(Value.int .i64 n31), (Value.int .i64 n32), (Value.slice A33 A33l A33c), (Value.slice A34 A34l A34c), (Value.slice A35 A35l A35c)])) w39 = .ok () w40 ∧
  V.when (V.Z.isIfc v36) (V.sel (V.Z.isNilI v36)
  (R (Ending.returned (Value.bool false)) w40)
  (V.sel (decide (n_6 < 6))
  (R (Ending.returned (Value.bool true)) w40)
  (V.sel (decide (n_6 ≥ (IntKind.wrap .i64 (((A16l : Nat) : Int) - 8))))
  (R (Ending.returned (Value.bool true)) w40)
  (V.when (decide ((0 : Int) ≤ n_6 ∧ (n_6 : Int) ≤ ((A16c : Nat) : Int))) (Calls Tryz.prog 22 #[(Value.slice (V.cut A16 A16c 0 1) ((Int.toNat n_6) - 0) (A16c - 0))] w40 fun e42 w43 =>
  ∃ A41, ∃ A41l, ∃ A41c, e42 = Ending.returned (Value.slice A41 A41l A41c) ∧
  Calls Tryz.prog 21 #[(Value.slice A41 A41l A41c)] w43 fun e45 w46 =>
  ∃ A44, ∃ A44l, ∃ A44c, e45 = Ending.returned (Value.slice A44 A44l A44c) ∧
  Calls Tryz.prog 18 #[(Value.slice A44 A44l A44c)] w46 fun e53 w54 =>
  ∃ n47, ∃ n48, ∃ A49, ∃ A49l, ∃ A49c, ∃ A50, ∃ A50l, ∃ A50c, ∃ A51, ∃ A51l, ∃ A51c, ∃ v52, e53 = Ending.returned (Value.tuple #[(Value.agg #[(Value.int .i64 n47), (Value.int .i64 n48), (Value.slice A49 A49l A49c), (Value.slice A50 A50l A50c), (Value.slice A51 A51l A51c)]), v52]) ∧
  V.when (V.Z.isIfc v52) (R (Ending.returned (Value.bool (!(V.Z.isNilI v52)))) w54)))))))))))) :
  Calls Tryz.prog 10 #[(Value.agg #[(Value.int .i64 st_1), (Value.int .i64 st_2), (Value.slice st_3 st_3l st_3c), (Value.slice st_4 st_4l st_4c), (Value.slice st_5 st_5l st_5c)]), (Value.int .i64 n_6)] w R :=
  V.Z.calls_of_N ⟨V.assoc [], V.assocP [], V.assocC [], V.assocS [], ⟨[], true⟩⟩ Tryz.func10 rfl (Eq.mp (by kernel_rfl) h)

theorem berthlaw26_ImageLonger_nf (st_1 : Int) (st_2 : Int) (st_3 : Option Addr) (st_3l : Nat) (st_3c : Nat) (st_4 : Option Addr) (st_4l : Nat) (st_4c : Nat) (st_5 : Option Addr) (st_5l : Nat) (st_5c : Nat) (more_6 : Option Addr) (more_6l : Nat) (more_6c : Nat) (w : World) (R : Ending → World → Prop) (h :
  ∀ w7, w7 = (World.alloc w (.cells #[(Value.int .i64 st_1), (Value.int .i64 st_2), (Value.slice st_3 st_3l st_3c), (Value.slice st_4 st_4l st_4c), (Value.slice st_5 st_5l st_5c)] 26)) →
  Calls Tryz.prog 12 #[] w7 fun e9 w10 =>
  ∃ b8, e9 = Ending.returned (Value.bool b8) ∧
  V.sel (!b8)
  (R (Ending.returned (Value.bool false)) w10)
  (∃ n11, ∃ n12, ∃ A13, ∃ A13l, ∃ A13c, ∃ A14, ∃ A14l, ∃ A14c, ∃ A15, ∃ A15l, ∃ A15c, V.cellsC (fun a_ x_ => World.cell? w10 a_ = some x_) ⟨Array.size (World.heap w), 0, none⟩ [(Value.int .i64 n11), (Value.int .i64 n12), (Value.slice A13 A13l A13c), (Value.slice A14 A14l A14c), (Value.slice A15 A15l A15c)] ∧
  Calls Tryz.prog 15 #[(Value.agg #[(Value.int .i64 n11), (Value.int .i64 n12), (Value.slice A13 A13l A13c), (Value.slice A14 A14l A14c), (Value.slice A15 A15l A15c)])] w10 fun e18 w19 =>
  ∃ A16, ∃ A16l, ∃ A16c, ∃ n17, e18 = Ending.returned (Value.tuple #[(Value.slice A16 A16l A16c), (Value.int .i64 n17)]) ∧
  V.sel (n17 != 0)
  (V.sel (n17 == 265)
  (∃ n20, ∃ n21, ∃ A22, ∃ A22l, ∃ A22c, ∃ A23, ∃ A23l, ∃ A23c, ∃ A24, ∃ A24l, ∃ A24c, V.cellsC (fun a_ x_ => World.cell? w19 a_ = some x_) ⟨Array.size (World.heap w), 0, none⟩ [(Value.int .i64 n20), (Value.int .i64 n21), (Value.slice A22 A22l A22c), (Value.slice A23 A23l A23c), (Value.slice A24 A24l A24c)] ∧
  Calls Tryz.prog 17 #[(Value.agg #[(Value.int .i64 n20), (Value.int .i64 n21), (Value.slice A22 A22l A22c), (Value.slice A23 A23l A23c), (Value.slice A24 A24l A24c)])] w19 fun e26 w27 =>
  ∃ n25, e26 = Ending.returned (Value.int .i64 n25) ∧
  R (Ending.returned (Value.bool (decide (n25 > 16777200)))) w27)
  (R (Ending.returned (Value.bool false)) w19))
  (V.sel (((more_6l : Nat) : Int) == 0)
  (R (Ending.returned (Value.bool (decide (((A16l : Nat) : Int) ≥ 20)))) w19)
  (Calls Tryz.prog 22 #[(Value.slice A16 A16l A16c)] w19 fun e29 w30 =>
  ∃ A28, ∃ A28l, ∃ A28c, e29 = Ending.returned (Value.slice A28 A28l A28c) ∧
  ∃ A31, ∃ A31l, ∃ A31c, ∃ w32, Sem.run Tryz.prog (Builtin.append_ #[28, 28] 28 #[(Value.slice A28 A28l A28c), (Value.slice more_6 more_6l more_6c)]) w30 = .ok (Value.slice A31 A31l A31c) w32 ∧
  Calls Tryz.prog 18 #[(Value.slice A31 A31l A31c)] w32 fun e39 w40 =>
  ∃ n33, ∃ n34, ∃ A35, ∃ A35l, ∃ A35c, ∃ A36, ∃ A36l, ∃ A36c, ∃ A37, ∃ A37l, ∃ A37c, ∃ v38, e39 = Ending.returned (Value.tuple #[(Value.agg #[(Value.int .i64 n33), (Value.int .i64 n34), (Value.slice A35 A35l A35c), (Value.slice A36 A36l A36c), (Value.slice A37 A37l A37c)]), v38]) ∧
  ∀ w41, w41 = (World.alloc w40 (.cells #[(Value.int .i64 0), (Value.int .i64 0), (Value.slice none 0 0), (Value.slice none 0 0), (Value.slice none 0 0)] 26)) →
  ∃ w42, Sem.run Tryz.prog (Instr.storeAt 26 (Value.pointer (some ⟨Array.size (World.heap w40), 0, none⟩)) (Value.agg #[(Value.int .i64 n33), (Value.int .i64 n34), (Value.slice A35 A35l A35c), (Value.slice A36 A36l A36c), (Value.slice A37 A37l A37c)])) w41 = .ok () w42 ∧
  V.when (V.Z.isIfc v38) (V.sel (V.Z.isNilI v38)
  (R (Ending.returned (Value.bool false)) w42)
  (V.when (decide ((0 : Int) ≤ (IntKind.wrap .i64 (((A16l : Nat) : Int) - 8)) ∧ ((IntKind.wrap .i64 (((A16l : Nat) : Int) - 8)) : Int) ≤ ((A16c : Nat) : Int))) (Calls Tryz.prog 22 #[(Value.slice (V.cut A16 A16c 0 1) ((Int.toNat (IntKind.wrap .i64 (((A16l : Nat) : Int) - 8))) - 0) (A16c - 0))] w42 fun e44 w45 =>
  ∃ A43, ∃ A43l, ∃ A43c, e44 = Ending.returned (Value.slice A43 A43l A43c) ∧
  ∃ A46, ∃ A46l, ∃ A46c, ∃ w47, Sem.run Tryz.prog (Builtin.append_ #[28, 28] 28 #[(Value.slice A43 A43l A43c), (Value.slice more_6 more_6l more_6c)]) w45 = .ok (Value.slice A46 A46l A46c) w47 ∧
  Calls Tryz.prog 21 #[(Value.slice A46 A46l A46c)] w47 fun e49 w50 =>
  ∃ A48, ∃ A48l, ∃ A48c, e49 = Ending.returned (Value.slice A48 A48l A48c) ∧
  Calls Tryz.prog 18 #[(Value.slice A48 A48l A48c)] w50 fun e57 w58 =>
  ∃ n51, ∃ n52, ∃ A53, ∃ A53l, ∃ A53c, ∃ A54, ∃ A54l, ∃ A54c, ∃ A55, ∃ A55l, ∃ A55c, ∃ v56, e57 = Ending.returned (Value.tuple #[(Value.agg #[(Value.int .i64 n51), (Value.int .i64 n52), (Value.slice A53 A53l A53c), (Value.slice A54 A54l A54c), (Value.slice A55 A55l A55c)]), v56]) ∧
  V.when (V.Z.isIfc v56) (R (Ending.returned (Value.bool (!(V.Z.isNilI v56)))) w58)))))))) :
  Calls Tryz.prog 11 #[(Value.agg #[(Value.int .i64 st_1), (Value.int .i64 st_2), (Value.slice st_3 st_3l st_3c), (Value.slice st_4 st_4l st_4c), (Value.slice st_5 st_5l st_5c)]), (Value.slice more_6 more_6l more_6c)] w R :=
  V.Z.calls_of_N ⟨V.assoc [], V.assocP [], V.assocC [], V.assocS [], ⟨[], true⟩⟩ Tryz.func11 rfl (Eq.mp (by kernel_rfl) h)

end Go.Proofs.YtoaeefjcjdhlkaaGreat
