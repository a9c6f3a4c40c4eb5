/- Normal forms of the program's functions, printed by a program of mine; the kernel checks each. -/
import Derived.Test.YtpipenkaaodlgaaDoorProg
import Derived.Test.YtpipenkaaodlgaaDoorV2
set_option linter.unusedVariables false
set_option maxRecDepth 100000
namespace Go.Proofs.YtpipenkaaodlgaaDoor
open Go

theorem bitset_Equal_nf (a_1 : Option Addr) (b_2 : Option Addr) (w : World) (R : Ending → World → Prop) (h :
  Calls Tryd.prog 38 #[(Value.pointer a_1), (Value.pointer b_2)] w fun e4 w5 =>
  ∃ n3, e4 = Ending.returned (Value.int .i64 n3) ∧
  ∃ I6 : Int → World → Prop, ∃ μ7 : Int → World → Nat, I6 0 w5 ∧
  ∀ t9_8 (j9 : Nat → Value) (w10 : World), I6 t9_8 w10 →
  (V.sel (decide (t9_8 < n3))
  (Calls Tryd.prog 39 #[(Value.pointer a_1), (Value.int .i64 t9_8)] w10 fun e12 w13 =>
  ∃ n11, e12 = Ending.returned (Value.int .u64 n11) ∧
  Calls Tryd.prog 39 #[(Value.pointer b_2), (Value.int .i64 t9_8)] w13 fun e15 w16 =>
  ∃ n14, e15 = Ending.returned (Value.int .u64 n14) ∧
  V.sel (n11 != n14)
  (R (Ending.returned (Value.bool false)) w16)
  (I6 (IntKind.wrap .i64 (t9_8 + 1)) w16 ∧ μ7 (IntKind.wrap .i64 (t9_8 + 1)) w16 < μ7 t9_8 w10))
  (R (Ending.returned (Value.bool true)) w10))) :
  Calls Tryd.prog 17 #[(Value.pointer a_1), (Value.pointer b_2)] w R :=
  V.calls_of_R ⟨V.assoc [(0, [9])], V.assocP [], V.assocC [], V.assocS [], ⟨[], false⟩⟩ Tryd.func17 rfl (Eq.mp (by kernel_rfl) h)

theorem bitset_Set_Has_nf (s_1 : Option Addr) (i_2 : Int) (w : World) (R : Ending → World → Prop) (h :
  Calls Tryd.prog 44 #[(Value.pointer s_1), (Value.int .i64 i_2)] w fun e4 w5 =>
  ∃ b3, e4 = Ending.returned (Value.bool b3) ∧
  V.sel b3
  (V.ptr s_1 fun a6 =>
  ∃ A7, ∃ A7l, ∃ A7c, World.cell? w5 (Addr.add a6 1) = some (Value.slice A7 A7l A7c) ∧
  V.when (decide ((0 : Int) ≤ (IntKind.wrap .i64 (Int.tdiv i_2 64)) ∧ ((IntKind.wrap .i64 (Int.tdiv i_2 64)) : Int) < ((A7l : Nat) : Int))) (V.ptr A7 fun a8 =>
  ∃ n9, World.cell? w5 (Addr.add a8 ((Int.toNat (IntKind.wrap .i64 (Int.tdiv i_2 64))) * 1)) = some (Value.int .u64 n9) ∧
  V.when (decide (0 ≤ (Int.tmod i_2 64))) (R (Ending.returned (Value.bool ((IntKind.wrap .u64 ((BitVec.toNat (BitVec.ofInt 64 (Int.fdiv n9 (2 ^ (min (Int.toNat (Int.tmod i_2 64)) 64))) &&& BitVec.ofInt 64 1) : Nat) : Int)) == 1))) w5)))
  (R (Ending.returned (Value.bool false)) w5)) :
  Calls Tryd.prog 20 #[(Value.pointer s_1), (Value.int .i64 i_2)] w R :=
  V.calls_of_R ⟨V.assoc [], V.assocP [], V.assocC [], V.assocS [], ⟨[], false⟩⟩ Tryd.func20 rfl (Eq.mp (by kernel_rfl) h)

theorem bitset_Set_Members_nf (s_1 : Option Addr) (w : World) (R : Ending → World → Prop) (h :
  Calls Tryd.prog 26 #[(Value.pointer s_1)] w fun e3 w4 =>
  ∃ n2, e3 = Ending.returned (Value.int .i64 n2) ∧
  V.when (decide ((0 : Int) ≤ 0 ∧ (0 : Int) ≤ n2 ∧ (n2 : Int) ≤ 281474976710656 ∧ (8 : Int) * n2 ≤ 281474976710656)) (Calls Tryd.prog 51 #[(Value.pointer s_1)] (World.alloc w4 (.cells ⟨V.rep (Int.toNat n2) [(Value.int .i64 0)]⟩ 3)) fun e6 w7 =>
  ∃ n5, e6 = Ending.returned (Value.int .i64 n5) ∧
  ∃ I8 : Option Addr → Nat → Nat → Int → World → Prop, ∃ μ9 : Option Addr → Nat → Nat → Int → World → Nat, I8 (some ⟨Array.size (World.heap w4), 0, none⟩) 0 (Int.toNat n2) 0 w7 ∧
  ∀ out_10 out_10l out_10c t10_11 (j12 : Nat → Value) (w13 : World), I8 out_10 out_10l out_10c t10_11 w13 →
  (V.sel (decide (t10_11 < n5))
  (Calls Tryd.prog 20 #[(Value.pointer s_1), (Value.int .i64 t10_11)] w13 fun e15 w16 =>
  ∃ b14, e15 = Ending.returned (Value.bool b14) ∧
  V.sel b14
  (∃ A17, ∃ A17l, ∃ A17c, ∃ w18, Sem.run Tryd.prog (Builtin.append_ #[52, 52] 52 #[(Value.slice out_10 out_10l out_10c), (Value.slice (some ⟨Array.size (World.heap w16), 0, none⟩) 1 1)]) (World.alloc w16 (.cells #[(Value.int .i64 t10_11)] 3)) = .ok (Value.slice A17 A17l A17c) w18 ∧
  I8 A17 A17l A17c (IntKind.wrap .i64 (t10_11 + 1)) w18 ∧ μ9 A17 A17l A17c (IntKind.wrap .i64 (t10_11 + 1)) w18 < μ9 out_10 out_10l out_10c t10_11 w13)
  (I8 out_10 out_10l out_10c (IntKind.wrap .i64 (t10_11 + 1)) w16 ∧ μ9 out_10 out_10l out_10c (IntKind.wrap .i64 (t10_11 + 1)) w16 < μ9 out_10 out_10l out_10c t10_11 w13))
  (R (Ending.returned (Value.slice out_10 out_10l out_10c)) w13)))) :
  Calls Tryd.prog 24 #[(Value.pointer s_1)] w R :=
  V.calls_of_R ⟨V.assoc [(0, [3, 10])], V.assocP [], V.assocC [], V.assocS [], ⟨[], false⟩⟩ Tryd.func24 rfl (Eq.mp (by kernel_rfl) h)

theorem bitset_Set_Count_nf (s_1 : Option Addr) (w : World) (R : Ending → World → Prop) (h :
  Calls Tryd.prog 51 #[(Value.pointer s_1)] w fun e3 w4 =>
  ∃ n2, e3 = Ending.returned (Value.int .i64 n2) ∧
  Calls Tryd.prog 52 #[(Value.pointer s_1), (Value.int .i64 n2)] w4 fun e6 w7 =>
  ∃ n5, e6 = Ending.returned (Value.int .i64 n5) ∧
  R (Ending.returned (Value.int .i64 n5)) w7) :
  Calls Tryd.prog 26 #[(Value.pointer s_1)] w R :=
  V.calls_of_R ⟨V.assoc [], V.assocP [], V.assocC [], V.assocS [], ⟨[], false⟩⟩ Tryd.func26 rfl (Eq.mp (by kernel_rfl) h)

theorem bitset_Set_Add_nf (s_1 : Option Addr) (i_2 : Int) (w : World) (R : Ending → World → Prop) (h :
  Calls Tryd.prog 44 #[(Value.pointer s_1), (Value.int .i64 i_2)] w fun e4 w5 =>
  ∃ b3, e4 = Ending.returned (Value.bool b3) ∧
  V.sel (!b3)
  (R (Ending.returned (Value.bool false)) w5)
  (Calls Tryd.prog 20 #[(Value.pointer s_1), (Value.int .i64 i_2)] w5 fun e7 w8 =>
  ∃ b6, e7 = Ending.returned (Value.bool b6) ∧
  V.sel b6
  (R (Ending.returned (Value.bool false)) w8)
  (V.ptr s_1 fun a9 =>
  ∃ A10, ∃ A10l, ∃ A10c, World.cell? w8 (Addr.add a9 1) = some (Value.slice A10 A10l A10c) ∧
  V.when (decide ((0 : Int) ≤ (IntKind.wrap .i64 (Int.tdiv i_2 64)) ∧ ((IntKind.wrap .i64 (Int.tdiv i_2 64)) : Int) < ((A10l : Nat) : Int))) (V.ptr A10 fun a11 =>
  ∃ n12, World.cell? w8 (Addr.add a11 ((Int.toNat (IntKind.wrap .i64 (Int.tdiv i_2 64))) * 1)) = some (Value.int .u64 n12) ∧
  V.when (decide (0 ≤ (Int.tmod i_2 64))) (V.when (decide ((0 : Int) ≤ (IntKind.wrap .i64 (Int.tdiv i_2 64)) ∧ ((IntKind.wrap .i64 (Int.tdiv i_2 64)) : Int) < ((A10l : Nat) : Int))) (V.ptr A10 fun a13 =>
  (∃ u14, World.cell? (World.drew w8) (Addr.add (Addr.add a13 ((Int.toNat (IntKind.wrap .i64 (Int.tdiv i_2 64))) * 1)) 0) = some u14) ∧ World.frozen? (World.drew w8) (Addr.add (Addr.add a13 ((Int.toNat (IntKind.wrap .i64 (Int.tdiv i_2 64))) * 1)) 0) = false ∧
  R (Ending.returned (Value.bool true)) (World.setCell (World.drew w8) (Addr.add (Addr.add a13 ((Int.toNat (IntKind.wrap .i64 (Int.tdiv i_2 64))) * 1)) 0) (Value.int .u64 (IntKind.wrap .u64 ((BitVec.toNat (BitVec.ofInt 64 n12 ||| BitVec.ofInt 64 (IntKind.wrap .u64 (1 * 2 ^ (min (Int.toNat (Int.tmod i_2 64)) 64)))) : Nat) : Int)))))))))) :
  Calls Tryd.prog 31 #[(Value.pointer s_1), (Value.int .i64 i_2)] w R :=
  V.calls_of_R ⟨V.assoc [], V.assocP [(3, V.line [0, 1, 2, 3, 4, 5, 6, 7, 8, 9, 10, 11, 12, 13])], V.assocC [], V.assocS [], ⟨[], false⟩⟩ Tryd.func31 rfl (Eq.mp (by kernel_rfl) h)

theorem bitset_Set_Remove_nf (s_1 : Option Addr) (i_2 : Int) (w : World) (R : Ending → World → Prop) (h :
  Calls Tryd.prog 20 #[(Value.pointer s_1), (Value.int .i64 i_2)] w fun e4 w5 =>
  ∃ b3, e4 = Ending.returned (Value.bool b3) ∧
  V.sel (!b3)
  (R (Ending.returned (Value.bool false)) w5)
  (V.ptr s_1 fun a6 =>
  ∃ A7, ∃ A7l, ∃ A7c, World.cell? w5 (Addr.add a6 1) = some (Value.slice A7 A7l A7c) ∧
  V.when (decide ((0 : Int) ≤ (IntKind.wrap .i64 (Int.tdiv i_2 64)) ∧ ((IntKind.wrap .i64 (Int.tdiv i_2 64)) : Int) < ((A7l : Nat) : Int))) (V.ptr A7 fun a8 =>
  ∃ n9, World.cell? w5 (Addr.add a8 ((Int.toNat (IntKind.wrap .i64 (Int.tdiv i_2 64))) * 1)) = some (Value.int .u64 n9) ∧
  V.when (decide (0 ≤ (Int.tmod i_2 64))) (V.when (decide ((0 : Int) ≤ (IntKind.wrap .i64 (Int.tdiv i_2 64)) ∧ ((IntKind.wrap .i64 (Int.tdiv i_2 64)) : Int) < ((A7l : Nat) : Int))) (V.ptr A7 fun a10 =>
  (∃ u11, World.cell? (World.drew w5) (Addr.add (Addr.add a10 ((Int.toNat (IntKind.wrap .i64 (Int.tdiv i_2 64))) * 1)) 0) = some u11) ∧ World.frozen? (World.drew w5) (Addr.add (Addr.add a10 ((Int.toNat (IntKind.wrap .i64 (Int.tdiv i_2 64))) * 1)) 0) = false ∧
  R (Ending.returned (Value.bool true)) (World.setCell (World.drew w5) (Addr.add (Addr.add a10 ((Int.toNat (IntKind.wrap .i64 (Int.tdiv i_2 64))) * 1)) 0) (Value.int .u64 (IntKind.wrap .u64 ((BitVec.toNat (BitVec.ofInt 64 n9 &&& ~~~(BitVec.ofInt 64 (IntKind.wrap .u64 (1 * 2 ^ (min (Int.toNat (Int.tmod i_2 64)) 64))))) : Nat) : Int))))))))) :
  Calls Tryd.prog 34 #[(Value.pointer s_1), (Value.int .i64 i_2)] w R :=
  V.calls_of_R ⟨V.assoc [], V.assocP [(3, V.line [0, 1, 2, 3, 4, 5, 6, 7, 8, 9, 10, 11, 12, 13])], V.assocC [], V.assocS [], ⟨[], false⟩⟩ Tryd.func34 rfl (Eq.mp (by kernel_rfl) h)

theorem bitset_spanOf_nf (a_1 : Option Addr) (b_2 : Option Addr) (w : World) (R : Ending → World → Prop) (h :
  Calls Tryd.prog 51 #[(Value.pointer a_1)] w fun e4 w5 =>
  ∃ n3, e4 = Ending.returned (Value.int .i64 n3) ∧
  Calls Tryd.prog 51 #[(Value.pointer b_2)] w5 fun e7 w8 =>
  ∃ n6, e7 = Ending.returned (Value.int .i64 n6) ∧
  Calls Tryd.prog 58 #[(Value.int .i64 (if n6 > n3 then n6 else n3))] w8 fun e10 w11 =>
  ∃ n9, e10 = Ending.returned (Value.int .i64 n9) ∧
  R (Ending.returned (Value.int .i64 n9)) w11) :
  Calls Tryd.prog 38 #[(Value.pointer a_1), (Value.pointer b_2)] w R :=
  V.calls_of_R ⟨V.assoc [], V.assocP [], V.assocC [], V.assocS [], ⟨[], false⟩⟩ Tryd.func38 rfl (Eq.mp (by kernel_rfl) h)

theorem bitset_Set_word_nf (s_1 : Option Addr) (w_2 : Int) (w : World) (R : Ending → World → Prop) (h :
  V.sel (Option.isNone s_1)
  (R (Ending.returned (Value.int .u64 0)) w)
  (V.ptr s_1 fun a3 =>
  ∃ A4, ∃ A4l, ∃ A4c, World.cell? w (Addr.add a3 1) = some (Value.slice A4 A4l A4c) ∧
  V.sel (decide (w_2 ≥ ((A4l : Nat) : Int)))
  (R (Ending.returned (Value.int .u64 0)) w)
  (V.ptr s_1 fun a5 =>
  ∃ A6, ∃ A6l, ∃ A6c, World.cell? w (Addr.add a5 1) = some (Value.slice A6 A6l A6c) ∧
  V.when (decide ((0 : Int) ≤ w_2 ∧ (w_2 : Int) < ((A6l : Nat) : Int))) (V.ptr A6 fun a7 =>
  ∃ n8, World.cell? w (Addr.add a7 ((Int.toNat w_2) * 1)) = some (Value.int .u64 n8) ∧
  R (Ending.returned (Value.int .u64 n8)) w)))) :
  Calls Tryd.prog 39 #[(Value.pointer s_1), (Value.int .i64 w_2)] w R :=
  V.calls_of_R ⟨V.assoc [], V.assocP [], V.assocC [], V.assocS [], ⟨[], false⟩⟩ Tryd.func39 rfl (Eq.mp (by kernel_rfl) h)

theorem bitset_Set_OrWith_nf (s_1 : Option Addr) (t_2 : Option Addr) (w : World) (R : Ending → World → Prop) (h :
  V.sel (Option.isNone s_1)
  (R (Ending.returned undef) w)
  (V.ptr s_1 fun a3 =>
  ∃ A4, ∃ A4l, ∃ A4c, World.cell? w (Addr.add a3 1) = some (Value.slice A4 A4l A4c) ∧
  ∃ I5 : Int → World → Prop, ∃ μ6 : Int → World → Nat, I5 0 w ∧
  ∀ t13_7 (j8 : Nat → Value) (w9 : World), I5 t13_7 w9 →
  (V.sel (decide (t13_7 < ((A4l : Nat) : Int)))
  (∃ S10 : World → Prop, S10 (World.drew w9) ∧
  V.ptr s_1 fun a12 =>
  ∃ A13, ∃ A13l, ∃ A13c, (∀ w11, S10 w11 → World.cell? w11 (Addr.add a12 1) = some (Value.slice A13 A13l A13c)) ∧
  V.when (decide ((0 : Int) ≤ t13_7 ∧ (t13_7 : Int) < ((A13l : Nat) : Int))) (V.ptr A13 fun a14 =>
  ∃ n15, (∀ w11, S10 w11 → World.cell? w11 (Addr.add a14 ((Int.toNat t13_7) * 1)) = some (Value.int .u64 n15)) ∧
  Calls Tryd.prog 39 #[(Value.pointer t_2), (Value.int .i64 t13_7)] (World.drew w9) fun e17 w18 =>
  ∃ n16, e17 = Ending.returned (Value.int .u64 n16) ∧
  S10 w18 ∧
  V.when (decide ((0 : Int) ≤ t13_7 ∧ (t13_7 : Int) < ((A13l : Nat) : Int))) (V.ptr A13 fun a19 =>
  (∃ u20, World.cell? w18 (Addr.add (Addr.add a19 ((Int.toNat t13_7) * 1)) 0) = some u20) ∧ World.frozen? w18 (Addr.add (Addr.add a19 ((Int.toNat t13_7) * 1)) 0) = false ∧
  I5 (IntKind.wrap .i64 (t13_7 + 1)) (World.setCell w18 (Addr.add (Addr.add a19 ((Int.toNat t13_7) * 1)) 0) (Value.int .u64 (IntKind.wrap .u64 ((BitVec.toNat (BitVec.ofInt 64 n15 ||| BitVec.ofInt 64 n16) : Nat) : Int)))) ∧ μ6 (IntKind.wrap .i64 (t13_7 + 1)) (World.setCell w18 (Addr.add (Addr.add a19 ((Int.toNat t13_7) * 1)) 0) (Value.int .u64 (IntKind.wrap .u64 ((BitVec.toNat (BitVec.ofInt 64 n15 ||| BitVec.ofInt 64 n16) : Nat) : Int)))) < μ6 t13_7 w9)))
  (V.ptr s_1 fun a21 =>
  ∃ n22, World.cell? w9 (Addr.add a21 0) = some (Value.int .i64 n22) ∧
  V.sel ((Int.tmod n22 64) != 0)
  (V.ptr s_1 fun a23 =>
  ∃ A24, ∃ A24l, ∃ A24c, World.cell? w9 (Addr.add a23 1) = some (Value.slice A24 A24l A24c) ∧
  V.ptr s_1 fun a25 =>
  ∃ A26, ∃ A26l, ∃ A26c, World.cell? w9 (Addr.add a25 1) = some (Value.slice A26 A26l A26c) ∧
  V.when (decide ((0 : Int) ≤ (IntKind.wrap .i64 (((A26l : Nat) : Int) - 1)) ∧ ((IntKind.wrap .i64 (((A26l : Nat) : Int) - 1)) : Int) < ((A24l : Nat) : Int))) (V.ptr A24 fun a27 =>
  ∃ n28, World.cell? w9 (Addr.add a27 ((Int.toNat (IntKind.wrap .i64 (((A26l : Nat) : Int) - 1))) * 1)) = some (Value.int .u64 n28) ∧
  V.when (decide (0 ≤ (Int.tmod n22 64))) (V.when (decide ((0 : Int) ≤ (IntKind.wrap .i64 (((A26l : Nat) : Int) - 1)) ∧ ((IntKind.wrap .i64 (((A26l : Nat) : Int) - 1)) : Int) < ((A24l : Nat) : Int))) (V.ptr A24 fun a29 =>
  (∃ u30, World.cell? (World.drew w9) (Addr.add (Addr.add a29 ((Int.toNat (IntKind.wrap .i64 (((A26l : Nat) : Int) - 1))) * 1)) 0) = some u30) ∧ World.frozen? (World.drew w9) (Addr.add (Addr.add a29 ((Int.toNat (IntKind.wrap .i64 (((A26l : Nat) : Int) - 1))) * 1)) 0) = false ∧
  R (Ending.returned undef) (World.setCell (World.drew w9) (Addr.add (Addr.add a29 ((Int.toNat (IntKind.wrap .i64 (((A26l : Nat) : Int) - 1))) * 1)) 0) (Value.int .u64 (IntKind.wrap .u64 ((BitVec.toNat (BitVec.ofInt 64 n28 &&& BitVec.ofInt 64 (IntKind.wrap .u64 ((IntKind.wrap .u64 (1 * 2 ^ (min (Int.toNat (Int.tmod n22 64)) 64))) - 1))) : Nat) : Int))))))))
  (R (Ending.returned undef) w9))))) :
  Calls Tryd.prog 42 #[(Value.pointer s_1), (Value.pointer t_2)] w R :=
  V.calls_of_R ⟨V.assoc [(0, [13])], V.assocP [(4, V.line [0, 1, 2, 3, 4, 5, 6, 7, 8, 9, 10, 11, 12]), (8, V.line [0, 1, 2, 3, 4, 5, 6, 7, 8, 9, 10, 11, 12, 13, 14, 15, 16, 17])], V.assocC [], V.assocS [], ⟨[], false⟩⟩ Tryd.func42 rfl (Eq.mp (by kernel_rfl) h)

theorem bitset_Set_Clone_nf (s_1 : Option Addr) (w : World) (R : Ending → World → Prop) (h :
  Calls Tryd.prog 51 #[(Value.pointer s_1)] w fun e3 w4 =>
  ∃ n2, e3 = Ending.returned (Value.int .i64 n2) ∧
  Calls Tryd.prog 59 #[(Value.int .i64 n2)] w4 fun e6 w7 =>
  ∃ p5, e6 = Ending.returned (Value.pointer p5) ∧
  V.ptr p5 fun a8 =>
  ∃ A9, ∃ A9l, ∃ A9c, World.cell? w7 (Addr.add a8 1) = some (Value.slice A9 A9l A9c) ∧
  ∃ I10 : Int → World → Prop, ∃ μ11 : Int → World → Nat, I10 0 w7 ∧
  ∀ t13_12 (j13 : Nat → Value) (w14 : World), I10 t13_12 w14 →
  (V.sel (decide (t13_12 < ((A9l : Nat) : Int)))
  (V.ptr p5 fun a15 =>
  ∃ A16, ∃ A16l, ∃ A16c, World.cell? w14 (Addr.add a15 1) = some (Value.slice A16 A16l A16c) ∧
  V.ptr s_1 fun a17 =>
  ∃ A18, ∃ A18l, ∃ A18c, World.cell? w14 (Addr.add a17 1) = some (Value.slice A18 A18l A18c) ∧
  V.when (decide ((0 : Int) ≤ t13_12 ∧ (t13_12 : Int) < ((A18l : Nat) : Int))) (V.ptr A18 fun a19 =>
  ∃ n20, World.cell? w14 (Addr.add a19 ((Int.toNat t13_12) * 1)) = some (Value.int .u64 n20) ∧
  V.when (decide ((0 : Int) ≤ t13_12 ∧ (t13_12 : Int) < ((A16l : Nat) : Int))) (V.ptr A16 fun a21 =>
  (∃ u22, World.cell? (World.drew w14) (Addr.add (Addr.add a21 ((Int.toNat t13_12) * 1)) 0) = some u22) ∧ World.frozen? (World.drew w14) (Addr.add (Addr.add a21 ((Int.toNat t13_12) * 1)) 0) = false ∧
  I10 (IntKind.wrap .i64 (t13_12 + 1)) (World.setCell (World.drew w14) (Addr.add (Addr.add a21 ((Int.toNat t13_12) * 1)) 0) (Value.int .u64 n20)) ∧ μ11 (IntKind.wrap .i64 (t13_12 + 1)) (World.setCell (World.drew w14) (Addr.add (Addr.add a21 ((Int.toNat t13_12) * 1)) 0) (Value.int .u64 n20)) < μ11 t13_12 w14)))
  (R (Ending.returned (Value.pointer p5)) w14))) :
  Calls Tryd.prog 43 #[(Value.pointer s_1)] w R :=
  V.calls_of_R ⟨V.assoc [(0, [13])], V.assocP [(5, V.line [0, 1, 2, 3, 4, 5, 6, 7, 8, 9, 10, 11, 12, 13])], V.assocC [], V.assocS [], ⟨[], false⟩⟩ Tryd.func43 rfl (Eq.mp (by kernel_rfl) h)

theorem bitset_Set_inside_nf (s_1 : Option Addr) (i_2 : Int) (w : World) (R : Ending → World → Prop) (h :
  V.sel (decide (i_2 ≥ 0))
  (Calls Tryd.prog 51 #[(Value.pointer s_1)] w fun e4 w5 =>
  ∃ n3, e4 = Ending.returned (Value.int .i64 n3) ∧
  R (Ending.returned (Value.bool (decide (i_2 < n3)))) w5)
  (R (Ending.returned (Value.bool false)) w)) :
  Calls Tryd.prog 44 #[(Value.pointer s_1), (Value.int .i64 i_2)] w R :=
  V.calls_of_R ⟨V.assoc [], V.assocP [], V.assocC [], V.assocS [], ⟨[], false⟩⟩ Tryd.func44 rfl (Eq.mp (by kernel_rfl) h)

theorem bitset_New_nf (n_1 : Int) (w : World) (R : Ending → World → Prop) (h :
  V.sel (decide (n_1 < 0))
  (R (Ending.returned (Value.tuple #[(Value.pointer none), (Value.int .i64 11)])) w)
  (V.sel (decide (n_1 > 65536))
  (R (Ending.returned (Value.tuple #[(Value.pointer none), (Value.int .i64 11)])) w)
  (Calls Tryd.prog 59 #[(Value.int .i64 n_1)] w fun e3 w4 =>
  ∃ p2, e3 = Ending.returned (Value.pointer p2) ∧
  R (Ending.returned (Value.tuple #[(Value.pointer p2), (Value.int .i64 0)])) w4))) :
  Calls Tryd.prog 45 #[(Value.int .i64 n_1)] w R :=
  V.calls_of_R ⟨V.assoc [], V.assocP [], V.assocC [], V.assocS [], ⟨[], false⟩⟩ Tryd.func45 rfl (Eq.mp (by kernel_rfl) h)

theorem bitset_Meets_nf (a_1 : Option Addr) (b_2 : Option Addr) (w : World) (R : Ending → World → Prop) (h :
  Calls Tryd.prog 38 #[(Value.pointer a_1), (Value.pointer b_2)] w fun e4 w5 =>
  ∃ n3, e4 = Ending.returned (Value.int .i64 n3) ∧
  ∃ I6 : Int → World → Prop, ∃ μ7 : Int → World → Nat, I6 0 w5 ∧
  ∀ t9_8 (j9 : Nat → Value) (w10 : World), I6 t9_8 w10 →
  (V.sel (decide (t9_8 < n3))
  (Calls Tryd.prog 39 #[(Value.pointer a_1), (Value.int .i64 t9_8)] w10 fun e12 w13 =>
  ∃ n11, e12 = Ending.returned (Value.int .u64 n11) ∧
  Calls Tryd.prog 39 #[(Value.pointer b_2), (Value.int .i64 t9_8)] w13 fun e15 w16 =>
  ∃ n14, e15 = Ending.returned (Value.int .u64 n14) ∧
  V.sel ((IntKind.wrap .u64 ((BitVec.toNat (BitVec.ofInt 64 n11 &&& BitVec.ofInt 64 n14) : Nat) : Int)) != 0)
  (R (Ending.returned (Value.bool true)) w16)
  (I6 (IntKind.wrap .i64 (t9_8 + 1)) w16 ∧ μ7 (IntKind.wrap .i64 (t9_8 + 1)) w16 < μ7 t9_8 w10))
  (R (Ending.returned (Value.bool false)) w10))) :
  Calls Tryd.prog 46 #[(Value.pointer a_1), (Value.pointer b_2)] w R :=
  V.calls_of_R ⟨V.assoc [(0, [9])], V.assocP [], V.assocC [], V.assocS [], ⟨[], false⟩⟩ Tryd.func46 rfl (Eq.mp (by kernel_rfl) h)

theorem bitset_Or_nf (a_1 : Option Addr) (b_2 : Option Addr) (w : World) (R : Ending → World → Prop) (h :
  Calls Tryd.prog 60 #[(Value.pointer a_1), (Value.pointer b_2), (Value.func (.func 61) #[] #[])] w fun e4 w5 =>
  ∃ p3, e4 = Ending.returned (Value.pointer p3) ∧
  R (Ending.returned (Value.pointer p3)) w5) :
  Calls Tryd.prog 48 #[(Value.pointer a_1), (Value.pointer b_2)] w R :=
  V.calls_of_R ⟨V.assoc [], V.assocP [], V.assocC [], V.assocS [], ⟨[], false⟩⟩ Tryd.func48 rfl (Eq.mp (by kernel_rfl) h)

theorem bitset_Subset_nf (a_1 : Option Addr) (b_2 : Option Addr) (w : World) (R : Ending → World → Prop) (h :
  Calls Tryd.prog 38 #[(Value.pointer a_1), (Value.pointer b_2)] w fun e4 w5 =>
  ∃ n3, e4 = Ending.returned (Value.int .i64 n3) ∧
  ∃ I6 : Int → World → Prop, ∃ μ7 : Int → World → Nat, I6 0 w5 ∧
  ∀ t9_8 (j9 : Nat → Value) (w10 : World), I6 t9_8 w10 →
  (V.sel (decide (t9_8 < n3))
  (Calls Tryd.prog 39 #[(Value.pointer a_1), (Value.int .i64 t9_8)] w10 fun e12 w13 =>
  ∃ n11, e12 = Ending.returned (Value.int .u64 n11) ∧
  Calls Tryd.prog 39 #[(Value.pointer b_2), (Value.int .i64 t9_8)] w13 fun e15 w16 =>
  ∃ n14, e15 = Ending.returned (Value.int .u64 n14) ∧
  V.sel ((IntKind.wrap .u64 ((BitVec.toNat (BitVec.ofInt 64 n11 &&& ~~~(BitVec.ofInt 64 n14)) : Nat) : Int)) != 0)
  (R (Ending.returned (Value.bool false)) w16)
  (I6 (IntKind.wrap .i64 (t9_8 + 1)) w16 ∧ μ7 (IntKind.wrap .i64 (t9_8 + 1)) w16 < μ7 t9_8 w10))
  (R (Ending.returned (Value.bool true)) w10))) :
  Calls Tryd.prog 50 #[(Value.pointer a_1), (Value.pointer b_2)] w R :=
  V.calls_of_R ⟨V.assoc [(0, [9])], V.assocP [], V.assocC [], V.assocS [], ⟨[], false⟩⟩ Tryd.func50 rfl (Eq.mp (by kernel_rfl) h)

theorem bitset_Set_Size_nf (s_1 : Option Addr) (w : World) (R : Ending → World → Prop) (h :
  V.sel (Option.isNone s_1)
  (R (Ending.returned (Value.int .i64 0)) w)
  (V.ptr s_1 fun a2 =>
  ∃ n3, World.cell? w (Addr.add a2 0) = some (Value.int .i64 n3) ∧
  R (Ending.returned (Value.int .i64 n3)) w)) :
  Calls Tryd.prog 51 #[(Value.pointer s_1)] w R :=
  V.calls_of_R ⟨V.assoc [], V.assocP [], V.assocC [], V.assocS [], ⟨[], false⟩⟩ Tryd.func51 rfl (Eq.mp (by kernel_rfl) h)

theorem bitset_Set_Rank_nf (s_1 : Option Addr) (i_2 : Int) (w : World) (R : Ending → World → Prop) (h :
  Calls Tryd.prog 51 #[(Value.pointer s_1)] w fun e4 w5 =>
  ∃ n3, e4 = Ending.returned (Value.int .i64 n3) ∧
  V.sel (decide ((if n3 < i_2 then n3 else i_2) ≤ 0))
  (R (Ending.returned (Value.int .i64 0)) w5)
  (∃ I6 : Int → Int → World → Prop, ∃ μ7 : Int → Int → World → Nat, I6 0 0 w5 ∧
  ∀ n_8 t15_9 (j10 : Nat → Value) (w11 : World), I6 n_8 t15_9 w11 →
  (V.sel (decide (t15_9 < (IntKind.wrap .i64 (Int.tdiv (if n3 < i_2 then n3 else i_2) 64))))
  (V.ptr s_1 fun a12 =>
  ∃ A13, ∃ A13l, ∃ A13c, World.cell? w11 (Addr.add a12 1) = some (Value.slice A13 A13l A13c) ∧
  V.when (decide ((0 : Int) ≤ t15_9 ∧ (t15_9 : Int) < ((A13l : Nat) : Int))) (V.ptr A13 fun a14 =>
  ∃ n15, World.cell? w11 (Addr.add a14 ((Int.toNat t15_9) * 1)) = some (Value.int .u64 n15) ∧
  Calls Tryd.prog 62 #[(Value.int .u64 n15)] w11 fun e17 w18 =>
  ∃ n16, e17 = Ending.returned (Value.int .i64 n16) ∧
  I6 (IntKind.wrap .i64 (n_8 + n16)) (IntKind.wrap .i64 (t15_9 + 1)) w18 ∧ μ7 (IntKind.wrap .i64 (n_8 + n16)) (IntKind.wrap .i64 (t15_9 + 1)) w18 < μ7 n_8 t15_9 w11))
  (V.sel ((Int.tmod (if n3 < i_2 then n3 else i_2) 64) != 0)
  (V.ptr s_1 fun a19 =>
  ∃ A20, ∃ A20l, ∃ A20c, World.cell? w11 (Addr.add a19 1) = some (Value.slice A20 A20l A20c) ∧
  V.when (decide ((0 : Int) ≤ (IntKind.wrap .i64 (Int.tdiv (if n3 < i_2 then n3 else i_2) 64)) ∧ ((IntKind.wrap .i64 (Int.tdiv (if n3 < i_2 then n3 else i_2) 64)) : Int) < ((A20l : Nat) : Int))) (V.ptr A20 fun a21 =>
  ∃ n22, World.cell? w11 (Addr.add a21 ((Int.toNat (IntKind.wrap .i64 (Int.tdiv (if n3 < i_2 then n3 else i_2) 64))) * 1)) = some (Value.int .u64 n22) ∧
  V.when (decide (0 ≤ (IntKind.wrap .i64 (64 - (Int.tmod (if n3 < i_2 then n3 else i_2) 64))))) (Calls Tryd.prog 62 #[(Value.int .u64 (IntKind.wrap .u64 (n22 * 2 ^ (min (Int.toNat (IntKind.wrap .i64 (64 - (Int.tmod (if n3 < i_2 then n3 else i_2) 64)))) 64))))] w11 fun e24 w25 =>
  ∃ n23, e24 = Ending.returned (Value.int .i64 n23) ∧
  R (Ending.returned (Value.int .i64 (IntKind.wrap .i64 (n_8 + n23)))) w25)))
  (R (Ending.returned (Value.int .i64 n_8)) w11))))) :
  Calls Tryd.prog 52 #[(Value.pointer s_1), (Value.int .i64 i_2)] w R :=
  V.calls_of_R ⟨V.assoc [(0, [5, 15])], V.assocP [], V.assocC [], V.assocS [], ⟨[], false⟩⟩ Tryd.func52 rfl (Eq.mp (by kernel_rfl) h)

theorem bitset_wordCount_nf (n_1 : Int) (w : World) (R : Ending → World → Prop) (h :
  V.lt (IntKind.wrap .i64 (Int.tdiv (IntKind.wrap .i64 (n_1 + 63)) 64)) fun x2 =>
  R (Ending.returned (Value.int .i64 x2)) w) :
  Calls Tryd.prog 58 #[(Value.int .i64 n_1)] w R :=
  V.calls_of_R ⟨V.assoc [], V.assocP [], V.assocC [], V.assocS [], ⟨[], false⟩⟩ Tryd.func58 rfl (Eq.mp (by kernel_rfl) h)

theorem bitset_blank_nf (n_1 : Int) (w : World) (R : Ending → World → Prop) (h :
  Calls Tryd.prog 58 #[(Value.int .i64 n_1)] w fun e3 w4 =>
  ∃ n2, e3 = Ending.returned (Value.int .i64 n2) ∧
  V.when (decide ((0 : Int) ≤ n2 ∧ (n2 : Int) ≤ n2 ∧ (n2 : Int) ≤ 281474976710656 ∧ (8 : Int) * n2 ≤ 281474976710656)) (R (Ending.returned (Value.pointer (some ⟨Array.size (World.heap (World.alloc w4 (.cells ⟨V.rep (Int.toNat n2) [(Value.int .u64 0)]⟩ 72))), 0, none⟩))) (World.alloc (World.alloc w4 (.cells ⟨V.rep (Int.toNat n2) [(Value.int .u64 0)]⟩ 72)) (.cells #[(Value.int .i64 n_1), (Value.slice (some ⟨Array.size (World.heap w4), 0, none⟩) (Int.toNat n2) (Int.toNat n2))] 79)))) :
  Calls Tryd.prog 59 #[(Value.int .i64 n_1)] w R :=
  V.calls_of_R ⟨V.assoc [], V.assocP [], V.assocC [], V.assocS [], ⟨[], false⟩⟩ Tryd.func59 rfl (Eq.mp (by kernel_rfl) h)

theorem bitset_joined_nf (a_1 : Option Addr) (b_2 : Option Addr) (one_f3 : Nat) (one_a4 : Array Value) (one_c5 : Array Value) (w : World) (R : Ending → World → Prop) (h :
  Calls Tryd.prog 51 #[(Value.pointer a_1)] w fun e7 w8 =>
  ∃ n6, e7 = Ending.returned (Value.int .i64 n6) ∧
  Calls Tryd.prog 51 #[(Value.pointer b_2)] w8 fun e10 w11 =>
  ∃ n9, e10 = Ending.returned (Value.int .i64 n9) ∧
  Calls Tryd.prog 59 #[(Value.int .i64 (if n9 > n6 then n9 else n6))] w11 fun e13 w14 =>
  ∃ p12, e13 = Ending.returned (Value.pointer p12) ∧
  V.ptr p12 fun a15 =>
  ∃ A16, ∃ A16l, ∃ A16c, World.cell? w14 (Addr.add a15 1) = some (Value.slice A16 A16l A16c) ∧
  ∃ I17 : Int → World → Prop, ∃ μ18 : Int → World → Nat, I17 0 w14 ∧
  ∀ t20_19 (j20 : Nat → Value) (w21 : World), I17 t20_19 w21 →
  (V.sel (decide (t20_19 < ((A16l : Nat) : Int)))
  (∃ S22 : World → Prop, S22 (World.drew w21) ∧
  V.ptr p12 fun a24 =>
  ∃ A25, ∃ A25l, ∃ A25c, (∀ w23, S22 w23 → World.cell? w23 (Addr.add a24 1) = some (Value.slice A25 A25l A25c)) ∧
  Calls Tryd.prog 39 #[(Value.pointer a_1), (Value.int .i64 t20_19)] (World.drew w21) fun e27 w28 =>
  ∃ n26, e27 = Ending.returned (Value.int .u64 n26) ∧
  S22 w28 ∧
  Calls Tryd.prog 39 #[(Value.pointer b_2), (Value.int .i64 t20_19)] w28 fun e30 w31 =>
  ∃ n29, e30 = Ending.returned (Value.int .u64 n29) ∧
  S22 w31 ∧
  V.when (V.hasB Tryd.prog one_f3) (Calls Tryd.prog one_f3 ⟨Array.toList one_a4 ++ [(Value.int .u64 n26), (Value.int .u64 n29)] ++ Array.toList one_c5⟩ w31 fun e33 w34 =>
  ∃ n32, e33 = Ending.returned (Value.int .u64 n32) ∧
  S22 w34 ∧
  V.when (decide ((0 : Int) ≤ t20_19 ∧ (t20_19 : Int) < ((A25l : Nat) : Int))) (V.ptr A25 fun a35 =>
  (∃ u36, World.cell? w34 (Addr.add (Addr.add a35 ((Int.toNat t20_19) * 1)) 0) = some u36) ∧ World.frozen? w34 (Addr.add (Addr.add a35 ((Int.toNat t20_19) * 1)) 0) = false ∧
  I17 (IntKind.wrap .i64 (t20_19 + 1)) (World.setCell w34 (Addr.add (Addr.add a35 ((Int.toNat t20_19) * 1)) 0) (Value.int .u64 n32)) ∧ μ18 (IntKind.wrap .i64 (t20_19 + 1)) (World.setCell w34 (Addr.add (Addr.add a35 ((Int.toNat t20_19) * 1)) 0) (Value.int .u64 n32)) < μ18 t20_19 w21)))
  (R (Ending.returned (Value.pointer p12)) w21))) :
  Calls Tryd.prog 60 #[(Value.pointer a_1), (Value.pointer b_2), (Value.func (.func one_f3) one_a4 one_c5)] w R :=
  V.calls_of_R ⟨V.assoc [(0, [20])], V.assocP [(5, V.line [0, 1, 2, 3, 4, 5, 6, 7, 9, 10, 8, 11, 12, 13, 14])], V.assocC [], V.assocS [], ⟨[], false⟩⟩ Tryd.func60 rfl (Eq.mp (by kernel_rfl) h)

theorem bitset_Or_l1_nf (x_1 : Int) (y_2 : Int) (w : World) (R : Ending → World → Prop) (h :
  V.lt (IntKind.wrap .u64 ((BitVec.toNat (BitVec.ofInt 64 x_1 ||| BitVec.ofInt 64 y_2) : Nat) : Int)) fun x3 =>
  R (Ending.returned (Value.int .u64 x3)) w) :
  Calls Tryd.prog 61 #[(Value.int .u64 x_1), (Value.int .u64 y_2)] w R :=
  V.calls_of_R ⟨V.assoc [], V.assocP [], V.assocC [], V.assocS [], ⟨[], false⟩⟩ Tryd.func61 rfl (Eq.mp (by kernel_rfl) h)

theorem math_bits_OnesCount64_nf (x_1 : Int) (w : World) (R : Ending → World → Prop) (h :
  V.lt (IntKind.wrap .u64 ((IntKind.wrap .u64 ((BitVec.toNat (BitVec.ofInt 64 (Int.fdiv x_1 (2 ^ 1)) &&& BitVec.ofInt 64 6148914691236517205) : Nat) : Int)) + (IntKind.wrap .u64 ((BitVec.toNat (BitVec.ofInt 64 x_1 &&& BitVec.ofInt 64 6148914691236517205) : Nat) : Int)))) fun x2 =>
  V.lt (IntKind.wrap .u64 ((IntKind.wrap .u64 ((BitVec.toNat (BitVec.ofInt 64 (Int.fdiv x2 (2 ^ 2)) &&& BitVec.ofInt 64 3689348814741910323) : Nat) : Int)) + (IntKind.wrap .u64 ((BitVec.toNat (BitVec.ofInt 64 x2 &&& BitVec.ofInt 64 3689348814741910323) : Nat) : Int)))) fun x3 =>
  V.lt (IntKind.wrap .u64 ((BitVec.toNat (BitVec.ofInt 64 (IntKind.wrap .u64 ((Int.fdiv x3 (2 ^ 4)) + x3)) &&& BitVec.ofInt 64 1085102592571150095) : Nat) : Int)) fun x4 =>
  V.lt (IntKind.wrap .u64 (x4 + (Int.fdiv x4 (2 ^ 8)))) fun x5 =>
  V.lt (IntKind.wrap .u64 (x5 + (Int.fdiv x5 (2 ^ 16)))) fun x6 =>
  V.lt (IntKind.wrap .u64 (x6 + (Int.fdiv x6 (2 ^ 32)))) fun x7 =>
  V.lt (IntKind.wrap .i64 ((BitVec.toNat (BitVec.ofInt 64 (IntKind.wrap .i64 (x7)) &&& BitVec.ofInt 64 127) : Nat) : Int)) fun x8 =>
  R (Ending.returned (Value.int .i64 x8)) w) :
  Calls Tryd.prog 62 #[(Value.int .u64 x_1)] w R :=
  V.calls_of_R ⟨V.assoc [], V.assocP [], V.assocC [], V.assocS [], ⟨[], false⟩⟩ Tryd.func62 rfl (Eq.mp (by kernel_rfl) h)

theorem berthlaw07_PostingRefused_nf (script_1 : Option Addr) (script_1l : Nat) (script_1c : Nat) (w : World) (R : Ending → World → Prop) (h :
  Calls Tryd.prog 6 #[] w fun e3 w4 =>
  ∃ b2, e3 = Ending.returned (Value.bool b2) ∧
  V.sel (!b2)
  (R (Ending.returned (Value.bool false)) w4)
  (Calls Tryd.prog 7 #[(Value.slice script_1 script_1l script_1c)] w4 fun e6 w7 =>
  ∃ p5, e6 = Ending.returned (Value.pointer p5) ∧
  Calls Tryd.prog 7 #[(Value.slice script_1 script_1l script_1c)] w7 fun e9 w10 =>
  ∃ p8, e9 = Ending.returned (Value.pointer p8) ∧
  V.sel (Option.isNone p5)
  (R (Ending.returned (Value.bool false)) w10)
  (V.sel (Option.isNone p8)
  (R (Ending.returned (Value.bool false)) w10)
  (∃ I11 : Int → World → Prop, ∃ μ12 : Int → World → Nat, I11 0 w10 ∧
  ∀ i_13 (j14 : Nat → Value) (w15 : World), I11 i_13 w15 →
  (V.sel (decide (i_13 < ((script_1l : Nat) : Int)))
  (V.when (decide ((0 : Int) ≤ i_13 ∧ (i_13 : Int) < ((script_1l : Nat) : Int))) (V.ptr script_1 fun a16 =>
  ∃ n17, ∃ n18, ∃ n19, ∃ A20, ∃ A20l, ∃ A20c, ∃ s21, ∃ s22, ∃ A23, ∃ A23l, ∃ A23c, V.cellsC (fun a_ x_ => World.cell? w15 a_ = some x_) (Addr.add a16 ((Int.toNat i_13) * 7)) [(Value.int .i64 n17), (Value.int .i64 n18), (Value.int .i64 n19), (Value.slice A20 A20l A20c), (Value.string s21), (Value.string s22), (Value.slice A23 A23l A23c)] ∧
  ∀ w24, w24 = (World.alloc w15 (.cells #[(Value.int .i64 0), (Value.int .i64 0), (Value.int .i64 0), (Value.slice none 0 0), (Value.string ByteArray.empty), (Value.string ByteArray.empty), (Value.slice none 0 0)] 29)) →
  ∃ w25, Sem.run Tryd.prog (Instr.storeAt 29 (Value.pointer (some ⟨Array.size (World.heap w15), 0, none⟩)) (Value.agg #[(Value.int .i64 n17), (Value.int .i64 n18), (Value.int .i64 n19), (Value.slice A20 A20l A20c), (Value.string s21), (Value.string s22), (Value.slice A23 A23l A23c)])) w24 = .ok () w25 ∧
  ∃ S26 : World → Prop, S26 (World.drew w25) ∧
  ∃ n28, (∀ w27, S26 w27 → World.cell? w27 (Addr.add ⟨Array.size (World.heap w15), 0, none⟩ 2) = some (Value.int .i64 n28)) ∧
  ∃ A29, ∃ A29l, ∃ A29c, (∀ w27, S26 w27 → World.cell? w27 (Addr.add ⟨Array.size (World.heap w15), 0, none⟩ 3) = some (Value.slice A29 A29l A29c)) ∧
  Calls Tryd.prog 10 #[(Value.slice A29 A29l A29c)] (World.drew w25) fun e31 w32 =>
  ∃ A30, ∃ A30l, ∃ A30c, e31 = Ending.returned (Value.slice A30 A30l A30c) ∧
  S26 w32 ∧
  Calls Tryd.prog 9 #[(Value.pointer none), (Value.int .i64 n28), (Value.slice A30 A30l A30c)] w32 fun e34 w35 =>
  ∃ n33, e34 = Ending.returned (Value.int .i64 n33) ∧
  S26 w35 ∧
  Calls Tryd.prog 8 #[(Value.int .i64 n33)] w35 fun e37 w38 =>
  ∃ n36, e37 = Ending.returned (Value.int .i64 n36) ∧
  S26 w38 ∧
  V.sel (n36 != 1)
  (R (Ending.returned (Value.bool false)) w38)
  (∃ n39, (∀ w27, S26 w27 → World.cell? w27 (Addr.add ⟨Array.size (World.heap w15), 0, none⟩ 2) = some (Value.int .i64 n39)) ∧
  ∃ A40, ∃ A40l, ∃ A40c, (∀ w27, S26 w27 → World.cell? w27 (Addr.add ⟨Array.size (World.heap w15), 0, none⟩ 3) = some (Value.slice A40 A40l A40c)) ∧
  Calls Tryd.prog 10 #[(Value.slice A40 A40l A40c)] w38 fun e42 w43 =>
  ∃ A41, ∃ A41l, ∃ A41c, e42 = Ending.returned (Value.slice A41 A41l A41c) ∧
  S26 w43 ∧
  Calls Tryd.prog 11 #[(Value.pointer none), (Value.int .i64 n39), (Value.slice A41 A41l A41c)] w43 fun e45 w46 =>
  ∃ n44, e45 = Ending.returned (Value.int .i64 n44) ∧
  S26 w46 ∧
  Calls Tryd.prog 8 #[(Value.int .i64 n44)] w46 fun e48 w49 =>
  ∃ n47, e48 = Ending.returned (Value.int .i64 n47) ∧
  S26 w49 ∧
  V.sel (n47 != 1)
  (R (Ending.returned (Value.bool false)) w49)
  (∃ n50, (∀ w27, S26 w27 → World.cell? w27 (Addr.add ⟨Array.size (World.heap w15), 0, none⟩ 2) = some (Value.int .i64 n50)) ∧
  Calls Tryd.prog 12 #[(Value.pointer none), (Value.int .i64 n50)] w49 fun e52 w53 =>
  ∃ n51, e52 = Ending.returned (Value.int .i64 n51) ∧
  S26 w53 ∧
  Calls Tryd.prog 8 #[(Value.int .i64 n51)] w53 fun e55 w56 =>
  ∃ n54, e55 = Ending.returned (Value.int .i64 n54) ∧
  S26 w56 ∧
  V.sel (n54 != 1)
  (R (Ending.returned (Value.bool false)) w56)
  (∃ A57, ∃ A57l, ∃ A57c, World.cell? w56 (Addr.add ⟨Array.size (World.heap w15), 0, none⟩ 3) = some (Value.slice A57 A57l A57c) ∧
  Calls Tryd.prog 10 #[(Value.slice A57 A57l A57c)] w56 fun e59 w60 =>
  ∃ A58, ∃ A58l, ∃ A58c, e59 = Ending.returned (Value.slice A58 A58l A58c) ∧
  ∀ w61, w61 = (World.alloc w60 (.cells #[(Value.string ⟨#[45]⟩), (Value.string ⟨#[120]⟩)] 36)) →
  ∃ A62, ∃ A62l, ∃ A62c, ∃ w63, Sem.run Tryd.prog (Builtin.append_ #[26, 26] 26 #[(Value.slice A58 A58l A58c), (Value.slice (some ⟨Array.size (World.heap w60), 0, none⟩) 1 1)]) w61 = .ok (Value.slice A62 A62l A62c) w63 ∧
  ∃ I64 : Int → World → Prop, ∃ μ65 : Int → World → Nat, I64 (-1) w63 ∧
  ∀ slot_66 (j67 : Nat → Value) (w68 : World), I64 slot_66 w68 →
  (V.sel (decide (slot_66 ≤ 100))
  (Calls Tryd.prog 13 #[(Value.pointer p5), (Value.int .i64 slot_66)] w68 fun e71 w72 =>
  ∃ A69, ∃ A69l, ∃ A69c, ∃ b70, e71 = Ending.returned (Value.tuple #[(Value.slice A69 A69l A69c), (Value.bool b70)]) ∧
  Calls Tryd.prog 10 #[(Value.slice A62 A62l A62c)] w72 fun e74 w75 =>
  ∃ A73, ∃ A73l, ∃ A73c, e74 = Ending.returned (Value.slice A73 A73l A73c) ∧
  Calls Tryd.prog 9 #[(Value.pointer p5), (Value.int .i64 slot_66), (Value.slice A73 A73l A73c)] w75 fun e77 w78 =>
  ∃ n76, e77 = Ending.returned (Value.int .i64 n76) ∧
  Calls Tryd.prog 8 #[(Value.int .i64 n76)] w78 fun e80 w81 =>
  ∃ n79, e80 = Ending.returned (Value.int .i64 n79) ∧
  V.sel (n79 == 0)
  (R (Ending.returned (Value.bool false)) w81)
  (Calls Tryd.prog 10 #[(Value.slice A62 A62l A62c)] w81 fun e83 w84 =>
  ∃ A82, ∃ A82l, ∃ A82c, e83 = Ending.returned (Value.slice A82 A82l A82c) ∧
  Calls Tryd.prog 11 #[(Value.pointer p5), (Value.int .i64 slot_66), (Value.slice A82 A82l A82c)] w84 fun e86 w87 =>
  ∃ n85, e86 = Ending.returned (Value.int .i64 n85) ∧
  Calls Tryd.prog 8 #[(Value.int .i64 n85)] w87 fun e89 w90 =>
  ∃ n88, e89 = Ending.returned (Value.int .i64 n88) ∧
  V.sel (n88 == 0)
  (R (Ending.returned (Value.bool false)) w90)
  (V.sel b70
  (∃ A91, ∃ A91l, ∃ A91c, World.cell? w90 (Addr.add ⟨Array.size (World.heap w15), 0, none⟩ 3) = some (Value.slice A91 A91l A91c) ∧
  Calls Tryd.prog 10 #[(Value.slice A91 A91l A91c)] w90 fun e93 w94 =>
  ∃ A92, ∃ A92l, ∃ A92c, e93 = Ending.returned (Value.slice A92 A92l A92c) ∧
  Calls Tryd.prog 9 #[(Value.pointer p5), (Value.int .i64 slot_66), (Value.slice A92 A92l A92c)] w94 fun e96 w97 =>
  ∃ n95, e96 = Ending.returned (Value.int .i64 n95) ∧
  Calls Tryd.prog 8 #[(Value.int .i64 n95)] w97 fun e99 w100 =>
  ∃ n98, e99 = Ending.returned (Value.int .i64 n98) ∧
  V.sel (n98 != 70)
  (R (Ending.returned (Value.bool false)) w100)
  (V.sel (!b70)
  (V.sel (decide (slot_66 ≥ 0))
  (V.sel (decide (slot_66 < 100))
  (∃ A101, ∃ A101l, ∃ A101c, World.cell? w100 (Addr.add ⟨Array.size (World.heap w15), 0, none⟩ 3) = some (Value.slice A101 A101l A101c) ∧
  Calls Tryd.prog 10 #[(Value.slice A101 A101l A101c)] w100 fun e103 w104 =>
  ∃ A102, ∃ A102l, ∃ A102c, e103 = Ending.returned (Value.slice A102 A102l A102c) ∧
  Calls Tryd.prog 11 #[(Value.pointer p5), (Value.int .i64 slot_66), (Value.slice A102 A102l A102c)] w104 fun e106 w107 =>
  ∃ n105, e106 = Ending.returned (Value.int .i64 n105) ∧
  Calls Tryd.prog 8 #[(Value.int .i64 n105)] w107 fun e109 w110 =>
  ∃ n108, e109 = Ending.returned (Value.int .i64 n108) ∧
  V.sel (n108 != 71)
  (R (Ending.returned (Value.bool false)) w110)
  (Calls Tryd.prog 12 #[(Value.pointer p5), (Value.int .i64 slot_66)] w110 fun e112 w113 =>
  ∃ n111, e112 = Ending.returned (Value.int .i64 n111) ∧
  Calls Tryd.prog 8 #[(Value.int .i64 n111)] w113 fun e115 w116 =>
  ∃ n114, e115 = Ending.returned (Value.int .i64 n114) ∧
  V.sel (n114 != 71)
  (R (Ending.returned (Value.bool false)) w116)
  (V.lt (IntKind.wrap .i64 (slot_66 + (IntKind.wrap .i64 (1 + (Int.tmod i_13 7))))) fun x117 =>
  I64 x117 w116 ∧ μ65 x117 w116 < μ65 slot_66 w68)))
  (V.lt (IntKind.wrap .i64 (slot_66 + (IntKind.wrap .i64 (1 + (Int.tmod i_13 7))))) fun x118 =>
  I64 x118 w100 ∧ μ65 x118 w100 < μ65 slot_66 w68))
  (V.lt (IntKind.wrap .i64 (slot_66 + (IntKind.wrap .i64 (1 + (Int.tmod i_13 7))))) fun x119 =>
  I64 x119 w100 ∧ μ65 x119 w100 < μ65 slot_66 w68))
  (V.lt (IntKind.wrap .i64 (slot_66 + (IntKind.wrap .i64 (1 + (Int.tmod i_13 7))))) fun x120 =>
  I64 x120 w100 ∧ μ65 x120 w100 < μ65 slot_66 w68)))
  (V.sel (!b70)
  (V.sel (decide (slot_66 ≥ 0))
  (V.sel (decide (slot_66 < 100))
  (∃ A121, ∃ A121l, ∃ A121c, World.cell? w90 (Addr.add ⟨Array.size (World.heap w15), 0, none⟩ 3) = some (Value.slice A121 A121l A121c) ∧
  Calls Tryd.prog 10 #[(Value.slice A121 A121l A121c)] w90 fun e123 w124 =>
  ∃ A122, ∃ A122l, ∃ A122c, e123 = Ending.returned (Value.slice A122 A122l A122c) ∧
  Calls Tryd.prog 11 #[(Value.pointer p5), (Value.int .i64 slot_66), (Value.slice A122 A122l A122c)] w124 fun e126 w127 =>
  ∃ n125, e126 = Ending.returned (Value.int .i64 n125) ∧
  Calls Tryd.prog 8 #[(Value.int .i64 n125)] w127 fun e129 w130 =>
  ∃ n128, e129 = Ending.returned (Value.int .i64 n128) ∧
  V.sel (n128 != 71)
  (R (Ending.returned (Value.bool false)) w130)
  (Calls Tryd.prog 12 #[(Value.pointer p5), (Value.int .i64 slot_66)] w130 fun e132 w133 =>
  ∃ n131, e132 = Ending.returned (Value.int .i64 n131) ∧
  Calls Tryd.prog 8 #[(Value.int .i64 n131)] w133 fun e135 w136 =>
  ∃ n134, e135 = Ending.returned (Value.int .i64 n134) ∧
  V.sel (n134 != 71)
  (R (Ending.returned (Value.bool false)) w136)
  (V.lt (IntKind.wrap .i64 (slot_66 + (IntKind.wrap .i64 (1 + (Int.tmod i_13 7))))) fun x137 =>
  I64 x137 w136 ∧ μ65 x137 w136 < μ65 slot_66 w68)))
  (V.lt (IntKind.wrap .i64 (slot_66 + (IntKind.wrap .i64 (1 + (Int.tmod i_13 7))))) fun x138 =>
  I64 x138 w90 ∧ μ65 x138 w90 < μ65 slot_66 w68))
  (V.lt (IntKind.wrap .i64 (slot_66 + (IntKind.wrap .i64 (1 + (Int.tmod i_13 7))))) fun x139 =>
  I64 x139 w90 ∧ μ65 x139 w90 < μ65 slot_66 w68))
  (V.lt (IntKind.wrap .i64 (slot_66 + (IntKind.wrap .i64 (1 + (Int.tmod i_13 7))))) fun x140 =>
  I64 x140 w90 ∧ μ65 x140 w90 < μ65 slot_66 w68)))))
  (Calls Tryd.prog 9 #[(Value.pointer p5), (Value.int .i64 (-1)), (Value.slice none 0 0)] w68 fun e142 w143 =>
  ∃ n141, e142 = Ending.returned (Value.int .i64 n141) ∧
  Calls Tryd.prog 8 #[(Value.int .i64 n141)] w143 fun e145 w146 =>
  ∃ n144, e145 = Ending.returned (Value.int .i64 n144) ∧
  V.sel (n144 != 72)
  (R (Ending.returned (Value.bool false)) w146)
  (Calls Tryd.prog 11 #[(Value.pointer p5), (Value.int .i64 100), (Value.slice none 0 0)] w146 fun e148 w149 =>
  ∃ n147, e148 = Ending.returned (Value.int .i64 n147) ∧
  Calls Tryd.prog 8 #[(Value.int .i64 n147)] w149 fun e151 w152 =>
  ∃ n150, e151 = Ending.returned (Value.int .i64 n150) ∧
  V.sel (n150 != 72)
  (R (Ending.returned (Value.bool false)) w152)
  (∃ n153, World.cell? w152 (Addr.add ⟨Array.size (World.heap w15), 0, none⟩ 2) = some (Value.int .i64 n153) ∧
  Calls Tryd.prog 12 #[(Value.pointer p5), (Value.int .i64 (IntKind.wrap .i64 ((Int.tmod n153 100) + 200)))] w152 fun e155 w156 =>
  ∃ n154, e155 = Ending.returned (Value.int .i64 n154) ∧
  Calls Tryd.prog 8 #[(Value.int .i64 n154)] w156 fun e158 w159 =>
  ∃ n157, e158 = Ending.returned (Value.int .i64 n157) ∧
  V.sel (n157 != 72)
  (R (Ending.returned (Value.bool false)) w159)
  (∃ S160 : World → Prop, S160 (World.drew w159) ∧
  Calls Tryd.prog 14 #[(Value.pointer p5), (Value.pointer p8)] (World.drew w159) fun e163 w164 =>
  ∃ b162, e163 = Ending.returned (Value.bool b162) ∧
  S160 w164 ∧
  V.sel (!b162)
  (R (Ending.returned (Value.bool false)) w164)
  (Calls Tryd.prog 16 #[(Value.pointer p5)] w164 fun e166 w167 =>
  ∃ A165, ∃ A165l, ∃ A165c, e166 = Ending.returned (Value.slice A165 A165l A165c) ∧
  S160 w167 ∧
  Calls Tryd.prog 16 #[(Value.pointer p8)] w167 fun e169 w170 =>
  ∃ A168, ∃ A168l, ∃ A168c, e169 = Ending.returned (Value.slice A168 A168l A168c) ∧
  S160 w170 ∧
  Calls Tryd.prog 15 #[(Value.slice A165 A165l A165c), (Value.slice A168 A168l A168c)] w170 fun e172 w173 =>
  ∃ b171, e172 = Ending.returned (Value.bool b171) ∧
  S160 w173 ∧
  V.sel (!b171)
  (R (Ending.returned (Value.bool false)) w173)
  (∃ s174, (∀ w161, S160 w161 → World.cell? w161 (Addr.add ⟨Array.size (World.heap w15), 0, none⟩ 4) = some (Value.string s174)) ∧
  ∃ s175, (∀ w161, S160 w161 → World.cell? w161 (Addr.add ⟨Array.size (World.heap w15), 0, none⟩ 4) = some (Value.string s175)) ∧
  Calls Tryd.prog 18 #[(Value.pointer p5), (Value.string s174)] w173 fun e177 w178 =>
  ∃ p176, e177 = Ending.returned (Value.pointer p176) ∧
  S160 w178 ∧
  Calls Tryd.prog 18 #[(Value.pointer p8), (Value.string s175)] w178 fun e180 w181 =>
  ∃ p179, e180 = Ending.returned (Value.pointer p179) ∧
  S160 w181 ∧
  Calls Tryd.prog 17 #[(Value.pointer p176), (Value.pointer p179)] w181 fun e183 w184 =>
  ∃ b182, e183 = Ending.returned (Value.bool b182) ∧
  S160 w184 ∧
  V.sel (!b182)
  (R (Ending.returned (Value.bool false)) w184)
  (I11 (IntKind.wrap .i64 (i_13 + 1)) w184 ∧ μ12 (IntKind.wrap .i64 (i_13 + 1)) w184 < μ12 i_13 w15)))))))))))))
  (Calls Tryd.prog 16 #[(Value.pointer none)] w15 fun e186 w187 =>
  ∃ A185, ∃ A185l, ∃ A185c, e186 = Ending.returned (Value.slice A185 A185l A185c) ∧
  V.sel (((A185l : Nat) : Int) == 0)
  (Calls Tryd.prog 14 #[(Value.pointer none), (Value.pointer none)] w187 fun e189 w190 =>
  ∃ b188, e189 = Ending.returned (Value.bool b188) ∧
  R (Ending.returned (Value.bool b188)) w190)
  (R (Ending.returned (Value.bool false)) w187))))))) :
  Calls Tryd.prog 3 #[(Value.slice script_1 script_1l script_1c)] w R :=
  V.calls_of_R ⟨V.assoc [(0, [6]), (1, [9])], V.assocP [(11, V.line [0, 1, 2, 3, 4, 5, 6, 7, 8, 9, 10, 11, 12, 13, 14, 15, 16, 17, 18, 19, 20, 21, 22, 23, 24, 25, 26, 27]), (26, V.line [0, 1, 2, 3, 4, 5, 7, 6, 8, 9, 10, 11, 12, 13, 14, 15, 17, 18, 19, 16, 20, 21, 22, 23])], V.assocC [], V.assocS [], ⟨[], true⟩⟩ Tryd.func3 rfl (Eq.mp (by kernel_rfl) h)

theorem berthlaw07_PostingSets_nf (script_1 : Option Addr) (script_1l : Nat) (script_1c : Nat) (w : World) (R : Ending → World → Prop) (h :
  Calls Tryd.prog 7 #[(Value.slice script_1 script_1l script_1c)] w fun e3 w4 =>
  ∃ p2, e3 = Ending.returned (Value.pointer p2) ∧
  ∃ J5 : Bool → World → Prop, (∃ J6 : Bool → World → Prop, (Calls Tryd.prog 6 #[] w4 fun e8 w9 =>
  ∃ b7, e8 = Ending.returned (Value.bool b7) ∧
  V.sel (!b7)
  (J6 true w9)
  (J6 (Option.isNone p2) w9)) ∧
  ∀ t20_10 (j11 : Nat → Value) (w12 : World), J6 t20_10 w12 →
  V.sel t20_10
  (R (Ending.returned (Value.bool false)) w12)
  (J5 false w12)) ∧
  ∀ t2_13 (j14 : Nat → Value) (w15 : World), J5 t2_13 w15 →
  Calls Tryd.prog 19 #[(Value.pointer p2)] w15 fun e17 w18 =>
  ∃ p16, e17 = Ending.returned (Value.pointer p16) ∧
  V.sel (Option.isNone p16)
  (R (Ending.returned (Value.bool false)) w18)
  (∃ J19 : Value → Int → World → Prop, (∃ I20 : Int → Int → World → Prop, ∃ μ21 : Int → Int → World → Nat, I20 0 (-1) w18 ∧
  ∀ n_22 slot_23 (j24 : Nat → Value) (w25 : World), I20 n_22 slot_23 w25 →
  (V.sel (decide (slot_23 ≤ 100))
  (Calls Tryd.prog 13 #[(Value.pointer p2), (Value.int .i64 slot_23)] w25 fun e28 w29 =>
  ∃ A26, ∃ A26l, ∃ A26c, ∃ b27, e28 = Ending.returned (Value.tuple #[(Value.slice A26 A26l A26c), (Value.bool b27)]) ∧
  ∃ J30 : Value → World → Prop, (∃ J31 : Bool → World → Prop, (Calls Tryd.prog 20 #[(Value.pointer p16), (Value.int .i64 slot_23)] w29 fun e33 w34 =>
  ∃ b32, e33 = Ending.returned (Value.bool b32) ∧
  V.sel (!(b27 == b32))
  (J31 true w34)
  (V.sel (!b27)
  (J31 (((A26l : Nat) : Int) != 0) w34)
  (J31 false w34))) ∧
  ∀ t48_35 (j36 : Nat → Value) (w37 : World), J31 t48_35 w37 →
  V.sel t48_35
  (R (Ending.returned (Value.bool false)) w37)
  (J30 (j24 2) w37)) ∧
  ∀ t2_38 (j39 : Nat → Value) (w40 : World), J30 t2_38 w40 →
  ∃ I41 : Int → World → Prop, ∃ μ42 : Int → World → Nat, I41 0 w40 ∧
  ∀ i_43 (j44 : Nat → Value) (w45 : World), I41 i_43 w45 →
  (V.sel (decide (i_43 < ((A26l : Nat) : Int)))
  (∃ J46 : Bool → World → Prop, (∃ S47 : World → Prop, S47 (World.drew w45) ∧
  V.when (decide ((0 : Int) ≤ i_43 ∧ (i_43 : Int) < ((A26l : Nat) : Int))) (V.ptr A26 fun a49 =>
  ∃ s50, (∀ w48, S47 w48 → World.cell? w48 (Addr.add (Addr.add a49 ((Int.toNat i_43) * 2)) 0) = some (Value.string s50)) ∧
  V.when (decide ((0 : Int) ≤ i_43 ∧ (i_43 : Int) < ((A26l : Nat) : Int))) (V.ptr A26 fun a51 =>
  ∃ s52, (∀ w48, S47 w48 → World.cell? w48 (Addr.add (Addr.add a51 ((Int.toNat i_43) * 2)) 1) = some (Value.string s52)) ∧
  Calls Tryd.prog 21 #[(Value.pointer p2), (Value.string s50), (Value.string s52)] (World.drew w45) fun e54 w55 =>
  ∃ p53, e54 = Ending.returned (Value.pointer p53) ∧
  S47 w55 ∧
  Calls Tryd.prog 20 #[(Value.pointer p53), (Value.int .i64 slot_23)] w55 fun e57 w58 =>
  ∃ b56, e57 = Ending.returned (Value.bool b56) ∧
  S47 w58 ∧
  V.sel (!b56)
  (J46 true w58)
  (V.when (decide ((0 : Int) ≤ i_43 ∧ (i_43 : Int) < ((A26l : Nat) : Int))) (V.ptr A26 fun a59 =>
  ∃ s60, (∀ w48, S47 w48 → World.cell? w48 (Addr.add (Addr.add a59 ((Int.toNat i_43) * 2)) 0) = some (Value.string s60)) ∧
  Calls Tryd.prog 18 #[(Value.pointer p2), (Value.string s60)] w58 fun e62 w63 =>
  ∃ p61, e62 = Ending.returned (Value.pointer p61) ∧
  S47 w63 ∧
  Calls Tryd.prog 20 #[(Value.pointer p61), (Value.int .i64 slot_23)] w63 fun e65 w66 =>
  ∃ b64, e65 = Ending.returned (Value.bool b64) ∧
  S47 w66 ∧
  J46 (!b64) w66))))) ∧
  ∀ t81_67 (j68 : Nat → Value) (w69 : World), J46 t81_67 w69 →
  V.sel t81_67
  (R (Ending.returned (Value.bool false)) w69)
  (I41 (IntKind.wrap .i64 (i_43 + 1)) w69 ∧ μ42 (IntKind.wrap .i64 (i_43 + 1)) w69 < μ42 i_43 w45))
  (V.lt (IntKind.wrap .i64 (n_22 + ((A26l : Nat) : Int))) fun x70 =>
  I20 x70 (IntKind.wrap .i64 (slot_23 + 1)) w45 ∧ μ21 x70 (IntKind.wrap .i64 (slot_23 + 1)) w45 < μ21 n_22 slot_23 w25)))
  (J19 (j24 2) n_22 w25))) ∧
  ∀ t2_71 n_72 (j73 : Nat → Value) (w74 : World), J19 t2_71 n_72 w74 →
  Calls Tryd.prog 16 #[(Value.pointer p2)] w74 fun e76 w77 =>
  ∃ A75, ∃ A75l, ∃ A75c, e76 = Ending.returned (Value.slice A75 A75l A75c) ∧
  ∃ I78 : Int → Int → World → Prop, ∃ μ79 : Int → Int → World → Nat, I78 n_72 0 w77 ∧
  ∀ n_80 i_81 (j82 : Nat → Value) (w83 : World), I78 n_80 i_81 w83 →
  (V.sel (decide (i_81 < ((A75l : Nat) : Int)))
  (∃ J84 : Value → World → Prop, (∃ J85 : Bool → World → Prop, (V.sel (decide (i_81 > 0))
  (V.when (decide ((0 : Int) ≤ i_81 ∧ (i_81 : Int) < ((A75l : Nat) : Int))) (V.ptr A75 fun a86 =>
  ∃ s87, World.cell? w83 (Addr.add a86 ((Int.toNat i_81) * 1)) = some (Value.string s87) ∧
  V.when (decide ((0 : Int) ≤ (IntKind.wrap .i64 (i_81 - 1)) ∧ ((IntKind.wrap .i64 (i_81 - 1)) : Int) < ((A75l : Nat) : Int))) (V.ptr A75 fun a88 =>
  ∃ s89, World.cell? w83 (Addr.add a88 ((Int.toNat (IntKind.wrap .i64 (i_81 - 1))) * 1)) = some (Value.string s89) ∧
  J85 ((Op.bytesLess (ByteArray.toList s87) (ByteArray.toList s89)) || (ByteArray.toList s87 == ByteArray.toList s89)) (World.drew w83))))
  (J85 false (World.drew w83))) ∧
  ∀ t107_90 (j91 : Nat → Value) (w92 : World), J85 t107_90 w92 →
  V.sel t107_90
  (R (Ending.returned (Value.bool false)) w92)
  (J84 (j82 2) w92)) ∧
  ∀ t2_93 (j94 : Nat → Value) (w95 : World), J84 t2_93 w95 →
  V.when (decide ((0 : Int) ≤ i_81 ∧ (i_81 : Int) < ((A75l : Nat) : Int))) (V.ptr A75 fun a96 =>
  ∃ s97, World.cell? w95 (Addr.add a96 ((Int.toNat i_81) * 1)) = some (Value.string s97) ∧
  Calls Tryd.prog 22 #[(Value.pointer p2), (Value.string s97), (Value.pointer p16)] w95 fun e99 w100 =>
  ∃ n98, e99 = Ending.returned (Value.int .i64 n98) ∧
  V.sel (decide (n98 < 1))
  (R (Ending.returned (Value.bool false)) w100)
  (I78 (IntKind.wrap .i64 (n_80 - n98)) (IntKind.wrap .i64 (i_81 + 1)) w100 ∧ μ79 (IntKind.wrap .i64 (n_80 - n98)) (IntKind.wrap .i64 (i_81 + 1)) w100 < μ79 n_80 i_81 w83)))
  (R (Ending.returned (Value.bool (n_80 == 0))) w83)))) :
  Calls Tryd.prog 4 #[(Value.slice script_1 script_1l script_1c)] w R :=
  V.calls_of_R ⟨V.assoc [(0, [5, 6]), (1, [9]), (2, [5, 11])], V.assocP [(17, V.line [0, 1, 2, 3, 4, 5, 6, 7, 8, 9, 10, 12, 11, 13, 14, 15, 16, 17, 18, 19, 20, 21, 23, 22, 24, 25, 26]), (24, V.line [0, 1, 2, 3, 4, 5, 6, 7, 8, 9, 10, 11, 12, 13])], V.assocC [(1000004, ([20], [V.Sh.one .bool])), (1000005, ([2], [V.Sh.one .bool])), (1000014, ([48], [V.Sh.one .bool])), (1000015, ([2], [V.Sh.one .any])), (1000019, ([81], [V.Sh.one .bool])), (1000021, ([2, 5], [V.Sh.one .any, V.Sh.one (.int .i64)])), (1000026, ([107], [V.Sh.one .bool])), (1000027, ([2], [V.Sh.one .any]))], V.assocS [], ⟨[], true⟩⟩ Tryd.func4 rfl (Eq.mp (by kernel_rfl) h)

theorem berthlaw07_PostingRoad_nf (script_1 : Option Addr) (script_1l : Nat) (script_1c : Nat) (w : World) (R : Ending → World → Prop) (h :
  Calls Tryd.prog 7 #[(Value.slice script_1 script_1l script_1c)] w fun e3 w4 =>
  ∃ p2, e3 = Ending.returned (Value.pointer p2) ∧
  Calls Tryd.prog 23 #[(Value.int .i64 300)] w4 fun e7 w8 =>
  ∃ p5, ∃ n6, e7 = Ending.returned (Value.tuple #[(Value.pointer p5), (Value.int .i64 n6)]) ∧
  Calls Tryd.prog 6 #[] w8 fun e10 w11 =>
  ∃ b9, e10 = Ending.returned (Value.bool b9) ∧
  V.sel (!b9)
  (R (Ending.returned (Value.bool false)) w11)
  (V.sel (Option.isNone p2)
  (R (Ending.returned (Value.bool false)) w11)
  (V.sel (Option.isNone p5)
  (R (Ending.returned (Value.bool false)) w11)
  (Calls Tryd.prog 19 #[(Value.pointer p2)] w11 fun e13 w14 =>
  ∃ p12, e13 = Ending.returned (Value.pointer p12) ∧
  Calls Tryd.prog 24 #[(Value.pointer p12)] w14 fun e16 w17 =>
  ∃ A15, ∃ A15l, ∃ A15c, e16 = Ending.returned (Value.slice A15 A15l A15c) ∧
  V.lt (IntKind.wrap .i64 (((A15l : Nat) : Int) - 1)) fun x18 =>
  ∃ I19 : Int → World → Prop, ∃ μ20 : Int → World → Nat, I19 x18 w17 ∧
  ∀ i_21 (j22 : Nat → Value) (w23 : World), I19 i_21 w23 →
  (V.sel (decide (i_21 ≥ 0))
  (V.when (decide ((0 : Int) ≤ i_21 ∧ (i_21 : Int) < ((A15l : Nat) : Int))) (V.ptr A15 fun a24 =>
  ∃ n25, World.cell? w23 (Addr.add a24 ((Int.toNat i_21) * 1)) = some (Value.int .i64 n25) ∧
  Calls Tryd.prog 13 #[(Value.pointer p2), (Value.int .i64 n25)] w23 fun e28 w29 =>
  ∃ A26, ∃ A26l, ∃ A26c, ∃ b27, e28 = Ending.returned (Value.tuple #[(Value.slice A26 A26l A26c), (Value.bool b27)]) ∧
  V.when (decide ((0 : Int) ≤ i_21 ∧ (i_21 : Int) < ((A15l : Nat) : Int))) (V.ptr A15 fun a30 =>
  ∃ n31, World.cell? w29 (Addr.add a30 ((Int.toNat i_21) * 1)) = some (Value.int .i64 n31) ∧
  Calls Tryd.prog 9 #[(Value.pointer p5), (Value.int .i64 n31), (Value.slice none 0 0)] w29 fun e33 w34 =>
  ∃ n32, e33 = Ending.returned (Value.int .i64 n32) ∧
  V.when (decide ((0 : Int) ≤ i_21 ∧ (i_21 : Int) < ((A15l : Nat) : Int))) (V.ptr A15 fun a35 =>
  ∃ n36, World.cell? w34 (Addr.add a35 ((Int.toNat i_21) * 1)) = some (Value.int .i64 n36) ∧
  Calls Tryd.prog 11 #[(Value.pointer p5), (Value.int .i64 n36), (Value.slice A26 A26l A26c)] w34 fun e38 w39 =>
  ∃ n37, e38 = Ending.returned (Value.int .i64 n37) ∧
  Calls Tryd.prog 8 #[(Value.int .i64 n32)] w39 fun e41 w42 =>
  ∃ n40, e41 = Ending.returned (Value.int .i64 n40) ∧
  V.sel (n40 != 0)
  (R (Ending.returned (Value.bool false)) w42)
  (Calls Tryd.prog 8 #[(Value.int .i64 n37)] w42 fun e44 w45 =>
  ∃ n43, e44 = Ending.returned (Value.int .i64 n43) ∧
  V.sel (n43 != 0)
  (R (Ending.returned (Value.bool false)) w45)
  (I19 (IntKind.wrap .i64 (i_21 - 1)) w45 ∧ μ20 (IntKind.wrap .i64 (i_21 - 1)) w45 < μ20 i_21 w23))))))
  (Calls Tryd.prog 14 #[(Value.pointer p2), (Value.pointer p5)] w23 fun e47 w48 =>
  ∃ b46, e47 = Ending.returned (Value.bool b46) ∧
  V.sel (!b46)
  (R (Ending.returned (Value.bool false)) w48)
  (Calls Tryd.prog 14 #[(Value.pointer p5), (Value.pointer p2)] w48 fun e50 w51 =>
  ∃ b49, e50 = Ending.returned (Value.bool b49) ∧
  V.sel (!b49)
  (R (Ending.returned (Value.bool false)) w51)
  (Calls Tryd.prog 16 #[(Value.pointer p2)] w51 fun e53 w54 =>
  ∃ A52, ∃ A52l, ∃ A52c, e53 = Ending.returned (Value.slice A52 A52l A52c) ∧
  Calls Tryd.prog 16 #[(Value.pointer p5)] w54 fun e56 w57 =>
  ∃ A55, ∃ A55l, ∃ A55c, e56 = Ending.returned (Value.slice A55 A55l A55c) ∧
  Calls Tryd.prog 15 #[(Value.slice A52 A52l A52c), (Value.slice A55 A55l A55c)] w57 fun e59 w60 =>
  ∃ b58, e59 = Ending.returned (Value.bool b58) ∧
  V.sel (!b58)
  (R (Ending.returned (Value.bool false)) w60)
  (Calls Tryd.prog 16 #[(Value.pointer p2)] w60 fun e62 w63 =>
  ∃ A61, ∃ A61l, ∃ A61c, e62 = Ending.returned (Value.slice A61 A61l A61c) ∧
  ∃ I64 : Int → World → Prop, ∃ μ65 : Int → World → Nat, I64 0 w63 ∧
  ∀ i_66 (j67 : Nat → Value) (w68 : World), I64 i_66 w68 →
  (V.sel (decide (i_66 < ((A61l : Nat) : Int)))
  (∃ S69 : World → Prop, S69 (World.drew w68) ∧
  V.when (decide ((0 : Int) ≤ i_66 ∧ (i_66 : Int) < ((A61l : Nat) : Int))) (V.ptr A61 fun a71 =>
  ∃ s72, (∀ w70, S69 w70 → World.cell? w70 (Addr.add a71 ((Int.toNat i_66) * 1)) = some (Value.string s72)) ∧
  V.when (decide ((0 : Int) ≤ i_66 ∧ (i_66 : Int) < ((A61l : Nat) : Int))) (V.ptr A61 fun a73 =>
  ∃ s74, (∀ w70, S69 w70 → World.cell? w70 (Addr.add a73 ((Int.toNat i_66) * 1)) = some (Value.string s74)) ∧
  Calls Tryd.prog 18 #[(Value.pointer p2), (Value.string s72)] (World.drew w68) fun e76 w77 =>
  ∃ p75, e76 = Ending.returned (Value.pointer p75) ∧
  S69 w77 ∧
  Calls Tryd.prog 18 #[(Value.pointer p5), (Value.string s74)] w77 fun e79 w80 =>
  ∃ p78, e79 = Ending.returned (Value.pointer p78) ∧
  S69 w80 ∧
  Calls Tryd.prog 17 #[(Value.pointer p75), (Value.pointer p78)] w80 fun e82 w83 =>
  ∃ b81, e82 = Ending.returned (Value.bool b81) ∧
  S69 w83 ∧
  V.sel (!b81)
  (R (Ending.returned (Value.bool false)) w83)
  (V.when (decide ((0 : Int) ≤ i_66 ∧ (i_66 : Int) < ((A61l : Nat) : Int))) (V.ptr A61 fun a84 =>
  ∃ s85, (∀ w70, S69 w70 → World.cell? w70 (Addr.add a84 ((Int.toNat i_66) * 1)) = some (Value.string s85)) ∧
  V.when (decide ((0 : Int) ≤ i_66 ∧ (i_66 : Int) < ((A61l : Nat) : Int))) (V.ptr A61 fun a86 =>
  ∃ s87, (∀ w70, S69 w70 → World.cell? w70 (Addr.add a86 ((Int.toNat i_66) * 1)) = some (Value.string s87)) ∧
  Calls Tryd.prog 25 #[(Value.pointer p2), (Value.string s85)] w83 fun e89 w90 =>
  ∃ A88, ∃ A88l, ∃ A88c, e89 = Ending.returned (Value.slice A88 A88l A88c) ∧
  S69 w90 ∧
  Calls Tryd.prog 25 #[(Value.pointer p5), (Value.string s87)] w90 fun e92 w93 =>
  ∃ A91, ∃ A91l, ∃ A91c, e92 = Ending.returned (Value.slice A91 A91l A91c) ∧
  S69 w93 ∧
  Calls Tryd.prog 15 #[(Value.slice A88 A88l A88c), (Value.slice A91 A91l A91c)] w93 fun e95 w96 =>
  ∃ b94, e95 = Ending.returned (Value.bool b94) ∧
  S69 w96 ∧
  V.sel (!b94)
  (R (Ending.returned (Value.bool false)) w96)
  (I64 (IntKind.wrap .i64 (i_66 + 1)) w96 ∧ μ65 (IntKind.wrap .i64 (i_66 + 1)) w96 < μ65 i_66 w68)))))))
  (V.sel (((A15l : Nat) : Int) == 0)
  (Calls Tryd.prog 14 #[(Value.pointer p2), (Value.pointer none)] w68 fun e98 w99 =>
  ∃ b97, e98 = Ending.returned (Value.bool b97) ∧
  V.sel b97
  (Calls Tryd.prog 12 #[(Value.pointer p2), (Value.int .i64 0)] w99 fun e101 w102 =>
  ∃ n100, e101 = Ending.returned (Value.int .i64 n100) ∧
  Calls Tryd.prog 8 #[(Value.int .i64 n100)] w102 fun e104 w105 =>
  ∃ n103, e104 = Ending.returned (Value.int .i64 n103) ∧
  R (Ending.returned (Value.bool (n103 == 71))) w105)
  (R (Ending.returned (Value.bool false)) w99))
  (V.when (decide ((0 : Int) ≤ 0 ∧ (0 : Int) < ((A15l : Nat) : Int))) (V.ptr A15 fun a106 =>
  ∃ n107, World.cell? w68 (Addr.add a106 0) = some (Value.int .i64 n107) ∧
  Calls Tryd.prog 13 #[(Value.pointer p5), (Value.int .i64 n107)] w68 fun e110 w111 =>
  ∃ A108, ∃ A108l, ∃ A108c, ∃ b109, e110 = Ending.returned (Value.tuple #[(Value.slice A108 A108l A108c), (Value.bool b109)]) ∧
  V.when (decide ((0 : Int) ≤ 0 ∧ (0 : Int) < ((A15l : Nat) : Int))) (V.ptr A15 fun a112 =>
  ∃ n113, World.cell? w111 (Addr.add a112 0) = some (Value.int .i64 n113) ∧
  Calls Tryd.prog 12 #[(Value.pointer p5), (Value.int .i64 n113)] w111 fun e115 w116 =>
  ∃ n114, e115 = Ending.returned (Value.int .i64 n114) ∧
  Calls Tryd.prog 14 #[(Value.pointer p2), (Value.pointer p5)] w116 fun e118 w119 =>
  ∃ b117, e118 = Ending.returned (Value.bool b117) ∧
  V.sel b117
  (R (Ending.returned (Value.bool false)) w119)
  (Calls Tryd.prog 19 #[(Value.pointer p5)] w119 fun e121 w122 =>
  ∃ p120, e121 = Ending.returned (Value.pointer p120) ∧
  Calls Tryd.prog 26 #[(Value.pointer p120)] w122 fun e124 w125 =>
  ∃ n123, e124 = Ending.returned (Value.int .i64 n123) ∧
  V.sel (n123 != (IntKind.wrap .i64 (((A15l : Nat) : Int) - 1)))
  (R (Ending.returned (Value.bool false)) w125)
  (V.when (decide ((0 : Int) ≤ 0 ∧ (0 : Int) < ((A15l : Nat) : Int))) (V.ptr A15 fun a126 =>
  ∃ n127, World.cell? w125 (Addr.add a126 0) = some (Value.int .i64 n127) ∧
  Calls Tryd.prog 11 #[(Value.pointer p5), (Value.int .i64 n127), (Value.slice A108 A108l A108c)] w125 fun e129 w130 =>
  ∃ n128, e129 = Ending.returned (Value.int .i64 n128) ∧
  Calls Tryd.prog 8 #[(Value.int .i64 n128)] w130 fun e132 w133 =>
  ∃ n131, e132 = Ending.returned (Value.int .i64 n131) ∧
  V.sel (n131 != 71)
  (R (Ending.returned (Value.bool false)) w133)
  (V.when (decide ((0 : Int) ≤ 0 ∧ (0 : Int) < ((A15l : Nat) : Int))) (V.ptr A15 fun a134 =>
  ∃ n135, World.cell? w133 (Addr.add a134 0) = some (Value.int .i64 n135) ∧
  ∀ w136, w136 = (World.alloc w133 (.cells #[(Value.string ⟨#[111, 110, 108, 121, 46, 104, 101, 114, 101]⟩), (Value.string ⟨#[120]⟩)] 36)) →
  Calls Tryd.prog 9 #[(Value.pointer p5), (Value.int .i64 n135), (Value.slice (some ⟨Array.size (World.heap w133), 0, none⟩) 1 1)] w136 fun e138 w139 =>
  ∃ n137, e138 = Ending.returned (Value.int .i64 n137) ∧
  Calls Tryd.prog 14 #[(Value.pointer p2), (Value.pointer p5)] w139 fun e141 w142 =>
  ∃ b140, e141 = Ending.returned (Value.bool b140) ∧
  Calls Tryd.prog 27 #[(Value.slice A108 A108l A108c)] w142 fun e144 w145 =>
  ∃ b143, e144 = Ending.returned (Value.bool b143) ∧
  V.sel (b140 == (!b143))
  (R (Ending.returned (Value.bool false)) w145)
  (V.when (decide ((0 : Int) ≤ 0 ∧ (0 : Int) < ((A15l : Nat) : Int))) (V.ptr A15 fun a146 =>
  ∃ n147, World.cell? w145 (Addr.add a146 0) = some (Value.int .i64 n147) ∧
  Calls Tryd.prog 11 #[(Value.pointer p5), (Value.int .i64 n147), (Value.slice A108 A108l A108c)] w145 fun e149 w150 =>
  ∃ n148, e149 = Ending.returned (Value.int .i64 n148) ∧
  Calls Tryd.prog 14 #[(Value.pointer p2), (Value.pointer p5)] w150 fun e152 w153 =>
  ∃ b151, e152 = Ending.returned (Value.bool b151) ∧
  V.sel b151
  (V.when (decide ((0 : Int) ≤ 0 ∧ (0 : Int) < ((A15l : Nat) : Int))) (V.ptr A15 fun a154 =>
  ∃ n155, World.cell? w153 (Addr.add a154 0) = some (Value.int .i64 n155) ∧
  Calls Tryd.prog 9 #[(Value.pointer p5), (Value.int .i64 n155), (Value.slice A108 A108l A108c)] w153 fun e157 w158 =>
  ∃ n156, e157 = Ending.returned (Value.int .i64 n156) ∧
  Calls Tryd.prog 8 #[(Value.int .i64 n156)] w158 fun e160 w161 =>
  ∃ n159, e160 = Ending.returned (Value.int .i64 n159) ∧
  R (Ending.returned (Value.bool (n159 == 70))) w161))
  (R (Ending.returned (Value.bool false)) w153)))))))))))))))))))))) :
  Calls Tryd.prog 5 #[(Value.slice script_1 script_1l script_1c)] w R :=
  V.calls_of_R ⟨V.assoc [(0, [7]), (1, [13])], V.assocP [(20, V.line [0, 1, 2, 3, 4, 6, 7, 8, 9, 10, 5, 11, 12, 13, 14, 15, 16, 17, 18, 19, 21, 22, 23, 24, 25, 20, 26, 27, 28, 29])], V.assocC [], V.assocS [], ⟨[], true⟩⟩ Tryd.func5 rfl (Eq.mp (by kernel_rfl) h)

end Go.Proofs.YtpipenkaaodlgaaDoor
