/- Normal forms of the program's functions, printed by a program of mine; the kernel checks each. -/
import Derived.Test.YtpipenkaaodlgaaGreatDoorProg
import Derived.Test.YtpipenkaaodlgaaGreatDoorV2
set_option linter.unusedVariables false
set_option maxRecDepth 100000
namespace Go.Proofs.YtpipenkaaodlgaaGreatDoor
open Go

theorem bitset_New_nf (n_1 : Int) (w : World) (R : Ending → World → Prop) (h :
  V.sel (decide (n_1 < 0))
  (R (Ending.returned (Value.tuple #[(Value.pointer none), (Value.int .i64 11)])) w)
  (V.sel (decide (n_1 > 65536))
  (R (Ending.returned (Value.tuple #[(Value.pointer none), (Value.int .i64 11)])) w)
  (Calls Tryz.prog 54 #[(Value.int .i64 n_1)] w fun e3 w4 =>
  ∃ p2, e3 = Ending.returned (Value.pointer p2) ∧
  R (Ending.returned (Value.tuple #[(Value.pointer p2), (Value.int .i64 0)])) w4))) :
  Calls Tryz.prog 26 #[(Value.int .i64 n_1)] w R :=
  V.calls_of_R ⟨V.assoc [], V.assocP [], V.assocC [], V.assocS [], ⟨[], false⟩⟩ Tryz.func26 rfl (Eq.mp (by kernel_rfl) h)

theorem bitset_Set_Has_nf (s_1 : Option Addr) (i_2 : Int) (w : World) (R : Ending → World → Prop) (h :
  Calls Tryz.prog 55 #[(Value.pointer s_1), (Value.int .i64 i_2)] w fun e4 w5 =>
  ∃ b3, e4 = Ending.returned (Value.bool b3) ∧
  V.sel b3
  (V.ptr s_1 fun a6 =>
  ∃ A7, ∃ A7l, ∃ A7c, World.cell? w5 (Addr.add a6 1) = some (Value.slice A7 A7l A7c) ∧
  V.when (decide ((0 : Int) ≤ (IntKind.wrap .i64 (Int.tdiv i_2 64)) ∧ ((IntKind.wrap .i64 (Int.tdiv i_2 64)) : Int) < ((A7l : Nat) : Int))) (V.ptr A7 fun a8 =>
  ∃ n9, World.cell? w5 (Addr.add a8 ((Int.toNat (IntKind.wrap .i64 (Int.tdiv i_2 64))) * 1)) = some (Value.int .u64 n9) ∧
  V.when (decide (0 ≤ (Int.tmod i_2 64))) (R (Ending.returned (Value.bool ((IntKind.wrap .u64 ((BitVec.toNat (BitVec.ofInt 64 (Int.fdiv n9 (2 ^ (min (Int.toNat (Int.tmod i_2 64)) 64))) &&& BitVec.ofInt 64 1) : Nat) : Int)) == 1))) w5)))
  (R (Ending.returned (Value.bool false)) w5)) :
  Calls Tryz.prog 27 #[(Value.pointer s_1), (Value.int .i64 i_2)] w R :=
  V.calls_of_R ⟨V.assoc [], V.assocP [], V.assocC [], V.assocS [], ⟨[], false⟩⟩ Tryz.func27 rfl (Eq.mp (by kernel_rfl) h)

theorem bitset_Set_Add_nf (s_1 : Option Addr) (i_2 : Int) (w : World) (R : Ending → World → Prop) (h :
  Calls Tryz.prog 55 #[(Value.pointer s_1), (Value.int .i64 i_2)] w fun e4 w5 =>
  ∃ b3, e4 = Ending.returned (Value.bool b3) ∧
  V.sel (!b3)
  (R (Ending.returned (Value.bool false)) w5)
  (Calls Tryz.prog 27 #[(Value.pointer s_1), (Value.int .i64 i_2)] w5 fun e7 w8 =>
  ∃ b6, e7 = Ending.returned (Value.bool b6) ∧
  V.sel b6
  (R (Ending.returned (Value.bool false)) w8)
  (V.ptr s_1 fun a9 =>
  ∃ A10, ∃ A10l, ∃ A10c, World.cell? w8 (Addr.add a9 1) = some (Value.slice A10 A10l A10c) ∧
  V.when (decide ((0 : Int) ≤ (IntKind.wrap .i64 (Int.tdiv i_2 64)) ∧ ((IntKind.wrap .i64 (Int.tdiv i_2 64)) : Int) < ((A10l : Nat) : Int))) (V.ptr A10 fun a11 =>
  ∃ n12, World.cell? w8 (Addr.add a11 ((Int.toNat (IntKind.wrap .i64 (Int.tdiv i_2 64))) * 1)) = some (Value.int .u64 n12) ∧
  V.when (decide (0 ≤ (Int.tmod i_2 64))) (V.when (decide ((0 : Int) ≤ (IntKind.wrap .i64 (Int.tdiv i_2 64)) ∧ ((IntKind.wrap .i64 (Int.tdiv i_2 64)) : Int) < ((A10l : Nat) : Int))) (V.ptr A10 fun a13 =>
  (∃ u14, World.cell? (World.drew w8) (Addr.add (Addr.add a13 ((Int.toNat (IntKind.wrap .i64 (Int.tdiv i_2 64))) * 1)) 0) = some u14) ∧ World.frozen? (World.drew w8) (Addr.add (Addr.add a13 ((Int.toNat (IntKind.wrap .i64 (Int.tdiv i_2 64))) * 1)) 0) = false ∧
  R (Ending.returned (Value.bool true)) (World.setCell (World.drew w8) (Addr.add (Addr.add a13 ((Int.toNat (IntKind.wrap .i64 (Int.tdiv i_2 64))) * 1)) 0) (Value.int .u64 (IntKind.wrap .u64 ((BitVec.toNat (BitVec.ofInt 64 n12 ||| BitVec.ofInt 64 (IntKind.wrap .u64 (1 * 2 ^ (min (Int.toNat (Int.tmod i_2 64)) 64)))) : Nat) : Int)))))))))) :
  Calls Tryz.prog 29 #[(Value.pointer s_1), (Value.int .i64 i_2)] w R :=
  V.calls_of_R ⟨V.assoc [], V.assocP [(3, V.line [0, 1, 2, 3, 4, 5, 6, 7, 8, 9, 10, 11, 12, 13])], V.assocC [], V.assocS [], ⟨[], false⟩⟩ Tryz.func29 rfl (Eq.mp (by kernel_rfl) h)

theorem bitset_Equal_nf (a_1 : Option Addr) (b_2 : Option Addr) (w : World) (R : Ending → World → Prop) (h :
  Calls Tryz.prog 59 #[(Value.pointer a_1), (Value.pointer b_2)] w fun e4 w5 =>
  ∃ n3, e4 = Ending.returned (Value.int .i64 n3) ∧
  ∃ I6 : Int → World → Prop, ∃ μ7 : Int → World → Nat, I6 0 w5 ∧
  ∀ t9_8 (j9 : Nat → Value) (w10 : World), I6 t9_8 w10 →
  (V.sel (decide (t9_8 < n3))
  (Calls Tryz.prog 60 #[(Value.pointer a_1), (Value.int .i64 t9_8)] w10 fun e12 w13 =>
  ∃ n11, e12 = Ending.returned (Value.int .u64 n11) ∧
  Calls Tryz.prog 60 #[(Value.pointer b_2), (Value.int .i64 t9_8)] w13 fun e15 w16 =>
  ∃ n14, e15 = Ending.returned (Value.int .u64 n14) ∧
  V.sel (n11 != n14)
  (R (Ending.returned (Value.bool false)) w16)
  (I6 (IntKind.wrap .i64 (t9_8 + 1)) w16 ∧ μ7 (IntKind.wrap .i64 (t9_8 + 1)) w16 < μ7 t9_8 w10))
  (R (Ending.returned (Value.bool true)) w10))) :
  Calls Tryz.prog 35 #[(Value.pointer a_1), (Value.pointer b_2)] w R :=
  V.calls_of_R ⟨V.assoc [(0, [9])], V.assocP [], V.assocC [], V.assocS [], ⟨[], false⟩⟩ Tryz.func35 rfl (Eq.mp (by kernel_rfl) h)

theorem bitset_Set_Members_nf (s_1 : Option Addr) (w : World) (R : Ending → World → Prop) (h :
  Calls Tryz.prog 46 #[(Value.pointer s_1)] w fun e3 w4 =>
  ∃ n2, e3 = Ending.returned (Value.int .i64 n2) ∧
  V.when (decide ((0 : Int) ≤ 0 ∧ (0 : Int) ≤ n2 ∧ (n2 : Int) ≤ 281474976710656 ∧ (8 : Int) * n2 ≤ 281474976710656)) (Calls Tryz.prog 51 #[(Value.pointer s_1)] (World.alloc w4 (.cells ⟨V.rep (Int.toNat n2) [(Value.int .i64 0)]⟩ 3)) fun e6 w7 =>
  ∃ n5, e6 = Ending.returned (Value.int .i64 n5) ∧
  ∃ I8 : Option Addr → Nat → Nat → Int → World → Prop, ∃ μ9 : Option Addr → Nat → Nat → Int → World → Nat, I8 (some ⟨Array.size (World.heap w4), 0, none⟩) 0 (Int.toNat n2) 0 w7 ∧
  ∀ out_10 out_10l out_10c t10_11 (j12 : Nat → Value) (w13 : World), I8 out_10 out_10l out_10c t10_11 w13 →
  (V.sel (decide (t10_11 < n5))
  (Calls Tryz.prog 27 #[(Value.pointer s_1), (Value.int .i64 t10_11)] w13 fun e15 w16 =>
  ∃ b14, e15 = Ending.returned (Value.bool b14) ∧
  V.sel b14
  (∃ A17, ∃ A17l, ∃ A17c, ∃ w18, Sem.run Tryz.prog (Builtin.append_ #[66, 66] 66 #[(Value.slice out_10 out_10l out_10c), (Value.slice (some ⟨Array.size (World.heap w16), 0, none⟩) 1 1)]) (World.alloc w16 (.cells #[(Value.int .i64 t10_11)] 3)) = .ok (Value.slice A17 A17l A17c) w18 ∧
  I8 A17 A17l A17c (IntKind.wrap .i64 (t10_11 + 1)) w18 ∧ μ9 A17 A17l A17c (IntKind.wrap .i64 (t10_11 + 1)) w18 < μ9 out_10 out_10l out_10c t10_11 w13)
  (I8 out_10 out_10l out_10c (IntKind.wrap .i64 (t10_11 + 1)) w16 ∧ μ9 out_10 out_10l out_10c (IntKind.wrap .i64 (t10_11 + 1)) w16 < μ9 out_10 out_10l out_10c t10_11 w13))
  (R (Ending.returned (Value.slice out_10 out_10l out_10c)) w13)))) :
  Calls Tryz.prog 43 #[(Value.pointer s_1)] w R :=
  V.calls_of_R ⟨V.assoc [(0, [3, 10])], V.assocP [], V.assocC [], V.assocS [], ⟨[], false⟩⟩ Tryz.func43 rfl (Eq.mp (by kernel_rfl) h)

theorem bitset_Set_Remove_nf (s_1 : Option Addr) (i_2 : Int) (w : World) (R : Ending → World → Prop) (h :
  Calls Tryz.prog 27 #[(Value.pointer s_1), (Value.int .i64 i_2)] w fun e4 w5 =>
  ∃ b3, e4 = Ending.returned (Value.bool b3) ∧
  V.sel (!b3)
  (R (Ending.returned (Value.bool false)) w5)
  (V.ptr s_1 fun a6 =>
  ∃ A7, ∃ A7l, ∃ A7c, World.cell? w5 (Addr.add a6 1) = some (Value.slice A7 A7l A7c) ∧
  V.when (decide ((0 : Int) ≤ (IntKind.wrap .i64 (Int.tdiv i_2 64)) ∧ ((IntKind.wrap .i64 (Int.tdiv i_2 64)) : Int) < ((A7l : Nat) : Int))) (V.ptr A7 fun a8 =>
  ∃ n9, World.cell? w5 (Addr.add a8 ((Int.toNat (IntKind.wrap .i64 (Int.tdiv i_2 64))) * 1)) = some (Value.int .u64 n9) ∧
  V.when (decide (0 ≤ (Int.tmod i_2 64))) (V.when (decide ((0 : Int) ≤ (IntKind.wrap .i64 (Int.tdiv i_2 64)) ∧ ((IntKind.wrap .i64 (Int.tdiv i_2 64)) : Int) < ((A7l : Nat) : Int))) (V.ptr A7 fun a10 =>
  (∃ u11, World.cell? (World.drew w5) (Addr.add (Addr.add a10 ((Int.toNat (IntKind.wrap .i64 (Int.tdiv i_2 64))) * 1)) 0) = some u11) ∧ World.frozen? (World.drew w5) (Addr.add (Addr.add a10 ((Int.toNat (IntKind.wrap .i64 (Int.tdiv i_2 64))) * 1)) 0) = false ∧
  R (Ending.returned (Value.bool true)) (World.setCell (World.drew w5) (Addr.add (Addr.add a10 ((Int.toNat (IntKind.wrap .i64 (Int.tdiv i_2 64))) * 1)) 0) (Value.int .u64 (IntKind.wrap .u64 ((BitVec.toNat (BitVec.ofInt 64 n9 &&& ~~~(BitVec.ofInt 64 (IntKind.wrap .u64 (1 * 2 ^ (min (Int.toNat (Int.tmod i_2 64)) 64))))) : Nat) : Int))))))))) :
  Calls Tryz.prog 44 #[(Value.pointer s_1), (Value.int .i64 i_2)] w R :=
  V.calls_of_R ⟨V.assoc [], V.assocP [(3, V.line [0, 1, 2, 3, 4, 5, 6, 7, 8, 9, 10, 11, 12, 13])], V.assocC [], V.assocS [], ⟨[], false⟩⟩ Tryz.func44 rfl (Eq.mp (by kernel_rfl) h)

theorem bitset_Set_Count_nf (s_1 : Option Addr) (w : World) (R : Ending → World → Prop) (h :
  Calls Tryz.prog 51 #[(Value.pointer s_1)] w fun e3 w4 =>
  ∃ n2, e3 = Ending.returned (Value.int .i64 n2) ∧
  Calls Tryz.prog 65 #[(Value.pointer s_1), (Value.int .i64 n2)] w4 fun e6 w7 =>
  ∃ n5, e6 = Ending.returned (Value.int .i64 n5) ∧
  R (Ending.returned (Value.int .i64 n5)) w7) :
  Calls Tryz.prog 46 #[(Value.pointer s_1)] w R :=
  V.calls_of_R ⟨V.assoc [], V.assocP [], V.assocC [], V.assocS [], ⟨[], false⟩⟩ Tryz.func46 rfl (Eq.mp (by kernel_rfl) h)

theorem bitset_Set_Size_nf (s_1 : Option Addr) (w : World) (R : Ending → World → Prop) (h :
  V.sel (Option.isNone s_1)
  (R (Ending.returned (Value.int .i64 0)) w)
  (V.ptr s_1 fun a2 =>
  ∃ n3, World.cell? w (Addr.add a2 0) = some (Value.int .i64 n3) ∧
  R (Ending.returned (Value.int .i64 n3)) w)) :
  Calls Tryz.prog 51 #[(Value.pointer s_1)] w R :=
  V.calls_of_R ⟨V.assoc [], V.assocP [], V.assocC [], V.assocS [], ⟨[], false⟩⟩ Tryz.func51 rfl (Eq.mp (by kernel_rfl) h)

theorem bitset_Set_OrWith_nf (s_1 : Option Addr) (t_2 : Option Addr) (w : World) (R : Ending → World → Prop) (h :
  V.sel (Option.isNone s_1)
  (R (Ending.returned undef) w)
  (V.ptr s_1 fun a3 =>
  ∃ A4, ∃ A4l, ∃ A4c, World.cell? w (Addr.add a3 1) = some (Value.slice A4 A4l A4c) ∧
  ∃ I5 : Int → World → Prop, ∃ μ6 : Int → World → Nat, I5 0 w ∧
  ∀ t13_7 (j8 : Nat → Value) (w9 : World), I5 t13_7 w9 →
  (V.sel (decide (t13_7 < ((A4l : Nat) : Int)))
  (∃ S10 : World → Prop, S10 (World.drew w9) ∧
  V.ptr s_1 fun a12 =>
  ∃ A13, ∃ A13l, ∃ A13c, (∀ w11, S10 w11 → World.cell? w11 (Addr.add a12 1) = some (Value.slice A13 A13l A13c)) ∧
  V.when (decide ((0 : Int) ≤ t13_7 ∧ (t13_7 : Int) < ((A13l : Nat) : Int))) (V.ptr A13 fun a14 =>
  ∃ n15, (∀ w11, S10 w11 → World.cell? w11 (Addr.add a14 ((Int.toNat t13_7) * 1)) = some (Value.int .u64 n15)) ∧
  Calls Tryz.prog 60 #[(Value.pointer t_2), (Value.int .i64 t13_7)] (World.drew w9) fun e17 w18 =>
  ∃ n16, e17 = Ending.returned (Value.int .u64 n16) ∧
  S10 w18 ∧
  V.when (decide ((0 : Int) ≤ t13_7 ∧ (t13_7 : Int) < ((A13l : Nat) : Int))) (V.ptr A13 fun a19 =>
  (∃ u20, World.cell? w18 (Addr.add (Addr.add a19 ((Int.toNat t13_7) * 1)) 0) = some u20) ∧ World.frozen? w18 (Addr.add (Addr.add a19 ((Int.toNat t13_7) * 1)) 0) = false ∧
  I5 (IntKind.wrap .i64 (t13_7 + 1)) (World.setCell w18 (Addr.add (Addr.add a19 ((Int.toNat t13_7) * 1)) 0) (Value.int .u64 (IntKind.wrap .u64 ((BitVec.toNat (BitVec.ofInt 64 n15 ||| BitVec.ofInt 64 n16) : Nat) : Int)))) ∧ μ6 (IntKind.wrap .i64 (t13_7 + 1)) (World.setCell w18 (Addr.add (Addr.add a19 ((Int.toNat t13_7) * 1)) 0) (Value.int .u64 (IntKind.wrap .u64 ((BitVec.toNat (BitVec.ofInt 64 n15 ||| BitVec.ofInt 64 n16) : Nat) : Int)))) < μ6 t13_7 w9)))
  (V.ptr s_1 fun a21 =>
  ∃ n22, World.cell? w9 (Addr.add a21 0) = some (Value.int .i64 n22) ∧
  V.sel ((Int.tmod n22 64) != 0)
  (V.ptr s_1 fun a23 =>
  ∃ A24, ∃ A24l, ∃ A24c, World.cell? w9 (Addr.add a23 1) = some (Value.slice A24 A24l A24c) ∧
  V.ptr s_1 fun a25 =>
  ∃ A26, ∃ A26l, ∃ A26c, World.cell? w9 (Addr.add a25 1) = some (Value.slice A26 A26l A26c) ∧
  V.when (decide ((0 : Int) ≤ (IntKind.wrap .i64 (((A26l : Nat) : Int) - 1)) ∧ ((IntKind.wrap .i64 (((A26l : Nat) : Int) - 1)) : Int) < ((A24l : Nat) : Int))) (V.ptr A24 fun a27 =>
  ∃ n28, World.cell? w9 (Addr.add a27 ((Int.toNat (IntKind.wrap .i64 (((A26l : Nat) : Int) - 1))) * 1)) = some (Value.int .u64 n28) ∧
  V.when (decide (0 ≤ (Int.tmod n22 64))) (V.when (decide ((0 : Int) ≤ (IntKind.wrap .i64 (((A26l : Nat) : Int) - 1)) ∧ ((IntKind.wrap .i64 (((A26l : Nat) : Int) - 1)) : Int) < ((A24l : Nat) : Int))) (V.ptr A24 fun a29 =>
  (∃ u30, World.cell? (World.drew w9) (Addr.add (Addr.add a29 ((Int.toNat (IntKind.wrap .i64 (((A26l : Nat) : Int) - 1))) * 1)) 0) = some u30) ∧ World.frozen? (World.drew w9) (Addr.add (Addr.add a29 ((Int.toNat (IntKind.wrap .i64 (((A26l : Nat) : Int) - 1))) * 1)) 0) = false ∧
  R (Ending.returned undef) (World.setCell (World.drew w9) (Addr.add (Addr.add a29 ((Int.toNat (IntKind.wrap .i64 (((A26l : Nat) : Int) - 1))) * 1)) 0) (Value.int .u64 (IntKind.wrap .u64 ((BitVec.toNat (BitVec.ofInt 64 n28 &&& BitVec.ofInt 64 (IntKind.wrap .u64 ((IntKind.wrap .u64 (1 * 2 ^ (min (Int.toNat (Int.tmod n22 64)) 64))) - 1))) : Nat) : Int))))))))
  (R (Ending.returned undef) w9))))) :
  Calls Tryz.prog 53 #[(Value.pointer s_1), (Value.pointer t_2)] w R :=
  V.calls_of_R ⟨V.assoc [(0, [13])], V.assocP [(4, V.line [0, 1, 2, 3, 4, 5, 6, 7, 8, 9, 10, 11, 12]), (8, V.line [0, 1, 2, 3, 4, 5, 6, 7, 8, 9, 10, 11, 12, 13, 14, 15, 16, 17])], V.assocC [], V.assocS [], ⟨[], false⟩⟩ Tryz.func53 rfl (Eq.mp (by kernel_rfl) h)

theorem bitset_blank_nf (n_1 : Int) (w : World) (R : Ending → World → Prop) (h :
  Calls Tryz.prog 76 #[(Value.int .i64 n_1)] w fun e3 w4 =>
  ∃ n2, e3 = Ending.returned (Value.int .i64 n2) ∧
  V.when (decide ((0 : Int) ≤ n2 ∧ (n2 : Int) ≤ n2 ∧ (n2 : Int) ≤ 281474976710656 ∧ (8 : Int) * n2 ≤ 281474976710656)) (R (Ending.returned (Value.pointer (some ⟨Array.size (World.heap (World.alloc w4 (.cells ⟨V.rep (Int.toNat n2) [(Value.int .u64 0)]⟩ 104))), 0, none⟩))) (World.alloc (World.alloc w4 (.cells ⟨V.rep (Int.toNat n2) [(Value.int .u64 0)]⟩ 104)) (.cells #[(Value.int .i64 n_1), (Value.slice (some ⟨Array.size (World.heap w4), 0, none⟩) (Int.toNat n2) (Int.toNat n2))] 107)))) :
  Calls Tryz.prog 54 #[(Value.int .i64 n_1)] w R :=
  V.calls_of_R ⟨V.assoc [], V.assocP [], V.assocC [], V.assocS [], ⟨[], false⟩⟩ Tryz.func54 rfl (Eq.mp (by kernel_rfl) h)

theorem bitset_Set_inside_nf (s_1 : Option Addr) (i_2 : Int) (w : World) (R : Ending → World → Prop) (h :
  V.sel (decide (i_2 ≥ 0))
  (Calls Tryz.prog 51 #[(Value.pointer s_1)] w fun e4 w5 =>
  ∃ n3, e4 = Ending.returned (Value.int .i64 n3) ∧
  R (Ending.returned (Value.bool (decide (i_2 < n3)))) w5)
  (R (Ending.returned (Value.bool false)) w)) :
  Calls Tryz.prog 55 #[(Value.pointer s_1), (Value.int .i64 i_2)] w R :=
  V.calls_of_R ⟨V.assoc [], V.assocP [], V.assocC [], V.assocS [], ⟨[], false⟩⟩ Tryz.func55 rfl (Eq.mp (by kernel_rfl) h)

theorem bitset_spanOf_nf (a_1 : Option Addr) (b_2 : Option Addr) (w : World) (R : Ending → World → Prop) (h :
  Calls Tryz.prog 51 #[(Value.pointer a_1)] w fun e4 w5 =>
  ∃ n3, e4 = Ending.returned (Value.int .i64 n3) ∧
  Calls Tryz.prog 51 #[(Value.pointer b_2)] w5 fun e7 w8 =>
  ∃ n6, e7 = Ending.returned (Value.int .i64 n6) ∧
  Calls Tryz.prog 76 #[(Value.int .i64 (if n6 > n3 then n6 else n3))] w8 fun e10 w11 =>
  ∃ n9, e10 = Ending.returned (Value.int .i64 n9) ∧
  R (Ending.returned (Value.int .i64 n9)) w11) :
  Calls Tryz.prog 59 #[(Value.pointer a_1), (Value.pointer b_2)] w R :=
  V.calls_of_R ⟨V.assoc [], V.assocP [], V.assocC [], V.assocS [], ⟨[], false⟩⟩ Tryz.func59 rfl (Eq.mp (by kernel_rfl) h)

theorem bitset_Set_word_nf (s_1 : Option Addr) (w_2 : Int) (w : World) (R : Ending → World → Prop) (h :
  V.sel (Option.isNone s_1)
  (R (Ending.returned (Value.int .u64 0)) w)
  (V.ptr s_1 fun a3 =>
  ∃ A4, ∃ A4l, ∃ A4c, World.cell? w (Addr.add a3 1) = some (Value.slice A4 A4l A4c) ∧
  V.sel (decide (w_2 ≥ ((A4l : Nat) : Int)))
  (R (Ending.returned (Value.int .u64 0)) w)
  (V.ptr s_1 fun a5 =>
  ∃ A6, ∃ A6l, ∃ A6c, World.cell? w (Addr.add a5 1) = some (Value.slice A6 A6l A6c) ∧
  V.when (decide ((0 : Int) ≤ w_2 ∧ (w_2 : Int) < ((A6l : Nat) : Int))) (V.ptr A6 fun a7 =>
  ∃ n8, World.cell? w (Addr.add a7 ((Int.toNat w_2) * 1)) = some (Value.int .u64 n8) ∧
  R (Ending.returned (Value.int .u64 n8)) w)))) :
  Calls Tryz.prog 60 #[(Value.pointer s_1), (Value.int .i64 w_2)] w R :=
  V.calls_of_R ⟨V.assoc [], V.assocP [], V.assocC [], V.assocS [], ⟨[], false⟩⟩ Tryz.func60 rfl (Eq.mp (by kernel_rfl) h)

theorem bitset_Set_Clone_nf (s_1 : Option Addr) (w : World) (R : Ending → World → Prop) (h :
  Calls Tryz.prog 51 #[(Value.pointer s_1)] w fun e3 w4 =>
  ∃ n2, e3 = Ending.returned (Value.int .i64 n2) ∧
  Calls Tryz.prog 54 #[(Value.int .i64 n2)] w4 fun e6 w7 =>
  ∃ p5, e6 = Ending.returned (Value.pointer p5) ∧
  V.ptr p5 fun a8 =>
  ∃ A9, ∃ A9l, ∃ A9c, World.cell? w7 (Addr.add a8 1) = some (Value.slice A9 A9l A9c) ∧
  ∃ I10 : Int → World → Prop, ∃ μ11 : Int → World → Nat, I10 0 w7 ∧
  ∀ t13_12 (j13 : Nat → Value) (w14 : World), I10 t13_12 w14 →
  (V.sel (decide (t13_12 < ((A9l : Nat) : Int)))
  (V.ptr p5 fun a15 =>
  ∃ A16, ∃ A16l, ∃ A16c, World.cell? w14 (Addr.add a15 1) = some (Value.slice A16 A16l A16c) ∧
  V.ptr s_1 fun a17 =>
  ∃ A18, ∃ A18l, ∃ A18c, World.cell? w14 (Addr.add a17 1) = some (Value.slice A18 A18l A18c) ∧
  V.when (decide ((0 : Int) ≤ t13_12 ∧ (t13_12 : Int) < ((A18l : Nat) : Int))) (V.ptr A18 fun a19 =>
  ∃ n20, World.cell? w14 (Addr.add a19 ((Int.toNat t13_12) * 1)) = some (Value.int .u64 n20) ∧
  V.when (decide ((0 : Int) ≤ t13_12 ∧ (t13_12 : Int) < ((A16l : Nat) : Int))) (V.ptr A16 fun a21 =>
  (∃ u22, World.cell? (World.drew w14) (Addr.add (Addr.add a21 ((Int.toNat t13_12) * 1)) 0) = some u22) ∧ World.frozen? (World.drew w14) (Addr.add (Addr.add a21 ((Int.toNat t13_12) * 1)) 0) = false ∧
  I10 (IntKind.wrap .i64 (t13_12 + 1)) (World.setCell (World.drew w14) (Addr.add (Addr.add a21 ((Int.toNat t13_12) * 1)) 0) (Value.int .u64 n20)) ∧ μ11 (IntKind.wrap .i64 (t13_12 + 1)) (World.setCell (World.drew w14) (Addr.add (Addr.add a21 ((Int.toNat t13_12) * 1)) 0) (Value.int .u64 n20)) < μ11 t13_12 w14)))
  (R (Ending.returned (Value.pointer p5)) w14))) :
  Calls Tryz.prog 61 #[(Value.pointer s_1)] w R :=
  V.calls_of_R ⟨V.assoc [(0, [13])], V.assocP [(5, V.line [0, 1, 2, 3, 4, 5, 6, 7, 8, 9, 10, 11, 12, 13])], V.assocC [], V.assocS [], ⟨[], false⟩⟩ Tryz.func61 rfl (Eq.mp (by kernel_rfl) h)

theorem bitset_Set_Rank_nf (s_1 : Option Addr) (i_2 : Int) (w : World) (R : Ending → World → Prop) (h :
  Calls Tryz.prog 51 #[(Value.pointer s_1)] w fun e4 w5 =>
  ∃ n3, e4 = Ending.returned (Value.int .i64 n3) ∧
  V.sel (decide ((if n3 < i_2 then n3 else i_2) ≤ 0))
  (R (Ending.returned (Value.int .i64 0)) w5)
  (∃ I6 : Int → Int → World → Prop, ∃ μ7 : Int → Int → World → Nat, I6 0 0 w5 ∧
  ∀ n_8 t15_9 (j10 : Nat → Value) (w11 : World), I6 n_8 t15_9 w11 →
  (V.sel (decide (t15_9 < (IntKind.wrap .i64 (Int.tdiv (if n3 < i_2 then n3 else i_2) 64))))
  (V.ptr s_1 fun a12 =>
  ∃ A13, ∃ A13l, ∃ A13c, World.cell? w11 (Addr.add a12 1) = some (Value.slice A13 A13l A13c) ∧
  V.when (decide ((0 : Int) ≤ t15_9 ∧ (t15_9 : Int) < ((A13l : Nat) : Int))) (V.ptr A13 fun a14 =>
  ∃ n15, World.cell? w11 (Addr.add a14 ((Int.toNat t15_9) * 1)) = some (Value.int .u64 n15) ∧
  Calls Tryz.prog 95 #[(Value.int .u64 n15)] w11 fun e17 w18 =>
  ∃ n16, e17 = Ending.returned (Value.int .i64 n16) ∧
  I6 (IntKind.wrap .i64 (n_8 + n16)) (IntKind.wrap .i64 (t15_9 + 1)) w18 ∧ μ7 (IntKind.wrap .i64 (n_8 + n16)) (IntKind.wrap .i64 (t15_9 + 1)) w18 < μ7 n_8 t15_9 w11))
  (V.sel ((Int.tmod (if n3 < i_2 then n3 else i_2) 64) != 0)
  (V.ptr s_1 fun a19 =>
  ∃ A20, ∃ A20l, ∃ A20c, World.cell? w11 (Addr.add a19 1) = some (Value.slice A20 A20l A20c) ∧
  V.when (decide ((0 : Int) ≤ (IntKind.wrap .i64 (Int.tdiv (if n3 < i_2 then n3 else i_2) 64)) ∧ ((IntKind.wrap .i64 (Int.tdiv (if n3 < i_2 then n3 else i_2) 64)) : Int) < ((A20l : Nat) : Int))) (V.ptr A20 fun a21 =>
  ∃ n22, World.cell? w11 (Addr.add a21 ((Int.toNat (IntKind.wrap .i64 (Int.tdiv (if n3 < i_2 then n3 else i_2) 64))) * 1)) = some (Value.int .u64 n22) ∧
  V.when (decide (0 ≤ (IntKind.wrap .i64 (64 - (Int.tmod (if n3 < i_2 then n3 else i_2) 64))))) (Calls Tryz.prog 95 #[(Value.int .u64 (IntKind.wrap .u64 (n22 * 2 ^ (min (Int.toNat (IntKind.wrap .i64 (64 - (Int.tmod (if n3 < i_2 then n3 else i_2) 64)))) 64))))] w11 fun e24 w25 =>
  ∃ n23, e24 = Ending.returned (Value.int .i64 n23) ∧
  R (Ending.returned (Value.int .i64 (IntKind.wrap .i64 (n_8 + n23)))) w25)))
  (R (Ending.returned (Value.int .i64 n_8)) w11))))) :
  Calls Tryz.prog 65 #[(Value.pointer s_1), (Value.int .i64 i_2)] w R :=
  V.calls_of_R ⟨V.assoc [(0, [5, 15])], V.assocP [], V.assocC [], V.assocS [], ⟨[], false⟩⟩ Tryz.func65 rfl (Eq.mp (by kernel_rfl) h)

theorem bitset_wordCount_nf (n_1 : Int) (w : World) (R : Ending → World → Prop) (h :
  V.lt (IntKind.wrap .i64 (Int.tdiv (IntKind.wrap .i64 (n_1 + 63)) 64)) fun x2 =>
  R (Ending.returned (Value.int .i64 x2)) w) :
  Calls Tryz.prog 76 #[(Value.int .i64 n_1)] w R :=
  V.calls_of_R ⟨V.assoc [], V.assocP [], V.assocC [], V.assocS [], ⟨[], false⟩⟩ Tryz.func76 rfl (Eq.mp (by kernel_rfl) h)

theorem math_bits_OnesCount64_nf (x_1 : Int) (w : World) (R : Ending → World → Prop) (h :
  V.lt (IntKind.wrap .u64 ((IntKind.wrap .u64 ((BitVec.toNat (BitVec.ofInt 64 (Int.fdiv x_1 (2 ^ 1)) &&& BitVec.ofInt 64 6148914691236517205) : Nat) : Int)) + (IntKind.wrap .u64 ((BitVec.toNat (BitVec.ofInt 64 x_1 &&& BitVec.ofInt 64 6148914691236517205) : Nat) : Int)))) fun x2 =>
  V.lt (IntKind.wrap .u64 ((IntKind.wrap .u64 ((BitVec.toNat (BitVec.ofInt 64 (Int.fdiv x2 (2 ^ 2)) &&& BitVec.ofInt 64 3689348814741910323) : Nat) : Int)) + (IntKind.wrap .u64 ((BitVec.toNat (BitVec.ofInt 64 x2 &&& BitVec.ofInt 64 3689348814741910323) : Nat) : Int)))) fun x3 =>
  V.lt (IntKind.wrap .u64 ((BitVec.toNat (BitVec.ofInt 64 (IntKind.wrap .u64 ((Int.fdiv x3 (2 ^ 4)) + x3)) &&& BitVec.ofInt 64 1085102592571150095) : Nat) : Int)) fun x4 =>
  V.lt (IntKind.wrap .u64 (x4 + (Int.fdiv x4 (2 ^ 8)))) fun x5 =>
  V.lt (IntKind.wrap .u64 (x5 + (Int.fdiv x5 (2 ^ 16)))) fun x6 =>
  V.lt (IntKind.wrap .u64 (x6 + (Int.fdiv x6 (2 ^ 32)))) fun x7 =>
  V.lt (IntKind.wrap .i64 ((BitVec.toNat (BitVec.ofInt 64 (IntKind.wrap .i64 (x7)) &&& BitVec.ofInt 64 127) : Nat) : Int)) fun x8 =>
  R (Ending.returned (Value.int .i64 x8)) w) :
  Calls Tryz.prog 95 #[(Value.int .u64 x_1)] w R :=
  V.calls_of_R ⟨V.assoc [], V.assocP [], V.assocC [], V.assocS [], ⟨[], false⟩⟩ Tryz.func95 rfl (Eq.mp (by kernel_rfl) h)

theorem berthlaw07_PostingOwn_nf (o_1 : Int) (o_2 : Int) (o_3 : Int) (o_4 : Option Addr) (o_4l : Nat) (o_4c : Nat) (o_5 : ByteArray) (o_6 : ByteArray) (o_7 : Option Addr) (o_7l : Nat) (o_7c : Nat) (w : World) (R : Ending → World → Prop) (h :
  ∀ w8, w8 = (World.alloc w (.cells #[(Value.int .i64 o_1), (Value.int .i64 o_2), (Value.int .i64 o_3), (Value.slice o_4 o_4l o_4c), (Value.string o_5), (Value.string o_6), (Value.slice o_7 o_7l o_7c)] 25)) →
  Calls Tryz.prog 5 #[] w8 fun e10 w11 =>
  ∃ b9, e10 = Ending.returned (Value.bool b9) ∧
  V.sel (!b9)
  (R (Ending.returned (Value.bool false)) w11)
  (Calls Tryz.prog 6 #[(Value.int .i64 9)] w11 fun e14 w15 =>
  ∃ p12, ∃ n13, e14 = Ending.returned (Value.tuple #[(Value.pointer p12), (Value.int .i64 n13)]) ∧
  Calls Tryz.prog 6 #[(Value.int .i64 9)] w15 fun e18 w19 =>
  ∃ p16, ∃ n17, e18 = Ending.returned (Value.tuple #[(Value.pointer p16), (Value.int .i64 n17)]) ∧
  V.sel (Option.isNone p12)
  (R (Ending.returned (Value.bool false)) w19)
  (V.sel (Option.isNone p16)
  (R (Ending.returned (Value.bool false)) w19)
  (∃ A20, ∃ A20l, ∃ A20c, World.cell? w19 (Addr.add ⟨Array.size (World.heap w), 0, none⟩ 3) = some (Value.slice A20 A20l A20c) ∧
  Calls Tryz.prog 7 #[(Value.slice A20 A20l A20c)] w19 fun e22 w23 =>
  ∃ A21, ∃ A21l, ∃ A21c, e22 = Ending.returned (Value.slice A21 A21l A21c) ∧
  ∀ w24, w24 = (World.alloc w23 (.cells #[(Value.string ⟨#[115, 112, 97, 114, 101, 49]⟩), (Value.string ByteArray.empty), (Value.string ⟨#[115, 112, 97, 114, 101, 50]⟩), (Value.string ByteArray.empty)] 33)) →
  ∃ A25, ∃ A25l, ∃ A25c, ∃ w26, Sem.run Tryz.prog (Builtin.append_ #[22, 22] 22 #[(Value.slice A21 A21l A21c), (Value.slice (some ⟨Array.size (World.heap w23), 0, none⟩) 2 2)]) w24 = .ok (Value.slice A25 A25l A25c) w26 ∧
  ∃ A27, ∃ A27l, ∃ A27c, World.cell? w26 (Addr.add ⟨Array.size (World.heap w), 0, none⟩ 3) = some (Value.slice A27 A27l A27c) ∧
  Calls Tryz.prog 7 #[(Value.slice A25 A25l A25c)] w26 fun e29 w30 =>
  ∃ A28, ∃ A28l, ∃ A28c, e29 = Ending.returned (Value.slice A28 A28l A28c) ∧
  V.when (decide ((0 : Int) ≤ ((A27l : Nat) : Int) ∧ (((A27l : Nat) : Int) : Int) ≤ ((A25c : Nat) : Int))) (Calls Tryz.prog 8 #[(Value.pointer p12), (Value.int .i64 4), (Value.slice (V.cut A25 A25c 0 2) ((A27l : Nat) - 0) (A25c - 0))] w30 fun e32 w33 =>
  ∃ n31, e32 = Ending.returned (Value.int .i64 n31) ∧
  V.when (decide ((0 : Int) ≤ ((A27l : Nat) : Int) ∧ (((A27l : Nat) : Int) : Int) ≤ ((A25c : Nat) : Int))) (Calls Tryz.prog 8 #[(Value.pointer p12), (Value.int .i64 5), (Value.slice (V.cut A25 A25c 0 2) ((A27l : Nat) - 0) (A25c - 0))] w33 fun e35 w36 =>
  ∃ n34, e35 = Ending.returned (Value.int .i64 n34) ∧
  V.when (decide ((0 : Int) ≤ ((A27l : Nat) : Int) ∧ (((A27l : Nat) : Int) : Int) ≤ ((A25c : Nat) : Int))) (Calls Tryz.prog 9 #[(Value.pointer p12), (Value.int .i64 5), (Value.slice (V.cut A25 A25c 0 2) ((A27l : Nat) - 0) (A25c - 0))] w36 fun e38 w39 =>
  ∃ n37, e38 = Ending.returned (Value.int .i64 n37) ∧
  ∃ A40, ∃ A40l, ∃ A40c, World.cell? w39 (Addr.add ⟨Array.size (World.heap w), 0, none⟩ 3) = some (Value.slice A40 A40l A40c) ∧
  Calls Tryz.prog 10 #[(Value.agg #[(Value.int .i64 9), (Value.slice none 0 0)]), (Value.int .i64 4), (Value.slice A40 A40l A40c)] w39 fun e44 w45 =>
  ∃ n41, ∃ A42, ∃ A42l, ∃ A42c, ∃ n43, e44 = Ending.returned (Value.tuple #[(Value.agg #[(Value.int .i64 n41), (Value.slice A42 A42l A42c)]), (Value.int .i64 n43)]) ∧
  ∀ w46, w46 = (World.alloc w45 (.cells #[(Value.int .i64 0), (Value.slice none 0 0)] 37)) →
  ∃ w47, Sem.run Tryz.prog (Instr.storeAt 37 (Value.pointer (some ⟨Array.size (World.heap w45), 0, none⟩)) (Value.agg #[(Value.int .i64 n41), (Value.slice A42 A42l A42c)])) w46 = .ok () w47 ∧
  Calls Tryz.prog 11 #[(Value.int .i64 n31)] w47 fun e49 w50 =>
  ∃ n48, e49 = Ending.returned (Value.int .i64 n48) ∧
  V.sel (n48 != n43)
  (R (Ending.returned (Value.bool false)) w50)
  (Calls Tryz.prog 11 #[(Value.int .i64 n34)] w50 fun e52 w53 =>
  ∃ n51, e52 = Ending.returned (Value.int .i64 n51) ∧
  V.sel (n51 != n43)
  (R (Ending.returned (Value.bool false)) w53)
  (Calls Tryz.prog 12 #[(Value.slice A25 A25l A25c), (Value.slice A28 A28l A28c)] w53 fun e55 w56 =>
  ∃ b54, e55 = Ending.returned (Value.bool b54) ∧
  V.sel (!b54)
  (R (Ending.returned (Value.bool false)) w56)
  (V.sel (n43 != 0)
  (Calls Tryz.prog 11 #[(Value.int .i64 n37)] w56 fun e58 w59 =>
  ∃ n57, e58 = Ending.returned (Value.int .i64 n57) ∧
  R (Ending.returned (Value.bool (n57 == 71))) w59)
  (∃ A60, ∃ A60l, ∃ A60c, World.cell? w56 (Addr.add ⟨Array.size (World.heap w), 0, none⟩ 3) = some (Value.slice A60 A60l A60c) ∧
  Calls Tryz.prog 7 #[(Value.slice A60 A60l A60c)] w56 fun e62 w63 =>
  ∃ A61, ∃ A61l, ∃ A61c, e62 = Ending.returned (Value.slice A61 A61l A61c) ∧
  Calls Tryz.prog 8 #[(Value.pointer p16), (Value.int .i64 4), (Value.slice A61 A61l A61c)] w63 fun e65 w66 =>
  ∃ n64, e65 = Ending.returned (Value.int .i64 n64) ∧
  ∃ A67, ∃ A67l, ∃ A67c, World.cell? w66 (Addr.add ⟨Array.size (World.heap w), 0, none⟩ 3) = some (Value.slice A67 A67l A67c) ∧
  Calls Tryz.prog 7 #[(Value.slice A67 A67l A67c)] w66 fun e69 w70 =>
  ∃ A68, ∃ A68l, ∃ A68c, e69 = Ending.returned (Value.slice A68 A68l A68c) ∧
  Calls Tryz.prog 8 #[(Value.pointer p16), (Value.int .i64 5), (Value.slice A68 A68l A68c)] w70 fun e72 w73 =>
  ∃ n71, e72 = Ending.returned (Value.int .i64 n71) ∧
  ∃ I74 : Int → World → Prop, ∃ μ75 : Int → World → Nat, I74 0 w73 ∧
  ∀ i_76 (j77 : Nat → Value) (w78 : World), I74 i_76 w78 →
  (V.sel (decide (i_76 < ((A27l : Nat) : Int)))
  (Calls Tryz.prog 13 #[(Value.int .i64 3), (Value.int .i64 i_76)] w78 fun e80 w81 =>
  ∃ s79, e80 = Ending.returned (Value.string s79) ∧
  V.when (decide ((0 : Int) ≤ i_76 ∧ (i_76 : Int) < ((A25l : Nat) : Int))) (V.ptr A25 fun a82 =>
  ∃ w83, Sem.run Tryz.prog (Instr.storeAt 33 (Value.pointer (some (Addr.add a82 ((Int.toNat i_76) * 2)))) (Value.agg #[(Value.string ⟨#[122]⟩), (Value.string s79)])) w81 = .ok () w83 ∧
  I74 (IntKind.wrap .i64 (i_76 + 1)) w83 ∧ μ75 (IntKind.wrap .i64 (i_76 + 1)) w83 < μ75 i_76 w78))
  (Calls Tryz.prog 14 #[(Value.pointer p12), (Value.int .i64 4)] w78 fun e86 w87 =>
  ∃ A84, ∃ A84l, ∃ A84c, ∃ b85, e86 = Ending.returned (Value.tuple #[(Value.slice A84 A84l A84c), (Value.bool b85)]) ∧
  Calls Tryz.prog 14 #[(Value.pointer p12), (Value.int .i64 4)] w87 fun e90 w91 =>
  ∃ A88, ∃ A88l, ∃ A88c, ∃ b89, e90 = Ending.returned (Value.tuple #[(Value.slice A88 A88l A88c), (Value.bool b89)]) ∧
  Calls Tryz.prog 14 #[(Value.pointer p12), (Value.int .i64 5)] w91 fun e94 w95 =>
  ∃ A92, ∃ A92l, ∃ A92c, ∃ b93, e94 = Ending.returned (Value.tuple #[(Value.slice A92 A92l A92c), (Value.bool b93)]) ∧
  ∃ A96, ∃ A96l, ∃ A96c, World.cell? w95 (Addr.add ⟨Array.size (World.heap w), 0, none⟩ 3) = some (Value.slice A96 A96l A96c) ∧
  Calls Tryz.prog 12 #[(Value.slice A84 A84l A84c), (Value.slice A96 A96l A96c)] w95 fun e98 w99 =>
  ∃ b97, e98 = Ending.returned (Value.bool b97) ∧
  V.sel (!b97)
  (R (Ending.returned (Value.bool false)) w99)
  (∃ A100, ∃ A100l, ∃ A100c, World.cell? w99 (Addr.add ⟨Array.size (World.heap w), 0, none⟩ 3) = some (Value.slice A100 A100l A100c) ∧
  Calls Tryz.prog 12 #[(Value.slice A88 A88l A88c), (Value.slice A100 A100l A100c)] w99 fun e102 w103 =>
  ∃ b101, e102 = Ending.returned (Value.bool b101) ∧
  V.sel (!b101)
  (R (Ending.returned (Value.bool false)) w103)
  (∃ A104, ∃ A104l, ∃ A104c, World.cell? w103 (Addr.add ⟨Array.size (World.heap w), 0, none⟩ 3) = some (Value.slice A104 A104l A104c) ∧
  Calls Tryz.prog 12 #[(Value.slice A92 A92l A92c), (Value.slice A104 A104l A104c)] w103 fun e106 w107 =>
  ∃ b105, e106 = Ending.returned (Value.bool b105) ∧
  V.sel (!b105)
  (R (Ending.returned (Value.bool false)) w107)
  (V.when (decide ((0 : Int) ≤ ((A27l : Nat) : Int) ∧ (((A27l : Nat) : Int) : Int) ≤ ((A25c : Nat) : Int))) (∀ w108, w108 = (World.alloc w107 (.cells #[(Value.slice A84 A84l A84c), (Value.slice A88 A88l A88c), (Value.slice A92 A92l A92c), (Value.slice (V.cut A25 A25c 0 2) ((A27l : Nat) - 0) (A25c - 0))] 22)) →
  Calls Tryz.prog 15 #[(Value.slice (some ⟨Array.size (World.heap w107), 0, none⟩) 4 4)] w108 fun e110 w111 =>
  ∃ b109, e110 = Ending.returned (Value.bool b109) ∧
  V.sel (!b109)
  (R (Ending.returned (Value.bool false)) w111)
  (Calls Tryz.prog 16 #[(Value.pointer p12), (Value.pointer p16)] w111 fun e113 w114 =>
  ∃ b112, e113 = Ending.returned (Value.bool b112) ∧
  V.sel (!b112)
  (R (Ending.returned (Value.bool false)) w114)
  (∃ S115 : World → Prop, S115 (World.drew w114) ∧
  ∃ s117, (∀ w116, S115 w116 → World.cell? w116 (Addr.add ⟨Array.size (World.heap w), 0, none⟩ 4) = some (Value.string s117)) ∧
  ∃ s118, (∀ w116, S115 w116 → World.cell? w116 (Addr.add ⟨Array.size (World.heap w), 0, none⟩ 4) = some (Value.string s118)) ∧
  Calls Tryz.prog 17 #[(Value.pointer p12)] (World.drew w114) fun e120 w121 =>
  ∃ A119, ∃ A119l, ∃ A119c, e120 = Ending.returned (Value.slice A119 A119l A119c) ∧
  S115 w121 ∧
  Calls Tryz.prog 17 #[(Value.pointer p12)] w121 fun e123 w124 =>
  ∃ A122, ∃ A122l, ∃ A122c, e123 = Ending.returned (Value.slice A122 A122l A122c) ∧
  S115 w124 ∧
  Calls Tryz.prog 18 #[(Value.pointer p12), (Value.string s117)] w124 fun e126 w127 =>
  ∃ A125, ∃ A125l, ∃ A125c, e126 = Ending.returned (Value.slice A125 A125l A125c) ∧
  S115 w127 ∧
  Calls Tryz.prog 18 #[(Value.pointer p12), (Value.string s118)] w127 fun e129 w130 =>
  ∃ A128, ∃ A128l, ∃ A128c, e129 = Ending.returned (Value.slice A128 A128l A128c) ∧
  S115 w130 ∧
  Calls Tryz.prog 19 #[(Value.slice A119 A119l A119c), (Value.slice A122 A122l A122c)] w130 fun e132 w133 =>
  ∃ b131, e132 = Ending.returned (Value.bool b131) ∧
  V.sel (!b131)
  (R (Ending.returned (Value.bool false)) w133)
  (Calls Tryz.prog 19 #[(Value.slice A125 A125l A125c), (Value.slice A128 A128l A128c)] w133 fun e135 w136 =>
  ∃ b134, e135 = Ending.returned (Value.bool b134) ∧
  V.sel (!b134)
  (R (Ending.returned (Value.bool false)) w136)
  (∀ w137, w137 = (World.alloc w136 (.cells #[(Value.slice A119 A119l A119c), (Value.slice A122 A122l A122c), (Value.slice A125 A125l A125c), (Value.slice A128 A128l A128c)] 23)) →
  Calls Tryz.prog 20 #[(Value.slice (some ⟨Array.size (World.heap w136), 0, none⟩) 4 4)] w137 fun e139 w140 =>
  ∃ b138, e139 = Ending.returned (Value.bool b138) ∧
  V.sel (!b138)
  (R (Ending.returned (Value.bool false)) w140)
  (Calls Tryz.prog 16 #[(Value.pointer p12), (Value.pointer p16)] w140 fun e142 w143 =>
  ∃ b141, e142 = Ending.returned (Value.bool b141) ∧
  V.sel (!b141)
  (R (Ending.returned (Value.bool false)) w143)
  (∃ n144, ∃ n145, ∃ n146, ∃ A147, ∃ A147l, ∃ A147c, ∃ s148, ∃ s149, ∃ A150, ∃ A150l, ∃ A150c, V.cellsC (fun a_ x_ => World.cell? w143 a_ = some x_) ⟨Array.size (World.heap w), 0, none⟩ [(Value.int .i64 n144), (Value.int .i64 n145), (Value.int .i64 n146), (Value.slice A147 A147l A147c), (Value.string s148), (Value.string s149), (Value.slice A150 A150l A150c)] ∧
  Calls Tryz.prog 21 #[(Value.pointer p12), (Value.agg #[(Value.int .i64 n144), (Value.int .i64 n145), (Value.int .i64 n146), (Value.slice A147 A147l A147c), (Value.string s148), (Value.string s149), (Value.slice A150 A150l A150c)])] w143 fun e152 w153 =>
  ∃ b151, e152 = Ending.returned (Value.bool b151) ∧
  V.sel b151
  (Calls Tryz.prog 16 #[(Value.pointer p12), (Value.pointer p16)] w153 fun e155 w156 =>
  ∃ b154, e155 = Ending.returned (Value.bool b154) ∧
  R (Ending.returned (Value.bool b154)) w156)
  (R (Ending.returned (Value.bool false)) w153)))))))))))))))))))))))) :
  Calls Tryz.prog 3 #[(Value.agg #[(Value.int .i64 o_1), (Value.int .i64 o_2), (Value.int .i64 o_3), (Value.slice o_4 o_4l o_4c), (Value.string o_5), (Value.string o_6), (Value.slice o_7 o_7l o_7c)])] w R :=
  V.calls_of_R ⟨V.assoc [(0, [15])], V.assocP [(31, V.line [0, 2, 4, 5, 6, 8, 9, 10, 1, 3, 7, 11, 12, 13, 14, 15])], V.assocC [], V.assocS [], ⟨[], true⟩⟩ Tryz.func3 rfl (Eq.mp (by kernel_rfl) h)

theorem berthlaw07_PostingPlays_nf (script_1 : Option Addr) (script_1l : Nat) (script_1c : Nat) (w : World) (R : Ending → World → Prop) (h :
  Calls Tryz.prog 5 #[] w fun e3 w4 =>
  ∃ b2, e3 = Ending.returned (Value.bool b2) ∧
  V.sel (!b2)
  (R (Ending.returned (Value.bool false)) w4)
  (∀ w5, w5 = (World.alloc w4 (.cells #[(Value.pointer none), (Value.pointer none), (Value.int .i64 0), (Value.slice none 0 0), (Value.int .i64 0), (Value.slice none 0 0), (Value.bool true), (Value.bool true)] 61)) →
  ∃ I6 : Int → World → Prop, ∃ μ7 : Int → World → Nat, I6 0 w5 ∧
  ∀ i_8 (j9 : Nat → Value) (w10 : World), I6 i_8 w10 →
  (V.sel (decide (i_8 < ((script_1l : Nat) : Int)))
  (V.when (decide ((0 : Int) ≤ i_8 ∧ (i_8 : Int) < ((script_1l : Nat) : Int))) (V.ptr script_1 fun a11 =>
  ∃ n12, ∃ n13, ∃ n14, ∃ A15, ∃ A15l, ∃ A15c, ∃ s16, ∃ s17, ∃ A18, ∃ A18l, ∃ A18c, V.cellsC (fun a_ x_ => World.cell? w10 a_ = some x_) (Addr.add a11 ((Int.toNat i_8) * 7)) [(Value.int .i64 n12), (Value.int .i64 n13), (Value.int .i64 n14), (Value.slice A15 A15l A15c), (Value.string s16), (Value.string s17), (Value.slice A18 A18l A18c)] ∧
  Calls Tryz.prog 22 #[(Value.pointer (some ⟨Array.size (World.heap w4), 0, none⟩)), (Value.agg #[(Value.int .i64 n12), (Value.int .i64 n13), (Value.int .i64 n14), (Value.slice A15 A15l A15c), (Value.string s16), (Value.string s17), (Value.slice A18 A18l A18c)])] w10 fun e20 w21 =>
  ∃ b19, e20 = Ending.returned (Value.bool b19) ∧
  V.sel (!b19)
  (R (Ending.returned (Value.bool false)) w21)
  (I6 (IntKind.wrap .i64 (i_8 + 1)) w21 ∧ μ7 (IntKind.wrap .i64 (i_8 + 1)) w21 < μ7 i_8 w10)))
  (R (Ending.returned (Value.bool true)) w10)))) :
  Calls Tryz.prog 4 #[(Value.slice script_1 script_1l script_1c)] w R :=
  V.calls_of_R ⟨V.assoc [(0, [4])], V.assocP [], V.assocC [], V.assocS [], ⟨[], true⟩⟩ Tryz.func4 rfl (Eq.mp (by kernel_rfl) h)

theorem berthlaw07_awake_nf  (w : World) (R : Ending → World → Prop) (h :
  Calls Tryz.prog 6 #[(Value.int .i64 3)] w fun e3 w4 =>
  ∃ p1, ∃ n2, e3 = Ending.returned (Value.tuple #[(Value.pointer p1), (Value.int .i64 n2)]) ∧
  V.sel (Option.isNone p1)
  (R (Ending.returned (Value.bool false)) w4)
  (Calls Tryz.prog 11 #[(Value.int .i64 n2)] w4 fun e6 w7 =>
  ∃ n5, e6 = Ending.returned (Value.int .i64 n5) ∧
  V.sel (n5 != 0)
  (R (Ending.returned (Value.bool false)) w7)
  (∀ w8, w8 = (World.alloc w7 (.cells #[(Value.string ⟨#[122, 111, 110, 101]⟩), (Value.string ⟨#[97]⟩)] 33)) →
  Calls Tryz.prog 8 #[(Value.pointer p1), (Value.int .i64 2), (Value.slice (some ⟨Array.size (World.heap w7), 0, none⟩) 1 1)] w8 fun e10 w11 =>
  ∃ n9, e10 = Ending.returned (Value.int .i64 n9) ∧
  Calls Tryz.prog 11 #[(Value.int .i64 n9)] w11 fun e13 w14 =>
  ∃ n12, e13 = Ending.returned (Value.int .i64 n12) ∧
  V.sel (n12 == 0)
  (Calls Tryz.prog 24 #[(Value.pointer p1), (Value.string ⟨#[122, 111, 110, 101]⟩), (Value.string ⟨#[97]⟩)] w14 fun e16 w17 =>
  ∃ p15, e16 = Ending.returned (Value.pointer p15) ∧
  ∀ w18, w18 = (World.alloc w17 (.cells #[(Value.int .i64 2)] 3)) →
  Calls Tryz.prog 23 #[(Value.pointer p15), (Value.int .i64 3), (Value.slice (some ⟨Array.size (World.heap w17), 0, none⟩) 1 1)] w18 fun e20 w21 =>
  ∃ b19, e20 = Ending.returned (Value.bool b19) ∧
  V.sel b19
  (Calls Tryz.prog 25 #[(Value.pointer p1), (Value.string ⟨#[122, 111, 110, 101]⟩), (Value.string ⟨#[97]⟩)] w21 fun e23 w24 =>
  ∃ n22, e23 = Ending.returned (Value.int .i64 n22) ∧
  R (Ending.returned (Value.bool (n22 == 1))) w24)
  (R (Ending.returned (Value.bool false)) w21))
  (R (Ending.returned (Value.bool false)) w14)))) :
  Calls Tryz.prog 5 #[] w R :=
  V.calls_of_R ⟨V.assoc [], V.assocP [], V.assocC [], V.assocS [], ⟨[], true⟩⟩ Tryz.func5 rfl (Eq.mp (by kernel_rfl) h)

theorem posting_New_nf (size_1 : Int) (w : World) (R : Ending → World → Prop) (h :
  Calls Tryz.prog 26 #[(Value.int .i64 size_1)] w fun e4 w5 =>
  ∃ p2, ∃ n3, e4 = Ending.returned (Value.tuple #[(Value.pointer p2), (Value.int .i64 n3)]) ∧
  V.sel (n3 != 0)
  (R (Ending.returned (Value.tuple #[(Value.pointer none), (Value.int .i64 n3)])) w5)
  (∀ w6, w6 = (World.alloc w5 (.map #[] 0)) →
  ∀ w7, w7 = (World.alloc w6 (.map #[] 0)) →
  ∀ w8, w8 = (World.alloc w7 (.cells #[(Value.int .i64 size_1), (Value.pointer p2), (Value.map (some (Array.size (World.heap w5)))), (Value.map (some (Array.size (World.heap w6))))] 73)) →
  R (Ending.returned (Value.tuple #[(Value.pointer (some ⟨Array.size (World.heap w7), 0, none⟩)), (Value.int .i64 0)])) w8)) :
  Calls Tryz.prog 6 #[(Value.int .i64 size_1)] w R :=
  V.calls_of_R ⟨V.assoc [], V.assocP [], V.assocC [], V.assocS [], ⟨[], true⟩⟩ Tryz.func6 rfl (Eq.mp (by kernel_rfl) h)

theorem berthlaw07_labels_nf (l_1 : Option Addr) (l_1l : Nat) (l_1c : Nat) (w : World) (R : Ending → World → Prop) (h :
  ∀ w2, w2 = (World.alloc w (.cells #[] 33)) →
  ∃ A3, ∃ A3l, ∃ A3c, ∃ w4, Sem.run Tryz.prog (Builtin.append_ #[22, 22] 22 #[(Value.slice (some ⟨Array.size (World.heap w), 0, none⟩) 0 0), (Value.slice l_1 l_1l l_1c)]) w2 = .ok (Value.slice A3 A3l A3c) w4 ∧
  R (Ending.returned (Value.slice A3 A3l A3c)) w4) :
  Calls Tryz.prog 7 #[(Value.slice l_1 l_1l l_1c)] w R :=
  V.calls_of_R ⟨V.assoc [], V.assocP [], V.assocC [], V.assocS [], ⟨[], true⟩⟩ Tryz.func7 rfl (Eq.mp (by kernel_rfl) h)

theorem posting_Index_Put_nf (x_1 : Option Addr) (slot_2 : Int) (list_3 : Option Addr) (list_3l : Nat) (list_3c : Nat) (w : World) (R : Ending → World → Prop) (h :
  V.sel (Option.isNone x_1)
  (R (Ending.returned (Value.int .i64 1)) w)
  (V.sel (decide (slot_2 < 0))
  (R (Ending.returned (Value.int .i64 72)) w)
  (V.ptr x_1 fun a4 =>
  ∃ n5, World.cell? w (Addr.add a4 0) = some (Value.int .i64 n5) ∧
  V.sel (decide (slot_2 ≥ n5))
  (R (Ending.returned (Value.int .i64 72)) w)
  (V.ptr x_1 fun a6 =>
  ∃ p7, World.cell? w (Addr.add a6 1) = some (Value.pointer p7) ∧
  Calls Tryz.prog 27 #[(Value.pointer p7), (Value.int .i64 slot_2)] w fun e9 w10 =>
  ∃ b8, e9 = Ending.returned (Value.bool b8) ∧
  V.sel b8
  (R (Ending.returned (Value.int .i64 70)) w10)
  (Calls Tryz.prog 28 #[(Value.slice list_3 list_3l list_3c)] w10 fun e12 w13 =>
  ∃ n11, e12 = Ending.returned (Value.int .i64 n11) ∧
  V.sel (n11 != 0)
  (R (Ending.returned (Value.int .i64 n11)) w13)
  (V.ptr x_1 fun a14 =>
  ∃ p15, World.cell? w13 (Addr.add a14 1) = some (Value.pointer p15) ∧
  Calls Tryz.prog 29 #[(Value.pointer p15), (Value.int .i64 slot_2)] w13 fun e17 w18 =>
  ∃ b16, e17 = Ending.returned (Value.bool b16) ∧
  Calls Tryz.prog 30 #[(Value.pointer x_1), (Value.int .i64 slot_2), (Value.slice list_3 list_3l list_3c)] w18 fun e19 w20 =>
  e19 = Ending.returned undef ∧
  R (Ending.returned (Value.int .i64 0)) w20)))))) :
  Calls Tryz.prog 8 #[(Value.pointer x_1), (Value.int .i64 slot_2), (Value.slice list_3 list_3l list_3c)] w R :=
  V.calls_of_R ⟨V.assoc [], V.assocP [], V.assocC [], V.assocS [], ⟨[], true⟩⟩ Tryz.func8 rfl (Eq.mp (by kernel_rfl) h)

theorem posting_Index_Set_nf (x_1 : Option Addr) (slot_2 : Int) (list_3 : Option Addr) (list_3l : Nat) (list_3c : Nat) (w : World) (R : Ending → World → Prop) (h :
  V.sel (Option.isNone x_1)
  (R (Ending.returned (Value.int .i64 1)) w)
  (V.sel (decide (slot_2 < 0))
  (R (Ending.returned (Value.int .i64 72)) w)
  (V.ptr x_1 fun a4 =>
  ∃ n5, World.cell? w (Addr.add a4 0) = some (Value.int .i64 n5) ∧
  V.sel (decide (slot_2 ≥ n5))
  (R (Ending.returned (Value.int .i64 72)) w)
  (V.ptr x_1 fun a6 =>
  ∃ p7, World.cell? w (Addr.add a6 1) = some (Value.pointer p7) ∧
  Calls Tryz.prog 27 #[(Value.pointer p7), (Value.int .i64 slot_2)] w fun e9 w10 =>
  ∃ b8, e9 = Ending.returned (Value.bool b8) ∧
  V.sel (!b8)
  (R (Ending.returned (Value.int .i64 71)) w10)
  (Calls Tryz.prog 28 #[(Value.slice list_3 list_3l list_3c)] w10 fun e12 w13 =>
  ∃ n11, e12 = Ending.returned (Value.int .i64 n11) ∧
  V.sel (n11 != 0)
  (R (Ending.returned (Value.int .i64 n11)) w13)
  (Calls Tryz.prog 31 #[(Value.pointer x_1), (Value.int .i64 slot_2)] w13 fun e14 w15 =>
  e14 = Ending.returned undef ∧
  Calls Tryz.prog 30 #[(Value.pointer x_1), (Value.int .i64 slot_2), (Value.slice list_3 list_3l list_3c)] w15 fun e16 w17 =>
  e16 = Ending.returned undef ∧
  R (Ending.returned (Value.int .i64 0)) w17)))))) :
  Calls Tryz.prog 9 #[(Value.pointer x_1), (Value.int .i64 slot_2), (Value.slice list_3 list_3l list_3c)] w R :=
  V.calls_of_R ⟨V.assoc [], V.assocP [], V.assocC [], V.assocS [], ⟨[], true⟩⟩ Tryz.func9 rfl (Eq.mp (by kernel_rfl) h)

theorem berthref07_Put_nf (x_1 : Int) (x_2 : Option Addr) (x_2l : Nat) (x_2c : Nat) (slot_3 : Int) (list_4 : Option Addr) (list_4l : Nat) (list_4c : Nat) (w : World) (R : Ending → World → Prop) (h :
  ∀ w5, w5 = (World.alloc w (.cells #[(Value.int .i64 x_1), (Value.slice x_2 x_2l x_2c)] 37)) →
  ∀ w6, w6 = (World.alloc w5 (.cells #[(Value.int .i64 0), (Value.slice none 0 0)] 37)) →
  V.sel (decide (slot_3 < 0))
  (∃ n7, ∃ A8, ∃ A8l, ∃ A8c, V.cellsC (fun a_ x_ => World.cell? w6 a_ = some x_) ⟨Array.size (World.heap w), 0, none⟩ [(Value.int .i64 n7), (Value.slice A8 A8l A8c)] ∧
  ∃ w9, Sem.run Tryz.prog (Instr.storeAt 37 (Value.pointer (some ⟨Array.size (World.heap w5), 0, none⟩)) (Value.agg #[(Value.int .i64 n7), (Value.slice A8 A8l A8c)])) w6 = .ok () w9 ∧
  ∃ n10, ∃ A11, ∃ A11l, ∃ A11c, V.cellsC (fun a_ x_ => World.cell? w9 a_ = some x_) ⟨Array.size (World.heap w5), 0, none⟩ [(Value.int .i64 n10), (Value.slice A11 A11l A11c)] ∧
  R (Ending.returned (Value.tuple #[(Value.agg #[(Value.int .i64 n10), (Value.slice A11 A11l A11c)]), (Value.int .i64 72)])) w9)
  (∃ n12, World.cell? w6 (Addr.add ⟨Array.size (World.heap w), 0, none⟩ 0) = some (Value.int .i64 n12) ∧
  V.sel (decide (slot_3 ≥ n12))
  (∃ n13, ∃ A14, ∃ A14l, ∃ A14c, V.cellsC (fun a_ x_ => World.cell? w6 a_ = some x_) ⟨Array.size (World.heap w), 0, none⟩ [(Value.int .i64 n13), (Value.slice A14 A14l A14c)] ∧
  ∃ w15, Sem.run Tryz.prog (Instr.storeAt 37 (Value.pointer (some ⟨Array.size (World.heap w5), 0, none⟩)) (Value.agg #[(Value.int .i64 n13), (Value.slice A14 A14l A14c)])) w6 = .ok () w15 ∧
  ∃ n16, ∃ A17, ∃ A17l, ∃ A17c, V.cellsC (fun a_ x_ => World.cell? w15 a_ = some x_) ⟨Array.size (World.heap w5), 0, none⟩ [(Value.int .i64 n16), (Value.slice A17 A17l A17c)] ∧
  R (Ending.returned (Value.tuple #[(Value.agg #[(Value.int .i64 n16), (Value.slice A17 A17l A17c)]), (Value.int .i64 72)])) w15)
  (∃ n18, ∃ A19, ∃ A19l, ∃ A19c, V.cellsC (fun a_ x_ => World.cell? w6 a_ = some x_) ⟨Array.size (World.heap w), 0, none⟩ [(Value.int .i64 n18), (Value.slice A19 A19l A19c)] ∧
  Calls Tryz.prog 32 #[(Value.agg #[(Value.int .i64 n18), (Value.slice A19 A19l A19c)]), (Value.int .i64 slot_3)] w6 fun e22 w23 =>
  ∃ n20, ∃ b21, e22 = Ending.returned (Value.tuple #[(Value.int .i64 n20), (Value.bool b21)]) ∧
  V.sel b21
  (∃ n24, ∃ A25, ∃ A25l, ∃ A25c, V.cellsC (fun a_ x_ => World.cell? w23 a_ = some x_) ⟨Array.size (World.heap w), 0, none⟩ [(Value.int .i64 n24), (Value.slice A25 A25l A25c)] ∧
  ∃ w26, Sem.run Tryz.prog (Instr.storeAt 37 (Value.pointer (some ⟨Array.size (World.heap w5), 0, none⟩)) (Value.agg #[(Value.int .i64 n24), (Value.slice A25 A25l A25c)])) w23 = .ok () w26 ∧
  ∃ n27, ∃ A28, ∃ A28l, ∃ A28c, V.cellsC (fun a_ x_ => World.cell? w26 a_ = some x_) ⟨Array.size (World.heap w5), 0, none⟩ [(Value.int .i64 n27), (Value.slice A28 A28l A28c)] ∧
  R (Ending.returned (Value.tuple #[(Value.agg #[(Value.int .i64 n27), (Value.slice A28 A28l A28c)]), (Value.int .i64 70)])) w26)
  (Calls Tryz.prog 33 #[(Value.slice list_4 list_4l list_4c)] w23 fun e31 w32 =>
  ∃ n29, ∃ n30, e31 = Ending.returned (Value.tuple #[(Value.int .i64 n29), (Value.int .i64 n30)]) ∧
  V.sel (n30 != 0)
  (∃ n33, ∃ A34, ∃ A34l, ∃ A34c, V.cellsC (fun a_ x_ => World.cell? w32 a_ = some x_) ⟨Array.size (World.heap w), 0, none⟩ [(Value.int .i64 n33), (Value.slice A34 A34l A34c)] ∧
  ∃ w35, Sem.run Tryz.prog (Instr.storeAt 37 (Value.pointer (some ⟨Array.size (World.heap w5), 0, none⟩)) (Value.agg #[(Value.int .i64 n33), (Value.slice A34 A34l A34c)])) w32 = .ok () w35 ∧
  ∃ n36, ∃ A37, ∃ A37l, ∃ A37c, V.cellsC (fun a_ x_ => World.cell? w35 a_ = some x_) ⟨Array.size (World.heap w5), 0, none⟩ [(Value.int .i64 n36), (Value.slice A37 A37l A37c)] ∧
  R (Ending.returned (Value.tuple #[(Value.agg #[(Value.int .i64 n36), (Value.slice A37 A37l A37c)]), (Value.int .i64 n30)])) w35)
  (∃ S38 : World → Prop, S38 (World.drew w32) ∧
  ∃ n40, ∃ A41, ∃ A41l, ∃ A41c, V.cellsC (fun a_ x_ => ∀ w39, S38 w39 → World.cell? w39 a_ = some x_) ⟨Array.size (World.heap w), 0, none⟩ [(Value.int .i64 n40), (Value.slice A41 A41l A41c)] ∧
  ∀ w42, w42 = (World.alloc (World.drew w32) (.cells #[] 33)) →
  S38 w42 ∧
  ∃ A43, ∃ A43l, ∃ A43c, ∃ w44, Sem.run Tryz.prog (Builtin.append_ #[22, 22] 22 #[(Value.slice (some ⟨Array.size (World.heap (World.drew w32)), 0, none⟩) 0 0), (Value.slice list_4 list_4l list_4c)]) w42 = .ok (Value.slice A43 A43l A43c) w44 ∧
  S38 w44 ∧
  ∀ w45, w45 = (World.alloc w44 (.cells #[(Value.int .i64 slot_3), (Value.slice A43 A43l A43c)] 84)) →
  S38 w45 ∧
  Calls Tryz.prog 34 #[(Value.agg #[(Value.int .i64 n40), (Value.slice A41 A41l A41c)]), (Value.int .i64 n20), (Value.int .i64 0), (Value.slice (some ⟨Array.size (World.heap w44), 0, none⟩) 1 1)] w45 fun e48 w49 =>
  ∃ n46, ∃ A47, ∃ A47l, ∃ A47c, e48 = Ending.returned (Value.agg #[(Value.int .i64 n46), (Value.slice A47 A47l A47c)]) ∧
  S38 w49 ∧
  ∃ w50, Sem.run Tryz.prog (Instr.storeAt 37 (Value.pointer (some ⟨Array.size (World.heap w5), 0, none⟩)) (Value.agg #[(Value.int .i64 n46), (Value.slice A47 A47l A47c)])) w49 = .ok () w50 ∧
  S38 w50 ∧
  ∃ n51, ∃ A52, ∃ A52l, ∃ A52c, V.cellsC (fun a_ x_ => World.cell? w50 a_ = some x_) ⟨Array.size (World.heap w5), 0, none⟩ [(Value.int .i64 n51), (Value.slice A52 A52l A52c)] ∧
  R (Ending.returned (Value.tuple #[(Value.agg #[(Value.int .i64 n51), (Value.slice A52 A52l A52c)]), (Value.int .i64 0)])) w50))))) :
  Calls Tryz.prog 10 #[(Value.agg #[(Value.int .i64 x_1), (Value.slice x_2 x_2l x_2c)]), (Value.int .i64 slot_3), (Value.slice list_4 list_4l list_4c)] w R :=
  V.calls_of_R ⟨V.assoc [], V.assocP [(9, V.line [0, 1, 2, 4, 3, 5, 6, 7, 8, 9, 10])], V.assocC [], V.assocS [], ⟨[], true⟩⟩ Tryz.func10 rfl (Eq.mp (by kernel_rfl) h)

theorem berthlaw07_num_nf (e_1 : Int) (w : World) (R : Ending → World → Prop) (h :
  R (Ending.returned (Value.int .i64 e_1)) w) :
  Calls Tryz.prog 11 #[(Value.int .i64 e_1)] w R :=
  V.calls_of_R ⟨V.assoc [], V.assocP [], V.assocC [], V.assocS [], ⟨[], true⟩⟩ Tryz.func11 rfl (Eq.mp (by kernel_rfl) h)

theorem berthref07_SameLabels_nf (a_1 : Option Addr) (a_1l : Nat) (a_1c : Nat) (b_2 : Option Addr) (b_2l : Nat) (b_2c : Nat) (w : World) (R : Ending → World → Prop) (h :
  V.sel (((a_1l : Nat) : Int) != ((b_2l : Nat) : Int))
  (R (Ending.returned (Value.bool false)) w)
  (∃ I3 : Int → World → Prop, ∃ μ4 : Int → World → Nat, I3 0 w ∧
  ∀ i_5 (j6 : Nat → Value) (w7 : World), I3 i_5 w7 →
  (V.sel (decide (i_5 < ((a_1l : Nat) : Int)))
  (V.when (decide ((0 : Int) ≤ i_5 ∧ (i_5 : Int) < ((a_1l : Nat) : Int))) (V.ptr a_1 fun a8 =>
  ∃ s9, World.cell? w7 (Addr.add (Addr.add a8 ((Int.toNat i_5) * 2)) 0) = some (Value.string s9) ∧
  V.when (decide ((0 : Int) ≤ i_5 ∧ (i_5 : Int) < ((b_2l : Nat) : Int))) (V.ptr b_2 fun a10 =>
  ∃ s11, World.cell? w7 (Addr.add (Addr.add a10 ((Int.toNat i_5) * 2)) 0) = some (Value.string s11) ∧
  V.sel (!(ByteArray.toList s9 == ByteArray.toList s11))
  (R (Ending.returned (Value.bool false)) (World.drew w7))
  (V.when (decide ((0 : Int) ≤ i_5 ∧ (i_5 : Int) < ((a_1l : Nat) : Int))) (V.ptr a_1 fun a12 =>
  ∃ s13, World.cell? w7 (Addr.add (Addr.add a12 ((Int.toNat i_5) * 2)) 1) = some (Value.string s13) ∧
  V.when (decide ((0 : Int) ≤ i_5 ∧ (i_5 : Int) < ((b_2l : Nat) : Int))) (V.ptr b_2 fun a14 =>
  ∃ s15, World.cell? w7 (Addr.add (Addr.add a14 ((Int.toNat i_5) * 2)) 1) = some (Value.string s15) ∧
  V.sel (!(ByteArray.toList s13 == ByteArray.toList s15))
  (R (Ending.returned (Value.bool false)) (World.drew w7))
  (I3 (IntKind.wrap .i64 (i_5 + 1)) (World.drew w7) ∧ μ4 (IntKind.wrap .i64 (i_5 + 1)) (World.drew w7) < μ4 i_5 w7)))))))
  (R (Ending.returned (Value.bool true)) w7)))) :
  Calls Tryz.prog 12 #[(Value.slice a_1 a_1l a_1c), (Value.slice b_2 b_2l b_2c)] w R :=
  V.calls_of_R ⟨V.assoc [(0, [5])], V.assocP [(6, V.line [0, 1, 2, 3, 4, 5, 6, 7, 8, 9, 10, 11, 12, 13, 14, 15, 16, 17, 18, 19, 20, 21, 22, 23])], V.assocC [], V.assocS [], ⟨[], true⟩⟩ Tryz.func12 rfl (Eq.mp (by kernel_rfl) h)

theorem berthlaw07_marks_nf (i_1 : Int) (k_2 : Int) (w : World) (R : Ending → World → Prop) (h :
  ∀ w3, w3 = (World.alloc w (.cells #[(Value.int .u8 (IntKind.wrap .u8 (65 + (IntKind.wrap .u8 ((Int.tmod i_1 26)))))), (Value.int .u8 (IntKind.wrap .u8 (48 + (IntKind.wrap .u8 ((Int.tmod k_2 64)))))), (Value.int .u8 (IntKind.wrap .u8 (48 + (IntKind.wrap .u8 ((Int.tmod (IntKind.wrap .i64 (Int.tdiv k_2 64)) 64))))))] 5)) →
  ∃ s4, ∃ w5, Sem.run Tryz.prog (convert 85 9 (Value.slice (some ⟨Array.size (World.heap w), 0, none⟩) 3 3)) w3 = .ok (Value.string s4) w5 ∧
  R (Ending.returned (Value.string s4)) w5) :
  Calls Tryz.prog 13 #[(Value.int .i64 i_1), (Value.int .i64 k_2)] w R :=
  V.calls_of_R ⟨V.assoc [], V.assocP [], V.assocC [], V.assocS [], ⟨[], true⟩⟩ Tryz.func13 rfl (Eq.mp (by kernel_rfl) h)

theorem posting_Index_Of_nf (x_1 : Option Addr) (slot_2 : Int) (w : World) (R : Ending → World → Prop) (h :
  V.sel (Option.isNone x_1)
  (R (Ending.returned (Value.tuple #[(Value.slice none 0 0), (Value.bool false)])) w)
  (V.ptr x_1 fun a3 =>
  ∃ p4, World.cell? w (Addr.add a3 1) = some (Value.pointer p4) ∧
  Calls Tryz.prog 27 #[(Value.pointer p4), (Value.int .i64 slot_2)] w fun e6 w7 =>
  ∃ b5, e6 = Ending.returned (Value.bool b5) ∧
  V.sel (!b5)
  (R (Ending.returned (Value.tuple #[(Value.slice none 0 0), (Value.bool false)])) w7)
  (∀ w8, w8 = (World.alloc w7 (.cells #[] 33)) →
  V.ptr x_1 fun a9 =>
  ∃ m10, World.cell? w8 (Addr.add a9 2) = some (Value.map m10) ∧
  ∃ A11, ∃ A11l, ∃ A11c, ∃ w12, Sem.run Tryz.prog (Instr.lookup 70 (Value.map m10) (Value.int .i64 slot_2) false) w8 = .ok (Value.slice A11 A11l A11c) w12 ∧
  ∃ A13, ∃ A13l, ∃ A13c, ∃ w14, Sem.run Tryz.prog (Builtin.append_ #[22, 22] 22 #[(Value.slice (some ⟨Array.size (World.heap w7), 0, none⟩) 0 0), (Value.slice A11 A11l A11c)]) w12 = .ok (Value.slice A13 A13l A13c) w14 ∧
  R (Ending.returned (Value.tuple #[(Value.slice A13 A13l A13c), (Value.bool true)])) w14))) :
  Calls Tryz.prog 14 #[(Value.pointer x_1), (Value.int .i64 slot_2)] w R :=
  V.calls_of_R ⟨V.assoc [], V.assocP [], V.assocC [], V.assocS [], ⟨[], true⟩⟩ Tryz.func14 rfl (Eq.mp (by kernel_rfl) h)

end Go.Proofs.YtpipenkaaodlgaaGreatDoor
