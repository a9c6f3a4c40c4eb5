/- Normal forms of the program's functions, printed by a program of mine; the kernel checks each. -/
import Derived.Test.YtjlkdadafddodaaGreatDoorProg
import Derived.Test.YtjlkdadafddodaaGreatDoorV2
set_option linter.unusedVariables false
set_option maxRecDepth 100000
namespace Go.Proofs.YtjlkdadafddodaaGreatDoor
open Go

theorem bitset_Set_Count_nf (s_1 : Option Addr) (w : World) (R : Ending → World → Prop) (h :
  Calls Tryz.prog 41 #[(Value.pointer s_1)] w fun e3 w4 =>
  ∃ n2, e3 = Ending.returned (Value.int .i64 n2) ∧
  Calls Tryz.prog 58 #[(Value.pointer s_1), (Value.int .i64 n2)] w4 fun e6 w7 =>
  ∃ n5, e6 = Ending.returned (Value.int .i64 n5) ∧
  R (Ending.returned (Value.int .i64 n5)) w7) :
  Calls Tryz.prog 26 #[(Value.pointer s_1)] w R :=
  V.calls_of_R ⟨V.assoc [], V.assocP [], V.assocC [], V.assocS [], ⟨[], false⟩⟩ Tryz.func26 rfl (Eq.mp (by kernel_rfl) h)

theorem bitset_Set_OrWith_nf (s_1 : Option Addr) (t_2 : Option Addr) (w : World) (R : Ending → World → Prop) (h :
  V.sel (Option.isNone s_1)
  (R (Ending.returned undef) w)
  (V.ptr s_1 fun a3 =>
  ∃ A4, ∃ A4l, ∃ A4c, World.cell? w (Addr.add a3 1) = some (Value.slice A4 A4l A4c) ∧
  ∃ I5 : Int → World → Prop, ∃ μ6 : Int → World → Nat, I5 0 w ∧
  ∀ t13_7 (j8 : Nat → Value) (w9 : World), I5 t13_7 w9 →
  (V.sel (decide (t13_7 < ((A4l : Nat) : Int)))
  (∃ S10 : World → Prop, S10 (World.drew w9) ∧
  V.ptr s_1 fun a12 =>
  ∃ A13, ∃ A13l, ∃ A13c, (∀ w11, S10 w11 → World.cell? w11 (Addr.add a12 1) = some (Value.slice A13 A13l A13c)) ∧
  V.when (decide ((0 : Int) ≤ t13_7 ∧ (t13_7 : Int) < ((A13l : Nat) : Int))) (V.ptr A13 fun a14 =>
  ∃ n15, (∀ w11, S10 w11 → World.cell? w11 (Addr.add a14 ((Int.toNat t13_7) * 1)) = some (Value.int .u64 n15)) ∧
  Calls Tryz.prog 60 #[(Value.pointer t_2), (Value.int .i64 t13_7)] (World.drew w9) fun e17 w18 =>
  ∃ n16, e17 = Ending.returned (Value.int .u64 n16) ∧
  S10 w18 ∧
  V.when (decide ((0 : Int) ≤ t13_7 ∧ (t13_7 : Int) < ((A13l : Nat) : Int))) (V.ptr A13 fun a19 =>
  (∃ u20, World.cell? w18 (Addr.add (Addr.add a19 ((Int.toNat t13_7) * 1)) 0) = some u20) ∧ World.frozen? w18 (Addr.add (Addr.add a19 ((Int.toNat t13_7) * 1)) 0) = false ∧
  I5 (IntKind.wrap .i64 (t13_7 + 1)) (World.setCell w18 (Addr.add (Addr.add a19 ((Int.toNat t13_7) * 1)) 0) (Value.int .u64 (IntKind.wrap .u64 ((BitVec.toNat (BitVec.ofInt 64 n15 ||| BitVec.ofInt 64 n16) : Nat) : Int)))) ∧ μ6 (IntKind.wrap .i64 (t13_7 + 1)) (World.setCell w18 (Addr.add (Addr.add a19 ((Int.toNat t13_7) * 1)) 0) (Value.int .u64 (IntKind.wrap .u64 ((BitVec.toNat (BitVec.ofInt 64 n15 ||| BitVec.ofInt 64 n16) : Nat) : Int)))) < μ6 t13_7 w9)))
  (V.ptr s_1 fun a21 =>
  ∃ n22, World.cell? w9 (Addr.add a21 0) = some (Value.int .i64 n22) ∧
  V.sel ((Int.tmod n22 64) != 0)
  (V.ptr s_1 fun a23 =>
  ∃ A24, ∃ A24l, ∃ A24c, World.cell? w9 (Addr.add a23 1) = some (Value.slice A24 A24l A24c) ∧
  V.ptr s_1 fun a25 =>
  ∃ A26, ∃ A26l, ∃ A26c, World.cell? w9 (Addr.add a25 1) = some (Value.slice A26 A26l A26c) ∧
  V.when (decide ((0 : Int) ≤ (IntKind.wrap .i64 (((A26l : Nat) : Int) - 1)) ∧ ((IntKind.wrap .i64 (((A26l : Nat) : Int) - 1)) : Int) < ((A24l : Nat) : Int))) (V.ptr A24 fun a27 =>
  ∃ n28, World.cell? w9 (Addr.add a27 ((Int.toNat (IntKind.wrap .i64 (((A26l : Nat) : Int) - 1))) * 1)) = some (Value.int .u64 n28) ∧
  V.when (decide (0 ≤ (Int.tmod n22 64))) (V.when (decide ((0 : Int) ≤ (IntKind.wrap .i64 (((A26l : Nat) : Int) - 1)) ∧ ((IntKind.wrap .i64 (((A26l : Nat) : Int) - 1)) : Int) < ((A24l : Nat) : Int))) (V.ptr A24 fun a29 =>
  (∃ u30, World.cell? (World.drew w9) (Addr.add (Addr.add a29 ((Int.toNat (IntKind.wrap .i64 (((A26l : Nat) : Int) - 1))) * 1)) 0) = some u30) ∧ World.frozen? (World.drew w9) (Addr.add (Addr.add a29 ((Int.toNat (IntKind.wrap .i64 (((A26l : Nat) : Int) - 1))) * 1)) 0) = false ∧
  R (Ending.returned undef) (World.setCell (World.drew w9) (Addr.add (Addr.add a29 ((Int.toNat (IntKind.wrap .i64 (((A26l : Nat) : Int) - 1))) * 1)) 0) (Value.int .u64 (IntKind.wrap .u64 ((BitVec.toNat (BitVec.ofInt 64 n28 &&& BitVec.ofInt 64 (IntKind.wrap .u64 ((IntKind.wrap .u64 (1 * 2 ^ (min (Int.toNat (Int.tmod n22 64)) 64))) - 1))) : Nat) : Int))))))))
  (R (Ending.returned undef) w9))))) :
  Calls Tryz.prog 30 #[(Value.pointer s_1), (Value.pointer t_2)] w R :=
  V.calls_of_R ⟨V.assoc [(0, [13])], V.assocP [(4, V.line [0, 1, 2, 3, 4, 5, 6, 7, 8, 9, 10, 11, 12]), (8, V.line [0, 1, 2, 3, 4, 5, 6, 7, 8, 9, 10, 11, 12, 13, 14, 15, 16, 17])], V.assocC [], V.assocS [], ⟨[], false⟩⟩ Tryz.func30 rfl (Eq.mp (by kernel_rfl) h)

theorem bitset_Set_Add_nf (s_1 : Option Addr) (i_2 : Int) (w : World) (R : Ending → World → Prop) (h :
  Calls Tryz.prog 66 #[(Value.pointer s_1), (Value.int .i64 i_2)] w fun e4 w5 =>
  ∃ b3, e4 = Ending.returned (Value.bool b3) ∧
  V.sel (!b3)
  (R (Ending.returned (Value.bool false)) w5)
  (Calls Tryz.prog 57 #[(Value.pointer s_1), (Value.int .i64 i_2)] w5 fun e7 w8 =>
  ∃ b6, e7 = Ending.returned (Value.bool b6) ∧
  V.sel b6
  (R (Ending.returned (Value.bool false)) w8)
  (V.ptr s_1 fun a9 =>
  ∃ A10, ∃ A10l, ∃ A10c, World.cell? w8 (Addr.add a9 1) = some (Value.slice A10 A10l A10c) ∧
  V.when (decide ((0 : Int) ≤ (IntKind.wrap .i64 (Int.tdiv i_2 64)) ∧ ((IntKind.wrap .i64 (Int.tdiv i_2 64)) : Int) < ((A10l : Nat) : Int))) (V.ptr A10 fun a11 =>
  ∃ n12, World.cell? w8 (Addr.add a11 ((Int.toNat (IntKind.wrap .i64 (Int.tdiv i_2 64))) * 1)) = some (Value.int .u64 n12) ∧
  V.when (decide (0 ≤ (Int.tmod i_2 64))) (V.when (decide ((0 : Int) ≤ (IntKind.wrap .i64 (Int.tdiv i_2 64)) ∧ ((IntKind.wrap .i64 (Int.tdiv i_2 64)) : Int) < ((A10l : Nat) : Int))) (V.ptr A10 fun a13 =>
  (∃ u14, World.cell? (World.drew w8) (Addr.add (Addr.add a13 ((Int.toNat (IntKind.wrap .i64 (Int.tdiv i_2 64))) * 1)) 0) = some u14) ∧ World.frozen? (World.drew w8) (Addr.add (Addr.add a13 ((Int.toNat (IntKind.wrap .i64 (Int.tdiv i_2 64))) * 1)) 0) = false ∧
  R (Ending.returned (Value.bool true)) (World.setCell (World.drew w8) (Addr.add (Addr.add a13 ((Int.toNat (IntKind.wrap .i64 (Int.tdiv i_2 64))) * 1)) 0) (Value.int .u64 (IntKind.wrap .u64 ((BitVec.toNat (BitVec.ofInt 64 n12 ||| BitVec.ofInt 64 (IntKind.wrap .u64 (1 * 2 ^ (min (Int.toNat (Int.tmod i_2 64)) 64)))) : Nat) : Int)))))))))) :
  Calls Tryz.prog 40 #[(Value.pointer s_1), (Value.int .i64 i_2)] w R :=
  V.calls_of_R ⟨V.assoc [], V.assocP [(3, V.line [0, 1, 2, 3, 4, 5, 6, 7, 8, 9, 10, 11, 12, 13])], V.assocC [], V.assocS [], ⟨[], false⟩⟩ Tryz.func40 rfl (Eq.mp (by kernel_rfl) h)

theorem bitset_Set_Size_nf (s_1 : Option Addr) (w : World) (R : Ending → World → Prop) (h :
  V.sel (Option.isNone s_1)
  (R (Ending.returned (Value.int .i64 0)) w)
  (V.ptr s_1 fun a2 =>
  ∃ n3, World.cell? w (Addr.add a2 0) = some (Value.int .i64 n3) ∧
  R (Ending.returned (Value.int .i64 n3)) w)) :
  Calls Tryz.prog 41 #[(Value.pointer s_1)] w R :=
  V.calls_of_R ⟨V.assoc [], V.assocP [], V.assocC [], V.assocS [], ⟨[], false⟩⟩ Tryz.func41 rfl (Eq.mp (by kernel_rfl) h)

theorem bitset_AndNot_nf (a_1 : Option Addr) (b_2 : Option Addr) (w : World) (R : Ending → World → Prop) (h :
  Calls Tryz.prog 68 #[(Value.pointer a_1), (Value.pointer b_2), (Value.func (.func 69) #[] #[])] w fun e4 w5 =>
  ∃ p3, e4 = Ending.returned (Value.pointer p3) ∧
  R (Ending.returned (Value.pointer p3)) w5) :
  Calls Tryz.prog 44 #[(Value.pointer a_1), (Value.pointer b_2)] w R :=
  V.calls_of_R ⟨V.assoc [], V.assocP [], V.assocC [], V.assocS [], ⟨[], false⟩⟩ Tryz.func44 rfl (Eq.mp (by kernel_rfl) h)

theorem bitset_New_nf (n_1 : Int) (w : World) (R : Ending → World → Prop) (h :
  V.sel (decide (n_1 < 0))
  (R (Ending.returned (Value.tuple #[(Value.pointer none), (Value.int .i64 11)])) w)
  (V.sel (decide (n_1 > 65536))
  (R (Ending.returned (Value.tuple #[(Value.pointer none), (Value.int .i64 11)])) w)
  (Calls Tryz.prog 76 #[(Value.int .i64 n_1)] w fun e3 w4 =>
  ∃ p2, e3 = Ending.returned (Value.pointer p2) ∧
  R (Ending.returned (Value.tuple #[(Value.pointer p2), (Value.int .i64 0)])) w4))) :
  Calls Tryz.prog 53 #[(Value.int .i64 n_1)] w R :=
  V.calls_of_R ⟨V.assoc [], V.assocP [], V.assocC [], V.assocS [], ⟨[], false⟩⟩ Tryz.func53 rfl (Eq.mp (by kernel_rfl) h)

theorem bitset_Set_Has_nf (s_1 : Option Addr) (i_2 : Int) (w : World) (R : Ending → World → Prop) (h :
  Calls Tryz.prog 66 #[(Value.pointer s_1), (Value.int .i64 i_2)] w fun e4 w5 =>
  ∃ b3, e4 = Ending.returned (Value.bool b3) ∧
  V.sel b3
  (V.ptr s_1 fun a6 =>
  ∃ A7, ∃ A7l, ∃ A7c, World.cell? w5 (Addr.add a6 1) = some (Value.slice A7 A7l A7c) ∧
  V.when (decide ((0 : Int) ≤ (IntKind.wrap .i64 (Int.tdiv i_2 64)) ∧ ((IntKind.wrap .i64 (Int.tdiv i_2 64)) : Int) < ((A7l : Nat) : Int))) (V.ptr A7 fun a8 =>
  ∃ n9, World.cell? w5 (Addr.add a8 ((Int.toNat (IntKind.wrap .i64 (Int.tdiv i_2 64))) * 1)) = some (Value.int .u64 n9) ∧
  V.when (decide (0 ≤ (Int.tmod i_2 64))) (R (Ending.returned (Value.bool ((IntKind.wrap .u64 ((BitVec.toNat (BitVec.ofInt 64 (Int.fdiv n9 (2 ^ (min (Int.toNat (Int.tmod i_2 64)) 64))) &&& BitVec.ofInt 64 1) : Nat) : Int)) == 1))) w5)))
  (R (Ending.returned (Value.bool false)) w5)) :
  Calls Tryz.prog 57 #[(Value.pointer s_1), (Value.int .i64 i_2)] w R :=
  V.calls_of_R ⟨V.assoc [], V.assocP [], V.assocC [], V.assocS [], ⟨[], false⟩⟩ Tryz.func57 rfl (Eq.mp (by kernel_rfl) h)

theorem bitset_Set_Rank_nf (s_1 : Option Addr) (i_2 : Int) (w : World) (R : Ending → World → Prop) (h :
  Calls Tryz.prog 41 #[(Value.pointer s_1)] w fun e4 w5 =>
  ∃ n3, e4 = Ending.returned (Value.int .i64 n3) ∧
  V.sel (decide ((if n3 < i_2 then n3 else i_2) ≤ 0))
  (R (Ending.returned (Value.int .i64 0)) w5)
  (∃ I6 : Int → Int → World → Prop, ∃ μ7 : Int → Int → World → Nat, I6 0 0 w5 ∧
  ∀ n_8 t15_9 (j10 : Nat → Value) (w11 : World), I6 n_8 t15_9 w11 →
  (V.sel (decide (t15_9 < (IntKind.wrap .i64 (Int.tdiv (if n3 < i_2 then n3 else i_2) 64))))
  (V.ptr s_1 fun a12 =>
  ∃ A13, ∃ A13l, ∃ A13c, World.cell? w11 (Addr.add a12 1) = some (Value.slice A13 A13l A13c) ∧
  V.when (decide ((0 : Int) ≤ t15_9 ∧ (t15_9 : Int) < ((A13l : Nat) : Int))) (V.ptr A13 fun a14 =>
  ∃ n15, World.cell? w11 (Addr.add a14 ((Int.toNat t15_9) * 1)) = some (Value.int .u64 n15) ∧
  Calls Tryz.prog 79 #[(Value.int .u64 n15)] w11 fun e17 w18 =>
  ∃ n16, e17 = Ending.returned (Value.int .i64 n16) ∧
  I6 (IntKind.wrap .i64 (n_8 + n16)) (IntKind.wrap .i64 (t15_9 + 1)) w18 ∧ μ7 (IntKind.wrap .i64 (n_8 + n16)) (IntKind.wrap .i64 (t15_9 + 1)) w18 < μ7 n_8 t15_9 w11))
  (V.sel ((Int.tmod (if n3 < i_2 then n3 else i_2) 64) != 0)
  (V.ptr s_1 fun a19 =>
  ∃ A20, ∃ A20l, ∃ A20c, World.cell? w11 (Addr.add a19 1) = some (Value.slice A20 A20l A20c) ∧
  V.when (decide ((0 : Int) ≤ (IntKind.wrap .i64 (Int.tdiv (if n3 < i_2 then n3 else i_2) 64)) ∧ ((IntKind.wrap .i64 (Int.tdiv (if n3 < i_2 then n3 else i_2) 64)) : Int) < ((A20l : Nat) : Int))) (V.ptr A20 fun a21 =>
  ∃ n22, World.cell? w11 (Addr.add a21 ((Int.toNat (IntKind.wrap .i64 (Int.tdiv (if n3 < i_2 then n3 else i_2) 64))) * 1)) = some (Value.int .u64 n22) ∧
  V.when (decide (0 ≤ (IntKind.wrap .i64 (64 - (Int.tmod (if n3 < i_2 then n3 else i_2) 64))))) (Calls Tryz.prog 79 #[(Value.int .u64 (IntKind.wrap .u64 (n22 * 2 ^ (min (Int.toNat (IntKind.wrap .i64 (64 - (Int.tmod (if n3 < i_2 then n3 else i_2) 64)))) 64))))] w11 fun e24 w25 =>
  ∃ n23, e24 = Ending.returned (Value.int .i64 n23) ∧
  R (Ending.returned (Value.int .i64 (IntKind.wrap .i64 (n_8 + n23)))) w25)))
  (R (Ending.returned (Value.int .i64 n_8)) w11))))) :
  Calls Tryz.prog 58 #[(Value.pointer s_1), (Value.int .i64 i_2)] w R :=
  V.calls_of_R ⟨V.assoc [(0, [5, 15])], V.assocP [], V.assocC [], V.assocS [], ⟨[], false⟩⟩ Tryz.func58 rfl (Eq.mp (by kernel_rfl) h)

theorem bitset_Set_word_nf (s_1 : Option Addr) (w_2 : Int) (w : World) (R : Ending → World → Prop) (h :
  V.sel (Option.isNone s_1)
  (R (Ending.returned (Value.int .u64 0)) w)
  (V.ptr s_1 fun a3 =>
  ∃ A4, ∃ A4l, ∃ A4c, World.cell? w (Addr.add a3 1) = some (Value.slice A4 A4l A4c) ∧
  V.sel (decide (w_2 ≥ ((A4l : Nat) : Int)))
  (R (Ending.returned (Value.int .u64 0)) w)
  (V.ptr s_1 fun a5 =>
  ∃ A6, ∃ A6l, ∃ A6c, World.cell? w (Addr.add a5 1) = some (Value.slice A6 A6l A6c) ∧
  V.when (decide ((0 : Int) ≤ w_2 ∧ (w_2 : Int) < ((A6l : Nat) : Int))) (V.ptr A6 fun a7 =>
  ∃ n8, World.cell? w (Addr.add a7 ((Int.toNat w_2) * 1)) = some (Value.int .u64 n8) ∧
  R (Ending.returned (Value.int .u64 n8)) w)))) :
  Calls Tryz.prog 60 #[(Value.pointer s_1), (Value.int .i64 w_2)] w R :=
  V.calls_of_R ⟨V.assoc [], V.assocP [], V.assocC [], V.assocS [], ⟨[], false⟩⟩ Tryz.func60 rfl (Eq.mp (by kernel_rfl) h)

theorem bitset_Set_inside_nf (s_1 : Option Addr) (i_2 : Int) (w : World) (R : Ending → World → Prop) (h :
  V.sel (decide (i_2 ≥ 0))
  (Calls Tryz.prog 41 #[(Value.pointer s_1)] w fun e4 w5 =>
  ∃ n3, e4 = Ending.returned (Value.int .i64 n3) ∧
  R (Ending.returned (Value.bool (decide (i_2 < n3)))) w5)
  (R (Ending.returned (Value.bool false)) w)) :
  Calls Tryz.prog 66 #[(Value.pointer s_1), (Value.int .i64 i_2)] w R :=
  V.calls_of_R ⟨V.assoc [], V.assocP [], V.assocC [], V.assocS [], ⟨[], false⟩⟩ Tryz.func66 rfl (Eq.mp (by kernel_rfl) h)

theorem bitset_Set_Members_nf (s_1 : Option Addr) (w : World) (R : Ending → World → Prop) (h :
  Calls Tryz.prog 26 #[(Value.pointer s_1)] w fun e3 w4 =>
  ∃ n2, e3 = Ending.returned (Value.int .i64 n2) ∧
  V.when (decide ((0 : Int) ≤ 0 ∧ (0 : Int) ≤ n2 ∧ (n2 : Int) ≤ 281474976710656 ∧ (8 : Int) * n2 ≤ 281474976710656)) (Calls Tryz.prog 41 #[(Value.pointer s_1)] (World.alloc w4 (.cells ⟨V.rep (Int.toNat n2) [(Value.int .i64 0)]⟩ 3)) fun e6 w7 =>
  ∃ n5, e6 = Ending.returned (Value.int .i64 n5) ∧
  ∃ I8 : Option Addr → Nat → Nat → Int → World → Prop, ∃ μ9 : Option Addr → Nat → Nat → Int → World → Nat, I8 (some ⟨Array.size (World.heap w4), 0, none⟩) 0 (Int.toNat n2) 0 w7 ∧
  ∀ out_10 out_10l out_10c t10_11 (j12 : Nat → Value) (w13 : World), I8 out_10 out_10l out_10c t10_11 w13 →
  (V.sel (decide (t10_11 < n5))
  (Calls Tryz.prog 57 #[(Value.pointer s_1), (Value.int .i64 t10_11)] w13 fun e15 w16 =>
  ∃ b14, e15 = Ending.returned (Value.bool b14) ∧
  V.sel b14
  (∃ A17, ∃ A17l, ∃ A17c, ∃ w18, Sem.run Tryz.prog (Builtin.append_ #[23, 23] 23 #[(Value.slice out_10 out_10l out_10c), (Value.slice (some ⟨Array.size (World.heap w16), 0, none⟩) 1 1)]) (World.alloc w16 (.cells #[(Value.int .i64 t10_11)] 3)) = .ok (Value.slice A17 A17l A17c) w18 ∧
  I8 A17 A17l A17c (IntKind.wrap .i64 (t10_11 + 1)) w18 ∧ μ9 A17 A17l A17c (IntKind.wrap .i64 (t10_11 + 1)) w18 < μ9 out_10 out_10l out_10c t10_11 w13)
  (I8 out_10 out_10l out_10c (IntKind.wrap .i64 (t10_11 + 1)) w16 ∧ μ9 out_10 out_10l out_10c (IntKind.wrap .i64 (t10_11 + 1)) w16 < μ9 out_10 out_10l out_10c t10_11 w13))
  (R (Ending.returned (Value.slice out_10 out_10l out_10c)) w13)))) :
  Calls Tryz.prog 67 #[(Value.pointer s_1)] w R :=
  V.calls_of_R ⟨V.assoc [(0, [3, 10])], V.assocP [], V.assocC [], V.assocS [], ⟨[], false⟩⟩ Tryz.func67 rfl (Eq.mp (by kernel_rfl) h)

theorem bitset_joined_nf (a_1 : Option Addr) (b_2 : Option Addr) (one_f3 : Nat) (one_a4 : Array Value) (one_c5 : Array Value) (w : World) (R : Ending → World → Prop) (h :
  Calls Tryz.prog 41 #[(Value.pointer a_1)] w fun e7 w8 =>
  ∃ n6, e7 = Ending.returned (Value.int .i64 n6) ∧
  Calls Tryz.prog 41 #[(Value.pointer b_2)] w8 fun e10 w11 =>
  ∃ n9, e10 = Ending.returned (Value.int .i64 n9) ∧
  Calls Tryz.prog 76 #[(Value.int .i64 (if n9 > n6 then n9 else n6))] w11 fun e13 w14 =>
  ∃ p12, e13 = Ending.returned (Value.pointer p12) ∧
  V.ptr p12 fun a15 =>
  ∃ A16, ∃ A16l, ∃ A16c, World.cell? w14 (Addr.add a15 1) = some (Value.slice A16 A16l A16c) ∧
  ∃ I17 : Int → World → Prop, ∃ μ18 : Int → World → Nat, I17 0 w14 ∧
  ∀ t20_19 (j20 : Nat → Value) (w21 : World), I17 t20_19 w21 →
  (V.sel (decide (t20_19 < ((A16l : Nat) : Int)))
  (∃ S22 : World → Prop, S22 (World.drew w21) ∧
  V.ptr p12 fun a24 =>
  ∃ A25, ∃ A25l, ∃ A25c, (∀ w23, S22 w23 → World.cell? w23 (Addr.add a24 1) = some (Value.slice A25 A25l A25c)) ∧
  Calls Tryz.prog 60 #[(Value.pointer a_1), (Value.int .i64 t20_19)] (World.drew w21) fun e27 w28 =>
  ∃ n26, e27 = Ending.returned (Value.int .u64 n26) ∧
  S22 w28 ∧
  Calls Tryz.prog 60 #[(Value.pointer b_2), (Value.int .i64 t20_19)] w28 fun e30 w31 =>
  ∃ n29, e30 = Ending.returned (Value.int .u64 n29) ∧
  S22 w31 ∧
  V.when (V.hasB Tryz.prog one_f3) (Calls Tryz.prog one_f3 ⟨Array.toList one_a4 ++ [(Value.int .u64 n26), (Value.int .u64 n29)] ++ Array.toList one_c5⟩ w31 fun e33 w34 =>
  ∃ n32, e33 = Ending.returned (Value.int .u64 n32) ∧
  S22 w34 ∧
  V.when (decide ((0 : Int) ≤ t20_19 ∧ (t20_19 : Int) < ((A25l : Nat) : Int))) (V.ptr A25 fun a35 =>
  (∃ u36, World.cell? w34 (Addr.add (Addr.add a35 ((Int.toNat t20_19) * 1)) 0) = some u36) ∧ World.frozen? w34 (Addr.add (Addr.add a35 ((Int.toNat t20_19) * 1)) 0) = false ∧
  I17 (IntKind.wrap .i64 (t20_19 + 1)) (World.setCell w34 (Addr.add (Addr.add a35 ((Int.toNat t20_19) * 1)) 0) (Value.int .u64 n32)) ∧ μ18 (IntKind.wrap .i64 (t20_19 + 1)) (World.setCell w34 (Addr.add (Addr.add a35 ((Int.toNat t20_19) * 1)) 0) (Value.int .u64 n32)) < μ18 t20_19 w21)))
  (R (Ending.returned (Value.pointer p12)) w21))) :
  Calls Tryz.prog 68 #[(Value.pointer a_1), (Value.pointer b_2), (Value.func (.func one_f3) one_a4 one_c5)] w R :=
  V.calls_of_R ⟨V.assoc [(0, [20])], V.assocP [(5, V.line [0, 1, 2, 3, 4, 5, 6, 7, 9, 10, 8, 11, 12, 13, 14])], V.assocC [], V.assocS [], ⟨[], false⟩⟩ Tryz.func68 rfl (Eq.mp (by kernel_rfl) h)

theorem bitset_AndNot_l1_nf (x_1 : Int) (y_2 : Int) (w : World) (R : Ending → World → Prop) (h :
  V.lt (IntKind.wrap .u64 ((BitVec.toNat (BitVec.ofInt 64 x_1 &&& ~~~(BitVec.ofInt 64 y_2)) : Nat) : Int)) fun x3 =>
  R (Ending.returned (Value.int .u64 x3)) w) :
  Calls Tryz.prog 69 #[(Value.int .u64 x_1), (Value.int .u64 y_2)] w R :=
  V.calls_of_R ⟨V.assoc [], V.assocP [], V.assocC [], V.assocS [], ⟨[], false⟩⟩ Tryz.func69 rfl (Eq.mp (by kernel_rfl) h)

theorem bitset_Set_Remove_nf (s_1 : Option Addr) (i_2 : Int) (w : World) (R : Ending → World → Prop) (h :
  Calls Tryz.prog 57 #[(Value.pointer s_1), (Value.int .i64 i_2)] w fun e4 w5 =>
  ∃ b3, e4 = Ending.returned (Value.bool b3) ∧
  V.sel (!b3)
  (R (Ending.returned (Value.bool false)) w5)
  (V.ptr s_1 fun a6 =>
  ∃ A7, ∃ A7l, ∃ A7c, World.cell? w5 (Addr.add a6 1) = some (Value.slice A7 A7l A7c) ∧
  V.when (decide ((0 : Int) ≤ (IntKind.wrap .i64 (Int.tdiv i_2 64)) ∧ ((IntKind.wrap .i64 (Int.tdiv i_2 64)) : Int) < ((A7l : Nat) : Int))) (V.ptr A7 fun a8 =>
  ∃ n9, World.cell? w5 (Addr.add a8 ((Int.toNat (IntKind.wrap .i64 (Int.tdiv i_2 64))) * 1)) = some (Value.int .u64 n9) ∧
  V.when (decide (0 ≤ (Int.tmod i_2 64))) (V.when (decide ((0 : Int) ≤ (IntKind.wrap .i64 (Int.tdiv i_2 64)) ∧ ((IntKind.wrap .i64 (Int.tdiv i_2 64)) : Int) < ((A7l : Nat) : Int))) (V.ptr A7 fun a10 =>
  (∃ u11, World.cell? (World.drew w5) (Addr.add (Addr.add a10 ((Int.toNat (IntKind.wrap .i64 (Int.tdiv i_2 64))) * 1)) 0) = some u11) ∧ World.frozen? (World.drew w5) (Addr.add (Addr.add a10 ((Int.toNat (IntKind.wrap .i64 (Int.tdiv i_2 64))) * 1)) 0) = false ∧
  R (Ending.returned (Value.bool true)) (World.setCell (World.drew w5) (Addr.add (Addr.add a10 ((Int.toNat (IntKind.wrap .i64 (Int.tdiv i_2 64))) * 1)) 0) (Value.int .u64 (IntKind.wrap .u64 ((BitVec.toNat (BitVec.ofInt 64 n9 &&& ~~~(BitVec.ofInt 64 (IntKind.wrap .u64 (1 * 2 ^ (min (Int.toNat (Int.tmod i_2 64)) 64))))) : Nat) : Int))))))))) :
  Calls Tryz.prog 71 #[(Value.pointer s_1), (Value.int .i64 i_2)] w R :=
  V.calls_of_R ⟨V.assoc [], V.assocP [(3, V.line [0, 1, 2, 3, 4, 5, 6, 7, 8, 9, 10, 11, 12, 13])], V.assocC [], V.assocS [], ⟨[], false⟩⟩ Tryz.func71 rfl (Eq.mp (by kernel_rfl) h)

theorem bitset_blank_nf (n_1 : Int) (w : World) (R : Ending → World → Prop) (h :
  Calls Tryz.prog 88 #[(Value.int .i64 n_1)] w fun e3 w4 =>
  ∃ n2, e3 = Ending.returned (Value.int .i64 n2) ∧
  V.when (decide ((0 : Int) ≤ n2 ∧ (n2 : Int) ≤ n2 ∧ (n2 : Int) ≤ 281474976710656 ∧ (8 : Int) * n2 ≤ 281474976710656)) (R (Ending.returned (Value.pointer (some ⟨Array.size (World.heap (World.alloc w4 (.cells ⟨V.rep (Int.toNat n2) [(Value.int .u64 0)]⟩ 111))), 0, none⟩))) (World.alloc (World.alloc w4 (.cells ⟨V.rep (Int.toNat n2) [(Value.int .u64 0)]⟩ 111)) (.cells #[(Value.int .i64 n_1), (Value.slice (some ⟨Array.size (World.heap w4), 0, none⟩) (Int.toNat n2) (Int.toNat n2))] 110)))) :
  Calls Tryz.prog 76 #[(Value.int .i64 n_1)] w R :=
  V.calls_of_R ⟨V.assoc [], V.assocP [], V.assocC [], V.assocS [], ⟨[], false⟩⟩ Tryz.func76 rfl (Eq.mp (by kernel_rfl) h)

theorem bitset_Set_AndNotWith_nf (s_1 : Option Addr) (t_2 : Option Addr) (w : World) (R : Ending → World → Prop) (h :
  V.sel (Option.isNone s_1)
  (R (Ending.returned undef) w)
  (V.ptr s_1 fun a3 =>
  ∃ A4, ∃ A4l, ∃ A4c, World.cell? w (Addr.add a3 1) = some (Value.slice A4 A4l A4c) ∧
  ∃ I5 : Int → World → Prop, ∃ μ6 : Int → World → Nat, I5 0 w ∧
  ∀ t12_7 (j8 : Nat → Value) (w9 : World), I5 t12_7 w9 →
  (V.sel (decide (t12_7 < ((A4l : Nat) : Int)))
  (∃ S10 : World → Prop, S10 (World.drew w9) ∧
  V.ptr s_1 fun a12 =>
  ∃ A13, ∃ A13l, ∃ A13c, (∀ w11, S10 w11 → World.cell? w11 (Addr.add a12 1) = some (Value.slice A13 A13l A13c)) ∧
  V.when (decide ((0 : Int) ≤ t12_7 ∧ (t12_7 : Int) < ((A13l : Nat) : Int))) (V.ptr A13 fun a14 =>
  ∃ n15, (∀ w11, S10 w11 → World.cell? w11 (Addr.add a14 ((Int.toNat t12_7) * 1)) = some (Value.int .u64 n15)) ∧
  Calls Tryz.prog 60 #[(Value.pointer t_2), (Value.int .i64 t12_7)] (World.drew w9) fun e17 w18 =>
  ∃ n16, e17 = Ending.returned (Value.int .u64 n16) ∧
  S10 w18 ∧
  V.when (decide ((0 : Int) ≤ t12_7 ∧ (t12_7 : Int) < ((A13l : Nat) : Int))) (V.ptr A13 fun a19 =>
  (∃ u20, World.cell? w18 (Addr.add (Addr.add a19 ((Int.toNat t12_7) * 1)) 0) = some u20) ∧ World.frozen? w18 (Addr.add (Addr.add a19 ((Int.toNat t12_7) * 1)) 0) = false ∧
  I5 (IntKind.wrap .i64 (t12_7 + 1)) (World.setCell w18 (Addr.add (Addr.add a19 ((Int.toNat t12_7) * 1)) 0) (Value.int .u64 (IntKind.wrap .u64 ((BitVec.toNat (BitVec.ofInt 64 n15 &&& ~~~(BitVec.ofInt 64 n16)) : Nat) : Int)))) ∧ μ6 (IntKind.wrap .i64 (t12_7 + 1)) (World.setCell w18 (Addr.add (Addr.add a19 ((Int.toNat t12_7) * 1)) 0) (Value.int .u64 (IntKind.wrap .u64 ((BitVec.toNat (BitVec.ofInt 64 n15 &&& ~~~(BitVec.ofInt 64 n16)) : Nat) : Int)))) < μ6 t12_7 w9)))
  (R (Ending.returned undef) w9)))) :
  Calls Tryz.prog 77 #[(Value.pointer s_1), (Value.pointer t_2)] w R :=
  V.calls_of_R ⟨V.assoc [(0, [12])], V.assocP [(4, V.line [0, 1, 2, 3, 4, 5, 6, 7, 8, 9, 10, 11, 12])], V.assocC [], V.assocS [], ⟨[], false⟩⟩ Tryz.func77 rfl (Eq.mp (by kernel_rfl) h)

theorem bitset_Set_Clone_nf (s_1 : Option Addr) (w : World) (R : Ending → World → Prop) (h :
  Calls Tryz.prog 41 #[(Value.pointer s_1)] w fun e3 w4 =>
  ∃ n2, e3 = Ending.returned (Value.int .i64 n2) ∧
  Calls Tryz.prog 76 #[(Value.int .i64 n2)] w4 fun e6 w7 =>
  ∃ p5, e6 = Ending.returned (Value.pointer p5) ∧
  V.ptr p5 fun a8 =>
  ∃ A9, ∃ A9l, ∃ A9c, World.cell? w7 (Addr.add a8 1) = some (Value.slice A9 A9l A9c) ∧
  ∃ I10 : Int → World → Prop, ∃ μ11 : Int → World → Nat, I10 0 w7 ∧
  ∀ t13_12 (j13 : Nat → Value) (w14 : World), I10 t13_12 w14 →
  (V.sel (decide (t13_12 < ((A9l : Nat) : Int)))
  (V.ptr p5 fun a15 =>
  ∃ A16, ∃ A16l, ∃ A16c, World.cell? w14 (Addr.add a15 1) = some (Value.slice A16 A16l A16c) ∧
  V.ptr s_1 fun a17 =>
  ∃ A18, ∃ A18l, ∃ A18c, World.cell? w14 (Addr.add a17 1) = some (Value.slice A18 A18l A18c) ∧
  V.when (decide ((0 : Int) ≤ t13_12 ∧ (t13_12 : Int) < ((A18l : Nat) : Int))) (V.ptr A18 fun a19 =>
  ∃ n20, World.cell? w14 (Addr.add a19 ((Int.toNat t13_12) * 1)) = some (Value.int .u64 n20) ∧
  V.when (decide ((0 : Int) ≤ t13_12 ∧ (t13_12 : Int) < ((A16l : Nat) : Int))) (V.ptr A16 fun a21 =>
  (∃ u22, World.cell? (World.drew w14) (Addr.add (Addr.add a21 ((Int.toNat t13_12) * 1)) 0) = some u22) ∧ World.frozen? (World.drew w14) (Addr.add (Addr.add a21 ((Int.toNat t13_12) * 1)) 0) = false ∧
  I10 (IntKind.wrap .i64 (t13_12 + 1)) (World.setCell (World.drew w14) (Addr.add (Addr.add a21 ((Int.toNat t13_12) * 1)) 0) (Value.int .u64 n20)) ∧ μ11 (IntKind.wrap .i64 (t13_12 + 1)) (World.setCell (World.drew w14) (Addr.add (Addr.add a21 ((Int.toNat t13_12) * 1)) 0) (Value.int .u64 n20)) < μ11 t13_12 w14)))
  (R (Ending.returned (Value.pointer p5)) w14))) :
  Calls Tryz.prog 78 #[(Value.pointer s_1)] w R :=
  V.calls_of_R ⟨V.assoc [(0, [13])], V.assocP [(5, V.line [0, 1, 2, 3, 4, 5, 6, 7, 8, 9, 10, 11, 12, 13])], V.assocC [], V.assocS [], ⟨[], false⟩⟩ Tryz.func78 rfl (Eq.mp (by kernel_rfl) h)

theorem math_bits_OnesCount64_nf (x_1 : Int) (w : World) (R : Ending → World → Prop) (h :
  V.lt (IntKind.wrap .u64 ((IntKind.wrap .u64 ((BitVec.toNat (BitVec.ofInt 64 (Int.fdiv x_1 (2 ^ 1)) &&& BitVec.ofInt 64 6148914691236517205) : Nat) : Int)) + (IntKind.wrap .u64 ((BitVec.toNat (BitVec.ofInt 64 x_1 &&& BitVec.ofInt 64 6148914691236517205) : Nat) : Int)))) fun x2 =>
  V.lt (IntKind.wrap .u64 ((IntKind.wrap .u64 ((BitVec.toNat (BitVec.ofInt 64 (Int.fdiv x2 (2 ^ 2)) &&& BitVec.ofInt 64 3689348814741910323) : Nat) : Int)) + (IntKind.wrap .u64 ((BitVec.toNat (BitVec.ofInt 64 x2 &&& BitVec.ofInt 64 3689348814741910323) : Nat) : Int)))) fun x3 =>
  V.lt (IntKind.wrap .u64 ((BitVec.toNat (BitVec.ofInt 64 (IntKind.wrap .u64 ((Int.fdiv x3 (2 ^ 4)) + x3)) &&& BitVec.ofInt 64 1085102592571150095) : Nat) : Int)) fun x4 =>
  V.lt (IntKind.wrap .u64 (x4 + (Int.fdiv x4 (2 ^ 8)))) fun x5 =>
  V.lt (IntKind.wrap .u64 (x5 + (Int.fdiv x5 (2 ^ 16)))) fun x6 =>
  V.lt (IntKind.wrap .u64 (x6 + (Int.fdiv x6 (2 ^ 32)))) fun x7 =>
  V.lt (IntKind.wrap .i64 ((BitVec.toNat (BitVec.ofInt 64 (IntKind.wrap .i64 (x7)) &&& BitVec.ofInt 64 127) : Nat) : Int)) fun x8 =>
  R (Ending.returned (Value.int .i64 x8)) w) :
  Calls Tryz.prog 79 #[(Value.int .u64 x_1)] w R :=
  V.calls_of_R ⟨V.assoc [], V.assocP [], V.assocC [], V.assocS [], ⟨[], false⟩⟩ Tryz.func79 rfl (Eq.mp (by kernel_rfl) h)

theorem bitset_Equal_nf (a_1 : Option Addr) (b_2 : Option Addr) (w : World) (R : Ending → World → Prop) (h :
  Calls Tryz.prog 105 #[(Value.pointer a_1), (Value.pointer b_2)] w fun e4 w5 =>
  ∃ n3, e4 = Ending.returned (Value.int .i64 n3) ∧
  ∃ I6 : Int → World → Prop, ∃ μ7 : Int → World → Nat, I6 0 w5 ∧
  ∀ t9_8 (j9 : Nat → Value) (w10 : World), I6 t9_8 w10 →
  (V.sel (decide (t9_8 < n3))
  (Calls Tryz.prog 60 #[(Value.pointer a_1), (Value.int .i64 t9_8)] w10 fun e12 w13 =>
  ∃ n11, e12 = Ending.returned (Value.int .u64 n11) ∧
  Calls Tryz.prog 60 #[(Value.pointer b_2), (Value.int .i64 t9_8)] w13 fun e15 w16 =>
  ∃ n14, e15 = Ending.returned (Value.int .u64 n14) ∧
  V.sel (n11 != n14)
  (R (Ending.returned (Value.bool false)) w16)
  (I6 (IntKind.wrap .i64 (t9_8 + 1)) w16 ∧ μ7 (IntKind.wrap .i64 (t9_8 + 1)) w16 < μ7 t9_8 w10))
  (R (Ending.returned (Value.bool true)) w10))) :
  Calls Tryz.prog 87 #[(Value.pointer a_1), (Value.pointer b_2)] w R :=
  V.calls_of_R ⟨V.assoc [(0, [9])], V.assocP [], V.assocC [], V.assocS [], ⟨[], false⟩⟩ Tryz.func87 rfl (Eq.mp (by kernel_rfl) h)

theorem bitset_wordCount_nf (n_1 : Int) (w : World) (R : Ending → World → Prop) (h :
  V.lt (IntKind.wrap .i64 (Int.tdiv (IntKind.wrap .i64 (n_1 + 63)) 64)) fun x2 =>
  R (Ending.returned (Value.int .i64 x2)) w) :
  Calls Tryz.prog 88 #[(Value.int .i64 n_1)] w R :=
  V.calls_of_R ⟨V.assoc [], V.assocP [], V.assocC [], V.assocS [], ⟨[], false⟩⟩ Tryz.func88 rfl (Eq.mp (by kernel_rfl) h)

theorem bitset_spanOf_nf (a_1 : Option Addr) (b_2 : Option Addr) (w : World) (R : Ending → World → Prop) (h :
  Calls Tryz.prog 41 #[(Value.pointer a_1)] w fun e4 w5 =>
  ∃ n3, e4 = Ending.returned (Value.int .i64 n3) ∧
  Calls Tryz.prog 41 #[(Value.pointer b_2)] w5 fun e7 w8 =>
  ∃ n6, e7 = Ending.returned (Value.int .i64 n6) ∧
  Calls Tryz.prog 88 #[(Value.int .i64 (if n6 > n3 then n6 else n3))] w8 fun e10 w11 =>
  ∃ n9, e10 = Ending.returned (Value.int .i64 n9) ∧
  R (Ending.returned (Value.int .i64 n9)) w11) :
  Calls Tryz.prog 105 #[(Value.pointer a_1), (Value.pointer b_2)] w R :=
  V.calls_of_R ⟨V.assoc [], V.assocP [], V.assocC [], V.assocS [], ⟨[], false⟩⟩ Tryz.func105 rfl (Eq.mp (by kernel_rfl) h)

theorem berthlaw08_OrderedMemory_nf (script_1 : Option Addr) (script_1l : Nat) (script_1c : Nat) (ns_2 : Option Addr) (ns_2l : Nat) (ns_2c : Nat) (w : World) (R : Ending → World → Prop) (h :
  Calls Tryz.prog 4 #[] w fun e4 w5 =>
  ∃ b3, e4 = Ending.returned (Value.bool b3) ∧
  V.sel (!b3)
  (R (Ending.returned (Value.bool false)) w5)
  (Calls Tryz.prog 5 #[] w5 fun e8 w9 =>
  ∃ p6, ∃ b7, e8 = Ending.returned (Value.tuple #[(Value.pointer p6), (Value.bool b7)]) ∧
  V.sel (!b7)
  (R (Ending.returned (Value.bool false)) w9)
  (∃ I10 : Int → World → Prop, ∃ μ11 : Int → World → Nat, I10 0 w9 ∧
  ∀ t27_12 (j13 : Nat → Value) (w14 : World), I10 t27_12 w14 →
  (V.sel (decide (t27_12 < ((script_1l : Nat) : Int)))
  (V.when (decide ((0 : Int) ≤ t27_12 ∧ (t27_12 : Int) < ((script_1l : Nat) : Int))) (V.ptr script_1 fun a15 =>
  ∃ n16, ∃ n17, ∃ n18, ∃ s19, ∃ n20, ∃ n21, ∃ n22, ∃ A23, ∃ A23l, ∃ A23c, V.cellsC (fun a_ x_ => World.cell? w14 a_ = some x_) (Addr.add a15 ((Int.toNat t27_12) * 8)) [(Value.int .i64 n16), (Value.int .i64 n17), (Value.int .i64 n18), (Value.string s19), (Value.int .i64 n20), (Value.int .i64 n21), (Value.int .i64 n22), (Value.slice A23 A23l A23c)] ∧
  ∀ w24, w24 = (World.alloc w14 (.cells #[(Value.int .i64 0), (Value.int .i64 0), (Value.int .i64 0), (Value.string ByteArray.empty), (Value.int .i64 0), (Value.int .i64 0), (Value.int .i64 0), (Value.slice none 0 0)] 29)) →
  ∃ w25, Sem.run Tryz.prog (Instr.storeAt 29 (Value.pointer (some ⟨Array.size (World.heap w14), 0, none⟩)) (Value.agg #[(Value.int .i64 n16), (Value.int .i64 n17), (Value.int .i64 n18), (Value.string s19), (Value.int .i64 n20), (Value.int .i64 n21), (Value.int .i64 n22), (Value.slice A23 A23l A23c)])) w24 = .ok () w25 ∧
  ∃ n26, World.cell? w25 (Addr.add ⟨Array.size (World.heap w14), 0, none⟩ 0) = some (Value.int .i64 n26) ∧
  V.sel (decide (n26 ≤ 3))
  (∃ n27, ∃ n28, ∃ n29, ∃ s30, ∃ n31, ∃ n32, ∃ n33, ∃ A34, ∃ A34l, ∃ A34c, V.cellsC (fun a_ x_ => World.cell? w25 a_ = some x_) ⟨Array.size (World.heap w14), 0, none⟩ [(Value.int .i64 n27), (Value.int .i64 n28), (Value.int .i64 n29), (Value.string s30), (Value.int .i64 n31), (Value.int .i64 n32), (Value.int .i64 n33), (Value.slice A34 A34l A34c)] ∧
  Calls Tryz.prog 6 #[(Value.pointer p6), (Value.agg #[(Value.int .i64 n27), (Value.int .i64 n28), (Value.int .i64 n29), (Value.string s30), (Value.int .i64 n31), (Value.int .i64 n32), (Value.int .i64 n33), (Value.slice A34 A34l A34c)])] w25 fun e36 w37 =>
  ∃ b35, e36 = Ending.returned (Value.bool b35) ∧
  V.sel (!b35)
  (R (Ending.returned (Value.bool false)) w37)
  (I10 (IntKind.wrap .i64 (t27_12 + 1)) w37 ∧ μ11 (IntKind.wrap .i64 (t27_12 + 1)) w37 < μ11 t27_12 w14))
  (I10 (IntKind.wrap .i64 (t27_12 + 1)) w25 ∧ μ11 (IntKind.wrap .i64 (t27_12 + 1)) w25 < μ11 t27_12 w14)))
  (V.when (decide ((0 : Int) ≤ 0 ∧ (0 : Int) ≤ (IntKind.wrap .i64 (((ns_2l : Nat) : Int) + 8)) ∧ ((IntKind.wrap .i64 (((ns_2l : Nat) : Int) + 8)) : Int) ≤ 281474976710656 ∧ (8 : Int) * (IntKind.wrap .i64 (((ns_2l : Nat) : Int) + 8)) ≤ 281474976710656)) (∀ w38, w38 = (World.alloc w14 (.cells ⟨V.rep (Int.toNat (IntKind.wrap .i64 (((ns_2l : Nat) : Int) + 8))) [(Value.int .i64 0)]⟩ 3)) →
  ∃ A39, ∃ A39l, ∃ A39c, ∃ w40, Sem.run Tryz.prog (Builtin.append_ #[23, 23] 23 #[(Value.slice (some ⟨Array.size (World.heap w14), 0, none⟩) 0 (Int.toNat (IntKind.wrap .i64 (((ns_2l : Nat) : Int) + 8)))), (Value.slice ns_2 ns_2l ns_2c)]) w38 = .ok (Value.slice A39 A39l A39c) w40 ∧
  ∀ w41, w41 = (World.alloc w40 (.cells #[(Value.int .i64 7), (Value.int .i64 77), (Value.int .i64 777), (Value.int .i64 7777)] 3)) →
  ∃ A42, ∃ A42l, ∃ A42c, ∃ w43, Sem.run Tryz.prog (Builtin.append_ #[23, 23] 23 #[(Value.slice A39 A39l A39c), (Value.slice (some ⟨Array.size (World.heap w40), 0, none⟩) 4 4)]) w41 = .ok (Value.slice A42 A42l A42c) w43 ∧
  V.when (decide ((0 : Int) ≤ ((ns_2l : Nat) : Int) ∧ (((ns_2l : Nat) : Int) : Int) ≤ ((A42c : Nat) : Int))) (∃ I44 : Int → World → Prop, ∃ μ45 : Int → World → Nat, I44 0 w43 ∧
  ∀ t53_46 (j47 : Nat → Value) (w48 : World), I44 t53_46 w48 →
  (V.sel (decide (t53_46 < 4))
  (V.ptr p6 fun a49 =>
  V.when (decide ((0 : Int) ≤ t53_46 ∧ (t53_46 : Int) < 4)) (∃ n50, ∃ A51, ∃ A51l, ∃ A51c, V.cellsC (fun a_ x_ => World.cell? w48 a_ = some x_) (Addr.add (Addr.add a49 4) ((Int.toNat t53_46) * 2)) [(Value.int .i64 n50), (Value.slice A51 A51l A51c)] ∧
  Calls Tryz.prog 7 #[(Value.agg #[(Value.int .i64 n50), (Value.slice A51 A51l A51c)])] w48 fun e53 w54 =>
  ∃ A52, ∃ A52l, ∃ A52c, e53 = Ending.returned (Value.slice A52 A52l A52c) ∧
  ∀ w55, w55 = (World.alloc w54 (.cells #[(Value.string ⟨#[110, 111, 110, 101]⟩)] 9)) →
  ∃ A56, ∃ A56l, ∃ A56c, ∃ w57, Sem.run Tryz.prog (Builtin.append_ #[33, 33] 33 #[(Value.slice A52 A52l A52c), (Value.slice (some ⟨Array.size (World.heap w54), 0, none⟩) 1 1)]) w55 = .ok (Value.slice A56 A56l A56c) w57 ∧
  ∃ I58 : Int → World → Prop, ∃ μ59 : Int → World → Nat, I58 0 w57 ∧
  ∀ t66_60 (j61 : Nat → Value) (w62 : World), I58 t66_60 w62 →
  (V.sel (decide (t66_60 < ((A56l : Nat) : Int)))
  (V.when (decide ((0 : Int) ≤ t66_60 ∧ (t66_60 : Int) < ((A56l : Nat) : Int))) (V.ptr A56 fun a63 =>
  ∃ s64, World.cell? w62 (Addr.add a63 ((Int.toNat t66_60) * 1)) = some (Value.string s64) ∧
  Calls Tryz.prog 8 #[(Value.pointer p6), (Value.int .i64 t53_46), (Value.string s64), (Value.slice (V.cut A42 A42c 0 1) ((ns_2l : Nat) - 0) (A42c - 0))] w62 fun e66 w67 =>
  ∃ b65, e66 = Ending.returned (Value.bool b65) ∧
  V.sel (!b65)
  (R (Ending.returned (Value.bool false)) w67)
  (∃ I68 : Int → World → Prop, ∃ μ69 : Int → World → Nat, I68 0 w67 ∧
  ∀ t78_70 (j71 : Nat → Value) (w72 : World), I68 t78_70 w72 →
  (V.sel (decide (t78_70 < ((((ns_2l : Nat) - 0) : Nat) : Int)))
  (V.when (decide ((0 : Int) ≤ t78_70 ∧ (t78_70 : Int) < ((((ns_2l : Nat) - 0) : Nat) : Int))) (V.ptr (V.cut A42 A42c 0 1) fun a73 =>
  ∃ n74, World.cell? w72 (Addr.add a73 ((Int.toNat t78_70) * 1)) = some (Value.int .i64 n74) ∧
  V.when (decide ((0 : Int) ≤ t78_70 ∧ (t78_70 : Int) < ((((ns_2l : Nat) - 0) : Nat) : Int))) (V.ptr (V.cut A42 A42c 0 1) fun a75 =>
  ∃ w76, Sem.run Tryz.prog (Instr.storeAt 3 (Value.pointer (some (Addr.add a75 ((Int.toNat t78_70) * 1)))) (Value.int .i64 (IntKind.wrap .i64 ((BitVec.toNat (BitVec.ofInt 64 n74 ^^^ BitVec.ofInt 64 1) : Nat) : Int)))) w72 = .ok () w76 ∧
  I68 (IntKind.wrap .i64 (t78_70 + 1)) w76 ∧ μ69 (IntKind.wrap .i64 (t78_70 + 1)) w76 < μ69 t78_70 w72)))
  (∃ J77 : Bool → World → Prop, (∃ S78 : World → Prop, S78 (World.drew w72) ∧
  V.ptr p6 fun a80 =>
  V.when (decide ((0 : Int) ≤ t53_46 ∧ (t53_46 : Int) < 4)) (∃ p81, (∀ w79, S78 w79 → World.cell? w79 (Addr.add (Addr.add a80 0) ((Int.toNat t53_46) * 1)) = some (Value.pointer p81)) ∧
  V.ptr p6 fun a82 =>
  V.when (decide ((0 : Int) ≤ t53_46 ∧ (t53_46 : Int) < 4)) (∃ n83, ∃ A84, ∃ A84l, ∃ A84c, V.cellsC (fun a_ x_ => ∀ w79, S78 w79 → World.cell? w79 a_ = some x_) (Addr.add (Addr.add a82 4) ((Int.toNat t53_46) * 2)) [(Value.int .i64 n83), (Value.slice A84 A84l A84c)] ∧
  (Calls Tryz.prog 10 #[(Value.pointer p81), (Value.string s64), (Value.slice (V.cut A42 A42c 0 1) ((ns_2l : Nat) - 0) (A42c - 0))] (World.drew w72) fun e86 w87 =>
  ∃ p85, e86 = Ending.returned (Value.pointer p85) ∧
  S78 w87 ∧
  ∀ w88, w88 = (World.alloc w87 (.cells #[] 3)) →
  S78 w88 ∧
  ∃ A89, ∃ A89l, ∃ A89c, ∃ w90, Sem.run Tryz.prog (Builtin.append_ #[23, 23] 23 #[(Value.slice (some ⟨Array.size (World.heap w87), 0, none⟩) 0 0), (Value.slice (V.cut A42 A42c 0 1) ((ns_2l : Nat) - 0) (A42c - 0))]) w88 = .ok (Value.slice A89 A89l A89c) w90 ∧
  S78 w90 ∧
  Calls Tryz.prog 11 #[(Value.agg #[(Value.int .i64 n83), (Value.slice A84 A84l A84c)]), (Value.string s64), (Value.slice A89 A89l A89c)] w90 fun e92 w93 =>
  ∃ A91, ∃ A91l, ∃ A91c, e92 = Ending.returned (Value.slice A91 A91l A91c) ∧
  S78 w93 ∧
  Calls Tryz.prog 9 #[(Value.pointer p6), (Value.int .i64 t53_46), (Value.pointer p85), (Value.slice A91 A91l A91c)] w93 fun e95 w96 =>
  ∃ b94, e95 = Ending.returned (Value.bool b94) ∧
  S78 w96 ∧
  J77 (!b94) w96) ∧
  (∀ w97, w97 = (World.alloc (World.drew w72) (.cells #[] 3)) →
  S78 w97 ∧
  Calls Tryz.prog 10 #[(Value.pointer p81), (Value.string s64), (Value.slice (V.cut A42 A42c 0 1) ((ns_2l : Nat) - 0) (A42c - 0))] w97 fun e99 w100 =>
  ∃ p98, e99 = Ending.returned (Value.pointer p98) ∧
  S78 w100 ∧
  ∃ A101, ∃ A101l, ∃ A101c, ∃ w102, Sem.run Tryz.prog (Builtin.append_ #[23, 23] 23 #[(Value.slice (some ⟨Array.size (World.heap (World.drew w72)), 0, none⟩) 0 0), (Value.slice (V.cut A42 A42c 0 1) ((ns_2l : Nat) - 0) (A42c - 0))]) w100 = .ok (Value.slice A101 A101l A101c) w102 ∧
  S78 w102 ∧
  Calls Tryz.prog 11 #[(Value.agg #[(Value.int .i64 n83), (Value.slice A84 A84l A84c)]), (Value.string s64), (Value.slice A101 A101l A101c)] w102 fun e104 w105 =>
  ∃ A103, ∃ A103l, ∃ A103c, e104 = Ending.returned (Value.slice A103 A103l A103c) ∧
  S78 w105 ∧
  Calls Tryz.prog 9 #[(Value.pointer p6), (Value.int .i64 t53_46), (Value.pointer p98), (Value.slice A103 A103l A103c)] w105 fun e107 w108 =>
  ∃ b106, e107 = Ending.returned (Value.bool b106) ∧
  S78 w108 ∧
  J77 (!b106) w108) ∧ True))) ∧
  ∀ t113_109 (j110 : Nat → Value) (w111 : World), J77 t113_109 w111 →
  V.sel t113_109
  (R (Ending.returned (Value.bool false)) w111)
  (∃ I112 : Int → World → Prop, ∃ μ113 : Int → World → Nat, I112 0 w111 ∧
  ∀ t116_114 (j115 : Nat → Value) (w116 : World), I112 t116_114 w116 →
  (V.sel (decide (t116_114 < ((((ns_2l : Nat) - 0) : Nat) : Int)))
  (V.when (decide ((0 : Int) ≤ t116_114 ∧ (t116_114 : Int) < ((((ns_2l : Nat) - 0) : Nat) : Int))) (V.ptr (V.cut A42 A42c 0 1) fun a117 =>
  ∃ n118, World.cell? w116 (Addr.add a117 ((Int.toNat t116_114) * 1)) = some (Value.int .i64 n118) ∧
  V.when (decide ((0 : Int) ≤ t116_114 ∧ (t116_114 : Int) < ((((ns_2l : Nat) - 0) : Nat) : Int))) (V.ptr (V.cut A42 A42c 0 1) fun a119 =>
  ∃ w120, Sem.run Tryz.prog (Instr.storeAt 3 (Value.pointer (some (Addr.add a119 ((Int.toNat t116_114) * 1)))) (Value.int .i64 (IntKind.wrap .i64 ((BitVec.toNat (BitVec.ofInt 64 n118 ^^^ BitVec.ofInt 64 1) : Nat) : Int)))) w116 = .ok () w120 ∧
  I112 (IntKind.wrap .i64 (t116_114 + 1)) w120 ∧ μ113 (IntKind.wrap .i64 (t116_114 + 1)) w120 < μ113 t116_114 w116)))
  (I58 (IntKind.wrap .i64 (t66_60 + 1)) w116 ∧ μ59 (IntKind.wrap .i64 (t66_60 + 1)) w116 < μ59 t66_60 w62))))))))
  (Calls Tryz.prog 12 #[(Value.pointer p6), (Value.int .i64 t53_46)] w62 fun e122 w123 =>
  ∃ b121, e122 = Ending.returned (Value.bool b121) ∧
  V.sel (!b121)
  (R (Ending.returned (Value.bool false)) w123)
  (Calls Tryz.prog 13 #[(Value.pointer p6), (Value.int .i64 t53_46)] w123 fun e125 w126 =>
  ∃ b124, e125 = Ending.returned (Value.bool b124) ∧
  V.sel (!b124)
  (R (Ending.returned (Value.bool false)) w126)
  (I44 (IntKind.wrap .i64 (t53_46 + 1)) w126 ∧ μ45 (IntKind.wrap .i64 (t53_46 + 1)) w126 < μ45 t53_46 w48))))))
  (∃ I127 : Int → World → Prop, ∃ μ128 : Int → World → Nat, I127 0 w48 ∧
  ∀ t142_129 (j130 : Nat → Value) (w131 : World), I127 t142_129 w131 →
  (V.sel (decide (t142_129 < ((ns_2l : Nat) : Int)))
  (V.when (decide ((0 : Int) ≤ t142_129 ∧ (t142_129 : Int) < ((A42l : Nat) : Int))) (V.ptr A42 fun a132 =>
  ∃ n133, World.cell? w131 (Addr.add a132 ((Int.toNat t142_129) * 1)) = some (Value.int .i64 n133) ∧
  V.when (decide ((0 : Int) ≤ t142_129 ∧ (t142_129 : Int) < ((ns_2l : Nat) : Int))) (V.ptr ns_2 fun a134 =>
  ∃ n135, World.cell? w131 (Addr.add a134 ((Int.toNat t142_129) * 1)) = some (Value.int .i64 n135) ∧
  V.sel (n133 != n135)
  (R (Ending.returned (Value.bool false)) (World.drew w131))
  (I127 (IntKind.wrap .i64 (t142_129 + 1)) (World.drew w131) ∧ μ128 (IntKind.wrap .i64 (t142_129 + 1)) (World.drew w131) < μ128 t142_129 w131))))
  (V.when (decide ((0 : Int) ≤ ((ns_2l : Nat) : Int) ∧ (((ns_2l : Nat) : Int) : Int) < ((A42l : Nat) : Int))) (V.ptr A42 fun a136 =>
  ∃ n137, World.cell? w131 (Addr.add a136 ((ns_2l : Nat) * 1)) = some (Value.int .i64 n137) ∧
  V.sel (n137 == 7)
  (V.when (decide ((0 : Int) ≤ (IntKind.wrap .i64 (((ns_2l : Nat) : Int) + 1)) ∧ ((IntKind.wrap .i64 (((ns_2l : Nat) : Int) + 1)) : Int) < ((A42l : Nat) : Int))) (V.ptr A42 fun a138 =>
  ∃ n139, World.cell? w131 (Addr.add a138 ((Int.toNat (IntKind.wrap .i64 (((ns_2l : Nat) : Int) + 1))) * 1)) = some (Value.int .i64 n139) ∧
  V.sel (n139 == 77)
  (V.when (decide ((0 : Int) ≤ (IntKind.wrap .i64 (((ns_2l : Nat) : Int) + 2)) ∧ ((IntKind.wrap .i64 (((ns_2l : Nat) : Int) + 2)) : Int) < ((A42l : Nat) : Int))) (V.ptr A42 fun a140 =>
  ∃ n141, World.cell? w131 (Addr.add a140 ((Int.toNat (IntKind.wrap .i64 (((ns_2l : Nat) : Int) + 2))) * 1)) = some (Value.int .i64 n141) ∧
  V.sel (n141 == 777)
  (V.when (decide ((0 : Int) ≤ (IntKind.wrap .i64 (((ns_2l : Nat) : Int) + 3)) ∧ ((IntKind.wrap .i64 (((ns_2l : Nat) : Int) + 3)) : Int) < ((A42l : Nat) : Int))) (V.ptr A42 fun a142 =>
  ∃ n143, World.cell? w131 (Addr.add a142 ((Int.toNat (IntKind.wrap .i64 (((ns_2l : Nat) : Int) + 3))) * 1)) = some (Value.int .i64 n143) ∧
  R (Ending.returned (Value.bool (n143 == 7777))) w131))
  (R (Ending.returned (Value.bool false)) w131)))
  (R (Ending.returned (Value.bool false)) w131)))
  (R (Ending.returned (Value.bool false)) w131))))))))))))) :
  Calls Tryz.prog 3 #[(Value.slice script_1 script_1l script_1c), (Value.slice ns_2 ns_2l ns_2c)] w R :=
  V.calls_of_R ⟨V.assoc [(0, [27]), (1, [53]), (2, [66]), (3, [78]), (4, [116]), (5, [142])], V.assocP [(27, (V.Plan.one 0 (V.Plan.one 1 (V.Plan.one 2 (V.Plan.one 3 (V.Plan.one 4 (V.Plan.one 5 (V.Plan.one 6 (V.Plan.one 7 (V.Plan.one 8 (V.Plan.one 9 (V.Plan.one 11 (V.Plan.one 12 (V.Plan.one 13 (V.Plan.one 14 (V.Plan.one 15 (V.Plan.one 16 (V.Plan.one 17 (V.Plan.one 19 (V.Plan.alt 10 (V.Plan.one 18 (V.Plan.one 20 (V.Plan.one 21 (V.Plan.one 22 (V.Plan.one 23 V.Plan.done))))) (V.Plan.alt 18 (V.Plan.one 10 (V.Plan.one 20 (V.Plan.one 21 (V.Plan.one 22 (V.Plan.one 23 V.Plan.done))))) V.Plan.stop))))))))))))))))))))), (41, V.line [0, 1, 2, 3, 4, 5, 6, 7, 8])], V.assocC [(27, ([113], [V.Sh.one .bool]))], V.assocS [], ⟨[], true⟩⟩ Tryz.func3 rfl (Eq.mp (by kernel_rfl) h)

theorem berthlaw08_fixed_nf  (w : World) (R : Ending → World → Prop) (h :
  Calls Tryz.prog 14 #[(Value.int .i64 8)] w fun e3 w4 =>
  ∃ p1, ∃ n2, e3 = Ending.returned (Value.tuple #[(Value.pointer p1), (Value.int .i64 n2)]) ∧
  V.sel (Option.isNone p1)
  (R (Ending.returned (Value.bool false)) w4)
  (V.sel (n2 != 0)
  (R (Ending.returned (Value.bool false)) w4)
  (Calls Tryz.prog 15 #[(Value.pointer p1), (Value.string ⟨#[99, 111, 114, 101, 115]⟩), (Value.int .i64 3), (Value.int .i64 16)] w4 fun e6 w7 =>
  ∃ n5, e6 = Ending.returned (Value.int .i64 n5) ∧
  Calls Tryz.prog 15 #[(Value.pointer p1), (Value.string ⟨#[99, 111, 114, 101, 115]⟩), (Value.int .i64 5), (Value.int .i64 4)] w7 fun e9 w10 =>
  ∃ n8, e9 = Ending.returned (Value.int .i64 n8) ∧
  Calls Tryz.prog 15 #[(Value.pointer p1), (Value.string ⟨#[99, 111, 114, 101, 115]⟩), (Value.int .i64 3), (Value.int .i64 8)] w10 fun e12 w13 =>
  ∃ n11, e12 = Ending.returned (Value.int .i64 n11) ∧
  Calls Tryz.prog 16 #[(Value.pointer p1), (Value.string ⟨#[99, 111, 114, 101, 115]⟩), (Value.int .i64 3)] w13 fun e16 w17 =>
  ∃ n14, ∃ b15, e16 = Ending.returned (Value.tuple #[(Value.int .i64 n14), (Value.bool b15)]) ∧
  V.sel (n5 == 0)
  (V.sel (n8 == 0)
  (V.sel (n11 == 82)
  (V.sel (n14 == 16)
  (V.sel b15
  (Calls Tryz.prog 18 #[(Value.pointer p1), (Value.string ⟨#[99, 111, 114, 101, 115]⟩), (Value.int .i64 6), (Value.int .i64 5)] w17 fun e19 w20 =>
  ∃ p18, e19 = Ending.returned (Value.pointer p18) ∧
  ∀ w21, w21 = (World.alloc w20 (.cells #[(Value.int .i64 3)] 3)) →
  Calls Tryz.prog 17 #[(Value.pointer p18), (Value.int .i64 8), (Value.slice (some ⟨Array.size (World.heap w20), 0, none⟩) 1 1)] w21 fun e23 w24 =>
  ∃ b22, e23 = Ending.returned (Value.bool b22) ∧
  V.sel b22
  (Calls Tryz.prog 19 #[(Value.pointer p1), (Value.string ⟨#[99, 111, 114, 101, 115]⟩)] w24 fun e26 w27 =>
  ∃ p25, e26 = Ending.returned (Value.pointer p25) ∧
  ∀ w28, w28 = (World.alloc w27 (.cells #[(Value.int .i64 3), (Value.int .i64 5)] 3)) →
  Calls Tryz.prog 17 #[(Value.pointer p25), (Value.int .i64 8), (Value.slice (some ⟨Array.size (World.heap w27), 0, none⟩) 2 2)] w28 fun e30 w31 =>
  ∃ b29, e30 = Ending.returned (Value.bool b29) ∧
  R (Ending.returned (Value.bool b29)) w31)
  (R (Ending.returned (Value.bool false)) w24))
  (R (Ending.returned (Value.bool false)) w17))
  (R (Ending.returned (Value.bool false)) w17))
  (R (Ending.returned (Value.bool false)) w17))
  (R (Ending.returned (Value.bool false)) w17))
  (R (Ending.returned (Value.bool false)) w17)))) :
  Calls Tryz.prog 4 #[] w R :=
  V.calls_of_R ⟨V.assoc [], V.assocP [], V.assocC [], V.assocS [], ⟨[], true⟩⟩ Tryz.func4 rfl (Eq.mp (by kernel_rfl) h)

theorem berthlaw08_Begin_nf  (w : World) (R : Ending → World → Prop) (h :
  ∀ w1, w1 = (World.alloc w (.cells #[(Value.pointer none), (Value.pointer none), (Value.pointer none), (Value.pointer none), (Value.int .i64 0), (Value.slice none 0 0), (Value.int .i64 0), (Value.slice none 0 0), (Value.int .i64 0), (Value.slice none 0 0), (Value.int .i64 0), (Value.slice none 0 0)] 39)) →
  ∀ w2, w2 = (World.alloc w1 (.cells #[(Value.int .i64 8), (Value.int .i64 70), (Value.int .i64 200)] 3)) →
  ∃ I3 : Int → World → Prop, ∃ μ4 : Int → World → Nat, I3 0 w2 ∧
  ∀ t11_5 (j6 : Nat → Value) (w7 : World), I3 t11_5 w7 →
  (V.sel (decide (t11_5 < 3))
  (V.when (decide ((0 : Int) ≤ t11_5 ∧ (t11_5 : Int) < 3)) (∃ n8, World.cell? w7 (Addr.add ⟨Array.size (World.heap w1), 0, none⟩ ((Int.toNat t11_5) * 1)) = some (Value.int .i64 n8) ∧
  Calls Tryz.prog 14 #[(Value.int .i64 n8)] w7 fun e11 w12 =>
  ∃ p9, ∃ n10, e11 = Ending.returned (Value.tuple #[(Value.pointer p9), (Value.int .i64 n10)]) ∧
  V.sel (Option.isNone p9)
  (R (Ending.returned (Value.tuple #[(Value.pointer none), (Value.bool false)])) w12)
  (V.sel (n10 != 0)
  (R (Ending.returned (Value.tuple #[(Value.pointer none), (Value.bool false)])) w12)
  (V.when (decide ((0 : Int) ≤ t11_5 ∧ (t11_5 : Int) < 4)) (∃ w13, Sem.run Tryz.prog (Instr.storeAt 31 (Value.pointer (some (Addr.add (Addr.add ⟨Array.size (World.heap w), 0, none⟩ 0) ((Int.toNat t11_5) * 1)))) (Value.pointer p9)) w12 = .ok () w13 ∧
  ∃ S14 : World → Prop, S14 (World.drew w13) ∧
  Calls Tryz.prog 20 #[(Value.int .i64 n8)] (World.drew w13) fun e19 w20 =>
  ∃ n16, ∃ A17, ∃ A17l, ∃ A17c, ∃ n18, e19 = Ending.returned (Value.tuple #[(Value.agg #[(Value.int .i64 n16), (Value.slice A17 A17l A17c)]), (Value.int .i64 n18)]) ∧
  S14 w20 ∧
  V.when (decide ((0 : Int) ≤ t11_5 ∧ (t11_5 : Int) < 4)) (∃ w21, Sem.run Tryz.prog (Instr.storeAt 36 (Value.pointer (some (Addr.add (Addr.add ⟨Array.size (World.heap w), 0, none⟩ 4) ((Int.toNat t11_5) * 2)))) (Value.agg #[(Value.int .i64 n16), (Value.slice A17 A17l A17c)])) w20 = .ok () w21 ∧
  S14 w21 ∧
  I3 (IntKind.wrap .i64 (t11_5 + 1)) w21 ∧ μ4 (IntKind.wrap .i64 (t11_5 + 1)) w21 < μ4 t11_5 w7))))))
  (R (Ending.returned (Value.tuple #[(Value.pointer (some ⟨Array.size (World.heap w), 0, none⟩)), (Value.bool true)])) w7))) :
  Calls Tryz.prog 5 #[] w R :=
  V.calls_of_R ⟨V.assoc [(0, [11])], V.assocP [(9, V.line [0, 1, 2, 7, 8, 3, 4, 5, 6, 9, 10])], V.assocC [], V.assocS [], ⟨[], true⟩⟩ Tryz.func5 rfl (Eq.mp (by kernel_rfl) h)

theorem berthlaw08_World_Step_nf (w_1 : Option Addr) (o_2 : Int) (o_3 : Int) (o_4 : Int) (o_5 : ByteArray) (o_6 : Int) (o_7 : Int) (o_8 : Int) (o_9 : Option Addr) (o_9l : Nat) (o_9c : Nat) (w : World) (R : Ending → World → Prop) (h :
  ∀ w10, w10 = (World.alloc w (.cells #[(Value.int .i64 o_2), (Value.int .i64 o_3), (Value.int .i64 o_4), (Value.string o_5), (Value.int .i64 o_6), (Value.int .i64 o_7), (Value.int .i64 o_8), (Value.slice o_9 o_9l o_9c)] 29)) →
  ∃ n11, World.cell? w10 (Addr.add ⟨Array.size (World.heap w), 0, none⟩ 0) = some (Value.int .i64 n11) ∧
  V.sel (decide (n11 ≤ 3))
  (∃ n12, ∃ n13, ∃ n14, ∃ s15, ∃ n16, ∃ n17, ∃ n18, ∃ A19, ∃ A19l, ∃ A19c, V.cellsC (fun a_ x_ => World.cell? w10 a_ = some x_) ⟨Array.size (World.heap w), 0, none⟩ [(Value.int .i64 n12), (Value.int .i64 n13), (Value.int .i64 n14), (Value.string s15), (Value.int .i64 n16), (Value.int .i64 n17), (Value.int .i64 n18), (Value.slice A19 A19l A19c)] ∧
  ∃ n20, World.cell? w10 (Addr.add ⟨Array.size (World.heap w), 0, none⟩ 1) = some (Value.int .i64 n20) ∧
  Calls Tryz.prog 21 #[(Value.pointer w_1), (Value.agg #[(Value.int .i64 n12), (Value.int .i64 n13), (Value.int .i64 n14), (Value.string s15), (Value.int .i64 n16), (Value.int .i64 n17), (Value.int .i64 n18), (Value.slice A19 A19l A19c)]), (Value.int .i64 (IntKind.wrap .i64 ((BitVec.toNat (BitVec.ofInt 64 n20 &&& BitVec.ofInt 64 3) : Nat) : Int)))] w10 fun e22 w23 =>
  ∃ b21, e22 = Ending.returned (Value.bool b21) ∧
  R (Ending.returned (Value.bool b21)) w23)
  (∃ n24, ∃ n25, ∃ n26, ∃ s27, ∃ n28, ∃ n29, ∃ n30, ∃ A31, ∃ A31l, ∃ A31c, V.cellsC (fun a_ x_ => World.cell? w10 a_ = some x_) ⟨Array.size (World.heap w), 0, none⟩ [(Value.int .i64 n24), (Value.int .i64 n25), (Value.int .i64 n26), (Value.string s27), (Value.int .i64 n28), (Value.int .i64 n29), (Value.int .i64 n30), (Value.slice A31 A31l A31c)] ∧
  ∃ n32, World.cell? w10 (Addr.add ⟨Array.size (World.heap w), 0, none⟩ 1) = some (Value.int .i64 n32) ∧
  ∃ n33, World.cell? w10 (Addr.add ⟨Array.size (World.heap w), 0, none⟩ 2) = some (Value.int .i64 n33) ∧
  Calls Tryz.prog 22 #[(Value.pointer w_1), (Value.agg #[(Value.int .i64 n24), (Value.int .i64 n25), (Value.int .i64 n26), (Value.string s27), (Value.int .i64 n28), (Value.int .i64 n29), (Value.int .i64 n30), (Value.slice A31 A31l A31c)]), (Value.int .i64 (IntKind.wrap .i64 ((BitVec.toNat (BitVec.ofInt 64 n32 &&& BitVec.ofInt 64 3) : Nat) : Int))), (Value.int .i64 (IntKind.wrap .i64 ((BitVec.toNat (BitVec.ofInt 64 n33 &&& BitVec.ofInt 64 3) : Nat) : Int)))] w10 fun e35 w36 =>
  ∃ b34, e35 = Ending.returned (Value.bool b34) ∧
  R (Ending.returned (Value.bool b34)) w36)) :
  Calls Tryz.prog 6 #[(Value.pointer w_1), (Value.agg #[(Value.int .i64 o_2), (Value.int .i64 o_3), (Value.int .i64 o_4), (Value.string o_5), (Value.int .i64 o_6), (Value.int .i64 o_7), (Value.int .i64 o_8), (Value.slice o_9 o_9l o_9c)])] w R :=
  V.calls_of_R ⟨V.assoc [], V.assocP [], V.assocC [], V.assocS [], ⟨[], true⟩⟩ Tryz.func6 rfl (Eq.mp (by kernel_rfl) h)

theorem berthref08_Index_Keys_nf (x_1 : Int) (x_2 : Option Addr) (x_2l : Nat) (x_2c : Nat) (w : World) (R : Ending → World → Prop) (h :
  ∀ w3, w3 = (World.alloc w (.cells #[(Value.int .i64 x_1), (Value.slice x_2 x_2l x_2c)] 36)) →
  ∀ w4, w4 = (World.alloc w3 (.cells #[] 9)) →
  ∃ I5 : Option Addr → Nat → Nat → Int → World → Prop, ∃ μ6 : Option Addr → Nat → Nat → Int → World → Nat, I5 (some ⟨Array.size (World.heap w3), 0, none⟩) 0 0 0 w4 ∧
  ∀ out_7 out_7l out_7c i_8 (j9 : Nat → Value) (w10 : World), I5 out_7 out_7l out_7c i_8 w10 →
  (∃ A11, ∃ A11l, ∃ A11c, World.cell? w10 (Addr.add ⟨Array.size (World.heap w), 0, none⟩ 1) = some (Value.slice A11 A11l A11c) ∧
  V.sel (decide (i_8 < ((A11l : Nat) : Int)))
  (∃ A12, ∃ A12l, ∃ A12c, World.cell? w10 (Addr.add ⟨Array.size (World.heap w), 0, none⟩ 1) = some (Value.slice A12 A12l A12c) ∧
  V.when (decide ((0 : Int) ≤ i_8 ∧ (i_8 : Int) < ((A12l : Nat) : Int))) (V.ptr A12 fun a13 =>
  ∃ s14, World.cell? w10 (Addr.add (Addr.add a13 ((Int.toNat i_8) * 3)) 0) = some (Value.string s14) ∧
  ∃ J15 : Int → World → Prop, (∃ I16 : Int → World → Prop, ∃ μ17 : Int → World → Nat, I16 0 w10 ∧
  ∀ at_18 (j19 : Nat → Value) (w20 : World), I16 at_18 w20 →
  (V.sel (decide (at_18 < ((out_7l : Nat) : Int)))
  (V.when (decide ((0 : Int) ≤ at_18 ∧ (at_18 : Int) < ((out_7l : Nat) : Int))) (V.ptr out_7 fun a21 =>
  ∃ s22, World.cell? w20 (Addr.add a21 ((Int.toNat at_18) * 1)) = some (Value.string s22) ∧
  V.sel (Op.bytesLess (ByteArray.toList s22) (ByteArray.toList s14))
  (I16 (IntKind.wrap .i64 (at_18 + 1)) w20 ∧ μ17 (IntKind.wrap .i64 (at_18 + 1)) w20 < μ17 at_18 w20)
  (J15 at_18 w20)))
  (J15 at_18 w20))) ∧
  ∀ at_23 (j24 : Nat → Value) (w25 : World), J15 at_23 w25 →
  ∃ J26 : World → Prop, (V.sel (decide (at_23 < ((out_7l : Nat) : Int)))
  (V.when (decide ((0 : Int) ≤ at_23 ∧ (at_23 : Int) < ((out_7l : Nat) : Int))) (V.ptr out_7 fun a27 =>
  ∃ s28, World.cell? w25 (Addr.add a27 ((Int.toNat at_23) * 1)) = some (Value.string s28) ∧
  V.sel (ByteArray.toList s28 == ByteArray.toList s14)
  (I5 out_7 out_7l out_7c (IntKind.wrap .i64 (i_8 + 1)) w25 ∧ μ6 out_7 out_7l out_7c (IntKind.wrap .i64 (i_8 + 1)) w25 < μ6 out_7 out_7l out_7c i_8 w10)
  (J26  w25)))
  (J26  w25)) ∧
  ∀ (j29 : Nat → Value) (w30 : World), J26  w30 →
  ∀ w31, w31 = (World.alloc w30 (.cells #[(Value.string ByteArray.empty)] 9)) →
  ∃ A32, ∃ A32l, ∃ A32c, ∃ w33, Sem.run Tryz.prog (Builtin.append_ #[33, 33] 33 #[(Value.slice out_7 out_7l out_7c), (Value.slice (some ⟨Array.size (World.heap w30), 0, none⟩) 1 1)]) w31 = .ok (Value.slice A32 A32l A32c) w33 ∧
  V.lt (IntKind.wrap .i64 (((A32l : Nat) : Int) - 1)) fun x34 =>
  ∃ I35 : Int → World → Prop, ∃ μ36 : Int → World → Nat, I35 x34 w33 ∧
  ∀ j_37 (j38 : Nat → Value) (w39 : World), I35 j_37 w39 →
  (V.sel (decide (j_37 > at_23))
  (V.when (decide ((0 : Int) ≤ (IntKind.wrap .i64 (j_37 - 1)) ∧ ((IntKind.wrap .i64 (j_37 - 1)) : Int) < ((A32l : Nat) : Int))) (V.ptr A32 fun a40 =>
  ∃ s41, World.cell? w39 (Addr.add a40 ((Int.toNat (IntKind.wrap .i64 (j_37 - 1))) * 1)) = some (Value.string s41) ∧
  V.when (decide ((0 : Int) ≤ j_37 ∧ (j_37 : Int) < ((A32l : Nat) : Int))) (V.ptr A32 fun a42 =>
  ∃ w43, Sem.run Tryz.prog (Instr.storeAt 9 (Value.pointer (some (Addr.add a42 ((Int.toNat j_37) * 1)))) (Value.string s41)) w39 = .ok () w43 ∧
  I35 (IntKind.wrap .i64 (j_37 - 1)) w43 ∧ μ36 (IntKind.wrap .i64 (j_37 - 1)) w43 < μ36 j_37 w39)))
  (V.when (decide ((0 : Int) ≤ at_23 ∧ (at_23 : Int) < ((A32l : Nat) : Int))) (V.ptr A32 fun a44 =>
  ∃ w45, Sem.run Tryz.prog (Instr.storeAt 9 (Value.pointer (some (Addr.add a44 ((Int.toNat at_23) * 1)))) (Value.string s14)) w39 = .ok () w45 ∧
  I5 A32 A32l A32c (IntKind.wrap .i64 (i_8 + 1)) w45 ∧ μ6 A32 A32l A32c (IntKind.wrap .i64 (i_8 + 1)) w45 < μ6 out_7 out_7l out_7c i_8 w10)))))
  (R (Ending.returned (Value.slice out_7 out_7l out_7c)) w10))) :
  Calls Tryz.prog 7 #[(Value.agg #[(Value.int .i64 x_1), (Value.slice x_2 x_2l x_2c)])] w R :=
  V.calls_of_R ⟨V.assoc [(0, [3, 4]), (1, [6]), (2, [7])], V.assocP [], V.assocC [(1000010, ([6], [V.Sh.one (.int .i64)])), (1000011, ([], []))], V.assocS [], ⟨[], true⟩⟩ Tryz.func7 rfl (Eq.mp (by kernel_rfl) h)

theorem berthlaw08_World_owns_nf (w_1 : Option Addr) (i_2 : Int) (key_3 : ByteArray) (ns_4 : Option Addr) (ns_4l : Nat) (ns_4c : Nat) (w : World) (R : Ending → World → Prop) (h :
  V.ptr w_1 fun a5 =>
  V.when (decide ((0 : Int) ≤ i_2 ∧ (i_2 : Int) < 4)) (∃ n6, World.cell? w (Addr.add (Addr.add (Addr.add a5 4) ((Int.toNat i_2) * 2)) 0) = some (Value.int .i64 n6) ∧
  Calls Tryz.prog 23 #[(Value.int .i64 n6)] w fun e8 w9 =>
  ∃ p7, e8 = Ending.returned (Value.pointer p7) ∧
  Calls Tryz.prog 24 #[(Value.pointer w_1), (Value.int .i64 i_2), (Value.int .i64 10), (Value.string key_3), (Value.int .i64 0), (Value.int .i64 0), (Value.slice ns_4 ns_4l ns_4c), (Value.pointer p7)] w9 fun e11 w12 =>
  ∃ b10, e11 = Ending.returned (Value.bool b10) ∧
  V.sel (!b10)
  (R (Ending.returned (Value.bool false)) w12)
  (Calls Tryz.prog 24 #[(Value.pointer w_1), (Value.int .i64 i_2), (Value.int .i64 11), (Value.string key_3), (Value.int .i64 0), (Value.int .i64 0), (Value.slice ns_4 ns_4l ns_4c), (Value.pointer p7)] w12 fun e14 w15 =>
  ∃ b13, e14 = Ending.returned (Value.bool b13) ∧
  V.sel (!b13)
  (R (Ending.returned (Value.bool false)) w15)
  (V.ptr w_1 fun a16 =>
  V.when (decide ((0 : Int) ≤ i_2 ∧ (i_2 : Int) < 4)) (∃ n17, ∃ A18, ∃ A18l, ∃ A18c, V.cellsC (fun a_ x_ => World.cell? w15 a_ = some x_) (Addr.add (Addr.add a16 4) ((Int.toNat i_2) * 2)) [(Value.int .i64 n17), (Value.slice A18 A18l A18c)] ∧
  Calls Tryz.prog 25 #[(Value.agg #[(Value.int .i64 n17), (Value.slice A18 A18l A18c)]), (Value.string key_3)] w15 fun e20 w21 =>
  ∃ A19, ∃ A19l, ∃ A19c, e20 = Ending.returned (Value.slice A19 A19l A19c) ∧
  ∃ I22 : Int → World → Prop, ∃ μ23 : Int → World → Nat, I22 0 w21 ∧
  ∀ t49_24 (j25 : Nat → Value) (w26 : World), I22 t49_24 w26 →
  (V.sel (decide (t49_24 < ((A19l : Nat) : Int)))
  (V.when (decide ((0 : Int) ≤ t49_24 ∧ (t49_24 : Int) < ((A19l : Nat) : Int))) (V.ptr A19 fun a27 =>
  ∃ n28, World.cell? w26 (Addr.add a27 ((Int.toNat t49_24) * 1)) = some (Value.int .i64 n28) ∧
  V.sel (decide (t49_24 ≥ 20))
  (R (Ending.returned (Value.bool true)) w26)
  (V.when (decide ((0 : Int) ≤ (if (IntKind.wrap .i64 (((A19l : Nat) : Int) - 1)) < (IntKind.wrap .i64 (t49_24 + 1)) then (IntKind.wrap .i64 (((A19l : Nat) : Int) - 1)) else (IntKind.wrap .i64 (t49_24 + 1))) ∧ ((if (IntKind.wrap .i64 (((A19l : Nat) : Int) - 1)) < (IntKind.wrap .i64 (t49_24 + 1)) then (IntKind.wrap .i64 (((A19l : Nat) : Int) - 1)) else (IntKind.wrap .i64 (t49_24 + 1))) : Int) < ((A19l : Nat) : Int))) (V.ptr A19 fun a29 =>
  ∃ n30, World.cell? w26 (Addr.add a29 ((Int.toNat (if (IntKind.wrap .i64 (((A19l : Nat) : Int) - 1)) < (IntKind.wrap .i64 (t49_24 + 1)) then (IntKind.wrap .i64 (((A19l : Nat) : Int) - 1)) else (IntKind.wrap .i64 (t49_24 + 1)))) * 1)) = some (Value.int .i64 n30) ∧
  ∃ I31 : Int → World → Prop, ∃ μ32 : Int → World → Nat, I31 0 w26 ∧
  ∀ what_33 (j34 : Nat → Value) (w35 : World), I31 what_33 w35 →
  (V.sel (decide (what_33 ≤ 9))
  (Calls Tryz.prog 24 #[(Value.pointer w_1), (Value.int .i64 i_2), (Value.int .i64 what_33), (Value.string key_3), (Value.int .i64 n28), (Value.int .i64 n30), (Value.slice ns_4 ns_4l ns_4c), (Value.pointer p7)] w35 fun e37 w38 =>
  ∃ b36, e37 = Ending.returned (Value.bool b36) ∧
  V.sel (!b36)
  (R (Ending.returned (Value.bool false)) w38)
  (I31 (IntKind.wrap .i64 (what_33 + 1)) w38 ∧ μ32 (IntKind.wrap .i64 (what_33 + 1)) w38 < μ32 what_33 w35))
  (I22 (IntKind.wrap .i64 (t49_24 + 1)) w35 ∧ μ23 (IntKind.wrap .i64 (t49_24 + 1)) w35 < μ23 t49_24 w26))))))
  (R (Ending.returned (Value.bool true)) w26))))))) :
  Calls Tryz.prog 8 #[(Value.pointer w_1), (Value.int .i64 i_2), (Value.string key_3), (Value.slice ns_4 ns_4l ns_4c)] w R :=
  V.calls_of_R ⟨V.assoc [(0, [49]), (1, [14])], V.assocP [], V.assocC [], V.assocS [], ⟨[], true⟩⟩ Tryz.func8 rfl (Eq.mp (by kernel_rfl) h)

theorem berthlaw08_World_set_nf (w_1 : Option Addr) (i_2 : Int) (s_3 : Option Addr) (members_4 : Option Addr) (members_4l : Nat) (members_4c : Nat) (w : World) (R : Ending → World → Prop) (h :
  V.ptr w_1 fun a5 =>
  V.when (decide ((0 : Int) ≤ i_2 ∧ (i_2 : Int) < 4)) (∃ p6, World.cell? w (Addr.add (Addr.add a5 0) ((Int.toNat i_2) * 1)) = some (Value.pointer p6) ∧
  V.sel (Option.isNone p6)
  (Calls Tryz.prog 26 #[(Value.pointer s_3)] w fun e8 w9 =>
  ∃ n7, e8 = Ending.returned (Value.int .i64 n7) ∧
  V.sel (n7 == 0)
  (R (Ending.returned (Value.bool (((members_4l : Nat) : Int) == 0))) w9)
  (R (Ending.returned (Value.bool false)) w9))
  (V.ptr w_1 fun a10 =>
  V.when (decide ((0 : Int) ≤ i_2 ∧ (i_2 : Int) < 4)) (∃ n11, World.cell? w (Addr.add (Addr.add (Addr.add a10 4) ((Int.toNat i_2) * 2)) 0) = some (Value.int .i64 n11) ∧
  Calls Tryz.prog 17 #[(Value.pointer s_3), (Value.int .i64 n11), (Value.slice members_4 members_4l members_4c)] w fun e13 w14 =>
  ∃ b12, e13 = Ending.returned (Value.bool b12) ∧
  R (Ending.returned (Value.bool b12)) w14)))) :
  Calls Tryz.prog 9 #[(Value.pointer w_1), (Value.int .i64 i_2), (Value.pointer s_3), (Value.slice members_4 members_4l members_4c)] w R :=
  V.calls_of_R ⟨V.assoc [], V.assocP [], V.assocC [], V.assocS [], ⟨[], true⟩⟩ Tryz.func9 rfl (Eq.mp (by kernel_rfl) h)

end Go.Proofs.YtjlkdadafddodaaGreatDoor
