/- Normal forms of the program's functions, printed by a program of mine; the kernel checks each. -/
import Derived.Test.YtjlkdadafddodaaProg
import Derived.Test.YtjlkdadafddodaaV2
set_option linter.unusedVariables false
set_option maxRecDepth 100000
namespace Go.Proofs.Ytjlkdadafddodaa
open Go

theorem bitset_Meets_nf (a_1 : Option Addr) (b_2 : Option Addr) (w : World) (R : Ending → World → Prop) (h :
  Calls Try.prog 42 #[(Value.pointer a_1), (Value.pointer b_2)] w fun e4 w5 =>
  ∃ n3, e4 = Ending.returned (Value.int .i64 n3) ∧
  ∃ I6 : Int → World → Prop, ∃ μ7 : Int → World → Nat, I6 0 w5 ∧
  ∀ t9_8 (j9 : Nat → Value) (w10 : World), I6 t9_8 w10 →
  (V.sel (decide (t9_8 < n3))
  (Calls Try.prog 43 #[(Value.pointer a_1), (Value.int .i64 t9_8)] w10 fun e12 w13 =>
  ∃ n11, e12 = Ending.returned (Value.int .u64 n11) ∧
  Calls Try.prog 43 #[(Value.pointer b_2), (Value.int .i64 t9_8)] w13 fun e15 w16 =>
  ∃ n14, e15 = Ending.returned (Value.int .u64 n14) ∧
  V.sel ((IntKind.wrap .u64 ((BitVec.toNat (BitVec.ofInt 64 n11 &&& BitVec.ofInt 64 n14) : Nat) : Int)) != 0)
  (R (Ending.returned (Value.bool true)) w16)
  (I6 (IntKind.wrap .i64 (t9_8 + 1)) w16 ∧ μ7 (IntKind.wrap .i64 (t9_8 + 1)) w16 < μ7 t9_8 w10))
  (R (Ending.returned (Value.bool false)) w10))) :
  Calls Try.prog 12 #[(Value.pointer a_1), (Value.pointer b_2)] w R :=
  V.calls_of_R ⟨V.assoc [(0, [9])], V.assocP [], V.assocC [], V.assocS [], ⟨[], false⟩⟩ Try.func12 rfl (Eq.mp (by kernel_rfl) h)

theorem bitset_Set_Count_nf (s_1 : Option Addr) (w : World) (R : Ending → World → Prop) (h :
  Calls Try.prog 23 #[(Value.pointer s_1)] w fun e3 w4 =>
  ∃ n2, e3 = Ending.returned (Value.int .i64 n2) ∧
  Calls Try.prog 44 #[(Value.pointer s_1), (Value.int .i64 n2)] w4 fun e6 w7 =>
  ∃ n5, e6 = Ending.returned (Value.int .i64 n5) ∧
  R (Ending.returned (Value.int .i64 n5)) w7) :
  Calls Try.prog 13 #[(Value.pointer s_1)] w R :=
  V.calls_of_R ⟨V.assoc [], V.assocP [], V.assocC [], V.assocS [], ⟨[], false⟩⟩ Try.func13 rfl (Eq.mp (by kernel_rfl) h)

theorem bitset_Equal_nf (a_1 : Option Addr) (b_2 : Option Addr) (w : World) (R : Ending → World → Prop) (h :
  Calls Try.prog 42 #[(Value.pointer a_1), (Value.pointer b_2)] w fun e4 w5 =>
  ∃ n3, e4 = Ending.returned (Value.int .i64 n3) ∧
  ∃ I6 : Int → World → Prop, ∃ μ7 : Int → World → Nat, I6 0 w5 ∧
  ∀ t9_8 (j9 : Nat → Value) (w10 : World), I6 t9_8 w10 →
  (V.sel (decide (t9_8 < n3))
  (Calls Try.prog 43 #[(Value.pointer a_1), (Value.int .i64 t9_8)] w10 fun e12 w13 =>
  ∃ n11, e12 = Ending.returned (Value.int .u64 n11) ∧
  Calls Try.prog 43 #[(Value.pointer b_2), (Value.int .i64 t9_8)] w13 fun e15 w16 =>
  ∃ n14, e15 = Ending.returned (Value.int .u64 n14) ∧
  V.sel (n11 != n14)
  (R (Ending.returned (Value.bool false)) w16)
  (I6 (IntKind.wrap .i64 (t9_8 + 1)) w16 ∧ μ7 (IntKind.wrap .i64 (t9_8 + 1)) w16 < μ7 t9_8 w10))
  (R (Ending.returned (Value.bool true)) w10))) :
  Calls Try.prog 14 #[(Value.pointer a_1), (Value.pointer b_2)] w R :=
  V.calls_of_R ⟨V.assoc [(0, [9])], V.assocP [], V.assocC [], V.assocS [], ⟨[], false⟩⟩ Try.func14 rfl (Eq.mp (by kernel_rfl) h)

theorem bitset_Or_nf (a_1 : Option Addr) (b_2 : Option Addr) (w : World) (R : Ending → World → Prop) (h :
  Calls Try.prog 45 #[(Value.pointer a_1), (Value.pointer b_2), (Value.func (.func 46) #[] #[])] w fun e4 w5 =>
  ∃ p3, e4 = Ending.returned (Value.pointer p3) ∧
  R (Ending.returned (Value.pointer p3)) w5) :
  Calls Try.prog 15 #[(Value.pointer a_1), (Value.pointer b_2)] w R :=
  V.calls_of_R ⟨V.assoc [], V.assocP [], V.assocC [], V.assocS [], ⟨[], false⟩⟩ Try.func15 rfl (Eq.mp (by kernel_rfl) h)

theorem bitset_And_nf (a_1 : Option Addr) (b_2 : Option Addr) (w : World) (R : Ending → World → Prop) (h :
  Calls Try.prog 45 #[(Value.pointer a_1), (Value.pointer b_2), (Value.func (.func 50) #[] #[])] w fun e4 w5 =>
  ∃ p3, e4 = Ending.returned (Value.pointer p3) ∧
  R (Ending.returned (Value.pointer p3)) w5) :
  Calls Try.prog 18 #[(Value.pointer a_1), (Value.pointer b_2)] w R :=
  V.calls_of_R ⟨V.assoc [], V.assocP [], V.assocC [], V.assocS [], ⟨[], false⟩⟩ Try.func18 rfl (Eq.mp (by kernel_rfl) h)

theorem bitset_Set_Has_nf (s_1 : Option Addr) (i_2 : Int) (w : World) (R : Ending → World → Prop) (h :
  Calls Try.prog 51 #[(Value.pointer s_1), (Value.int .i64 i_2)] w fun e4 w5 =>
  ∃ b3, e4 = Ending.returned (Value.bool b3) ∧
  V.sel b3
  (V.ptr s_1 fun a6 =>
  ∃ A7, ∃ A7l, ∃ A7c, World.cell? w5 (Addr.add a6 1) = some (Value.slice A7 A7l A7c) ∧
  V.when (decide ((0 : Int) ≤ (IntKind.wrap .i64 (Int.tdiv i_2 64)) ∧ ((IntKind.wrap .i64 (Int.tdiv i_2 64)) : Int) < ((A7l : Nat) : Int))) (V.ptr A7 fun a8 =>
  ∃ n9, World.cell? w5 (Addr.add a8 ((Int.toNat (IntKind.wrap .i64 (Int.tdiv i_2 64))) * 1)) = some (Value.int .u64 n9) ∧
  V.when (decide (0 ≤ (Int.tmod i_2 64))) (R (Ending.returned (Value.bool ((IntKind.wrap .u64 ((BitVec.toNat (BitVec.ofInt 64 (Int.fdiv n9 (2 ^ (min (Int.toNat (Int.tmod i_2 64)) 64))) &&& BitVec.ofInt 64 1) : Nat) : Int)) == 1))) w5)))
  (R (Ending.returned (Value.bool false)) w5)) :
  Calls Try.prog 20 #[(Value.pointer s_1), (Value.int .i64 i_2)] w R :=
  V.calls_of_R ⟨V.assoc [], V.assocP [], V.assocC [], V.assocS [], ⟨[], false⟩⟩ Try.func20 rfl (Eq.mp (by kernel_rfl) h)

theorem bitset_Set_Size_nf (s_1 : Option Addr) (w : World) (R : Ending → World → Prop) (h :
  V.sel (Option.isNone s_1)
  (R (Ending.returned (Value.int .i64 0)) w)
  (V.ptr s_1 fun a2 =>
  ∃ n3, World.cell? w (Addr.add a2 0) = some (Value.int .i64 n3) ∧
  R (Ending.returned (Value.int .i64 n3)) w)) :
  Calls Try.prog 23 #[(Value.pointer s_1)] w R :=
  V.calls_of_R ⟨V.assoc [], V.assocP [], V.assocC [], V.assocS [], ⟨[], false⟩⟩ Try.func23 rfl (Eq.mp (by kernel_rfl) h)

theorem bitset_Set_Members_nf (s_1 : Option Addr) (w : World) (R : Ending → World → Prop) (h :
  Calls Try.prog 13 #[(Value.pointer s_1)] w fun e3 w4 =>
  ∃ n2, e3 = Ending.returned (Value.int .i64 n2) ∧
  V.when (decide ((0 : Int) ≤ 0 ∧ (0 : Int) ≤ n2 ∧ (n2 : Int) ≤ 281474976710656 ∧ (8 : Int) * n2 ≤ 281474976710656)) (Calls Try.prog 23 #[(Value.pointer s_1)] (World.alloc w4 (.cells ⟨V.rep (Int.toNat n2) [(Value.int .i64 0)]⟩ 3)) fun e6 w7 =>
  ∃ n5, e6 = Ending.returned (Value.int .i64 n5) ∧
  ∃ I8 : Option Addr → Nat → Nat → Int → World → Prop, ∃ μ9 : Option Addr → Nat → Nat → Int → World → Nat, I8 (some ⟨Array.size (World.heap w4), 0, none⟩) 0 (Int.toNat n2) 0 w7 ∧
  ∀ out_10 out_10l out_10c t10_11 (j12 : Nat → Value) (w13 : World), I8 out_10 out_10l out_10c t10_11 w13 →
  (V.sel (decide (t10_11 < n5))
  (Calls Try.prog 20 #[(Value.pointer s_1), (Value.int .i64 t10_11)] w13 fun e15 w16 =>
  ∃ b14, e15 = Ending.returned (Value.bool b14) ∧
  V.sel b14
  (∃ A17, ∃ A17l, ∃ A17c, ∃ w18, Sem.run Try.prog (Builtin.append_ #[37, 37] 37 #[(Value.slice out_10 out_10l out_10c), (Value.slice (some ⟨Array.size (World.heap w16), 0, none⟩) 1 1)]) (World.alloc w16 (.cells #[(Value.int .i64 t10_11)] 3)) = .ok (Value.slice A17 A17l A17c) w18 ∧
  I8 A17 A17l A17c (IntKind.wrap .i64 (t10_11 + 1)) w18 ∧ μ9 A17 A17l A17c (IntKind.wrap .i64 (t10_11 + 1)) w18 < μ9 out_10 out_10l out_10c t10_11 w13)
  (I8 out_10 out_10l out_10c (IntKind.wrap .i64 (t10_11 + 1)) w16 ∧ μ9 out_10 out_10l out_10c (IntKind.wrap .i64 (t10_11 + 1)) w16 < μ9 out_10 out_10l out_10c t10_11 w13))
  (R (Ending.returned (Value.slice out_10 out_10l out_10c)) w13)))) :
  Calls Try.prog 24 #[(Value.pointer s_1)] w R :=
  V.calls_of_R ⟨V.assoc [(0, [3, 10])], V.assocP [], V.assocC [], V.assocS [], ⟨[], false⟩⟩ Try.func24 rfl (Eq.mp (by kernel_rfl) h)

theorem bitset_Set_Add_nf (s_1 : Option Addr) (i_2 : Int) (w : World) (R : Ending → World → Prop) (h :
  Calls Try.prog 51 #[(Value.pointer s_1), (Value.int .i64 i_2)] w fun e4 w5 =>
  ∃ b3, e4 = Ending.returned (Value.bool b3) ∧
  V.sel (!b3)
  (R (Ending.returned (Value.bool false)) w5)
  (Calls Try.prog 20 #[(Value.pointer s_1), (Value.int .i64 i_2)] w5 fun e7 w8 =>
  ∃ b6, e7 = Ending.returned (Value.bool b6) ∧
  V.sel b6
  (R (Ending.returned (Value.bool false)) w8)
  (V.ptr s_1 fun a9 =>
  ∃ A10, ∃ A10l, ∃ A10c, World.cell? w8 (Addr.add a9 1) = some (Value.slice A10 A10l A10c) ∧
  V.when (decide ((0 : Int) ≤ (IntKind.wrap .i64 (Int.tdiv i_2 64)) ∧ ((IntKind.wrap .i64 (Int.tdiv i_2 64)) : Int) < ((A10l : Nat) : Int))) (V.ptr A10 fun a11 =>
  ∃ n12, World.cell? w8 (Addr.add a11 ((Int.toNat (IntKind.wrap .i64 (Int.tdiv i_2 64))) * 1)) = some (Value.int .u64 n12) ∧
  V.when (decide (0 ≤ (Int.tmod i_2 64))) (V.when (decide ((0 : Int) ≤ (IntKind.wrap .i64 (Int.tdiv i_2 64)) ∧ ((IntKind.wrap .i64 (Int.tdiv i_2 64)) : Int) < ((A10l : Nat) : Int))) (V.ptr A10 fun a13 =>
  (∃ u14, World.cell? (World.drew w8) (Addr.add (Addr.add a13 ((Int.toNat (IntKind.wrap .i64 (Int.tdiv i_2 64))) * 1)) 0) = some u14) ∧ World.frozen? (World.drew w8) (Addr.add (Addr.add a13 ((Int.toNat (IntKind.wrap .i64 (Int.tdiv i_2 64))) * 1)) 0) = false ∧
  R (Ending.returned (Value.bool true)) (World.setCell (World.drew w8) (Addr.add (Addr.add a13 ((Int.toNat (IntKind.wrap .i64 (Int.tdiv i_2 64))) * 1)) 0) (Value.int .u64 (IntKind.wrap .u64 ((BitVec.toNat (BitVec.ofInt 64 n12 ||| BitVec.ofInt 64 (IntKind.wrap .u64 (1 * 2 ^ (min (Int.toNat (Int.tmod i_2 64)) 64)))) : Nat) : Int)))))))))) :
  Calls Try.prog 30 #[(Value.pointer s_1), (Value.int .i64 i_2)] w R :=
  V.calls_of_R ⟨V.assoc [], V.assocP [(3, V.line [0, 1, 2, 3, 4, 5, 6, 7, 8, 9, 10, 11, 12, 13])], V.assocC [], V.assocS [], ⟨[], false⟩⟩ Try.func30 rfl (Eq.mp (by kernel_rfl) h)

theorem bitset_Set_AndNotWith_nf (s_1 : Option Addr) (t_2 : Option Addr) (w : World) (R : Ending → World → Prop) (h :
  V.sel (Option.isNone s_1)
  (R (Ending.returned undef) w)
  (V.ptr s_1 fun a3 =>
  ∃ A4, ∃ A4l, ∃ A4c, World.cell? w (Addr.add a3 1) = some (Value.slice A4 A4l A4c) ∧
  ∃ I5 : Int → World → Prop, ∃ μ6 : Int → World → Nat, I5 0 w ∧
  ∀ t12_7 (j8 : Nat → Value) (w9 : World), I5 t12_7 w9 →
  (V.sel (decide (t12_7 < ((A4l : Nat) : Int)))
  (∃ S10 : World → Prop, S10 (World.drew w9) ∧
  V.ptr s_1 fun a12 =>
  ∃ A13, ∃ A13l, ∃ A13c, (∀ w11, S10 w11 → World.cell? w11 (Addr.add a12 1) = some (Value.slice A13 A13l A13c)) ∧
  V.when (decide ((0 : Int) ≤ t12_7 ∧ (t12_7 : Int) < ((A13l : Nat) : Int))) (V.ptr A13 fun a14 =>
  ∃ n15, (∀ w11, S10 w11 → World.cell? w11 (Addr.add a14 ((Int.toNat t12_7) * 1)) = some (Value.int .u64 n15)) ∧
  Calls Try.prog 43 #[(Value.pointer t_2), (Value.int .i64 t12_7)] (World.drew w9) fun e17 w18 =>
  ∃ n16, e17 = Ending.returned (Value.int .u64 n16) ∧
  S10 w18 ∧
  V.when (decide ((0 : Int) ≤ t12_7 ∧ (t12_7 : Int) < ((A13l : Nat) : Int))) (V.ptr A13 fun a19 =>
  (∃ u20, World.cell? w18 (Addr.add (Addr.add a19 ((Int.toNat t12_7) * 1)) 0) = some u20) ∧ World.frozen? w18 (Addr.add (Addr.add a19 ((Int.toNat t12_7) * 1)) 0) = false ∧
  I5 (IntKind.wrap .i64 (t12_7 + 1)) (World.setCell w18 (Addr.add (Addr.add a19 ((Int.toNat t12_7) * 1)) 0) (Value.int .u64 (IntKind.wrap .u64 ((BitVec.toNat (BitVec.ofInt 64 n15 &&& ~~~(BitVec.ofInt 64 n16)) : Nat) : Int)))) ∧ μ6 (IntKind.wrap .i64 (t12_7 + 1)) (World.setCell w18 (Addr.add (Addr.add a19 ((Int.toNat t12_7) * 1)) 0) (Value.int .u64 (IntKind.wrap .u64 ((BitVec.toNat (BitVec.ofInt 64 n15 &&& ~~~(BitVec.ofInt 64 n16)) : Nat) : Int)))) < μ6 t12_7 w9)))
  (R (Ending.returned undef) w9)))) :
  Calls Try.prog 31 #[(Value.pointer s_1), (Value.pointer t_2)] w R :=
  V.calls_of_R ⟨V.assoc [(0, [12])], V.assocP [(4, V.line [0, 1, 2, 3, 4, 5, 6, 7, 8, 9, 10, 11, 12])], V.assocC [], V.assocS [], ⟨[], false⟩⟩ Try.func31 rfl (Eq.mp (by kernel_rfl) h)

theorem bitset_Set_Clone_nf (s_1 : Option Addr) (w : World) (R : Ending → World → Prop) (h :
  Calls Try.prog 23 #[(Value.pointer s_1)] w fun e3 w4 =>
  ∃ n2, e3 = Ending.returned (Value.int .i64 n2) ∧
  Calls Try.prog 59 #[(Value.int .i64 n2)] w4 fun e6 w7 =>
  ∃ p5, e6 = Ending.returned (Value.pointer p5) ∧
  V.ptr p5 fun a8 =>
  ∃ A9, ∃ A9l, ∃ A9c, World.cell? w7 (Addr.add a8 1) = some (Value.slice A9 A9l A9c) ∧
  ∃ I10 : Int → World → Prop, ∃ μ11 : Int → World → Nat, I10 0 w7 ∧
  ∀ t13_12 (j13 : Nat → Value) (w14 : World), I10 t13_12 w14 →
  (V.sel (decide (t13_12 < ((A9l : Nat) : Int)))
  (V.ptr p5 fun a15 =>
  ∃ A16, ∃ A16l, ∃ A16c, World.cell? w14 (Addr.add a15 1) = some (Value.slice A16 A16l A16c) ∧
  V.ptr s_1 fun a17 =>
  ∃ A18, ∃ A18l, ∃ A18c, World.cell? w14 (Addr.add a17 1) = some (Value.slice A18 A18l A18c) ∧
  V.when (decide ((0 : Int) ≤ t13_12 ∧ (t13_12 : Int) < ((A18l : Nat) : Int))) (V.ptr A18 fun a19 =>
  ∃ n20, World.cell? w14 (Addr.add a19 ((Int.toNat t13_12) * 1)) = some (Value.int .u64 n20) ∧
  V.when (decide ((0 : Int) ≤ t13_12 ∧ (t13_12 : Int) < ((A16l : Nat) : Int))) (V.ptr A16 fun a21 =>
  (∃ u22, World.cell? (World.drew w14) (Addr.add (Addr.add a21 ((Int.toNat t13_12) * 1)) 0) = some u22) ∧ World.frozen? (World.drew w14) (Addr.add (Addr.add a21 ((Int.toNat t13_12) * 1)) 0) = false ∧
  I10 (IntKind.wrap .i64 (t13_12 + 1)) (World.setCell (World.drew w14) (Addr.add (Addr.add a21 ((Int.toNat t13_12) * 1)) 0) (Value.int .u64 n20)) ∧ μ11 (IntKind.wrap .i64 (t13_12 + 1)) (World.setCell (World.drew w14) (Addr.add (Addr.add a21 ((Int.toNat t13_12) * 1)) 0) (Value.int .u64 n20)) < μ11 t13_12 w14)))
  (R (Ending.returned (Value.pointer p5)) w14))) :
  Calls Try.prog 32 #[(Value.pointer s_1)] w R :=
  V.calls_of_R ⟨V.assoc [(0, [13])], V.assocP [(5, V.line [0, 1, 2, 3, 4, 5, 6, 7, 8, 9, 10, 11, 12, 13])], V.assocC [], V.assocS [], ⟨[], false⟩⟩ Try.func32 rfl (Eq.mp (by kernel_rfl) h)

theorem bitset_AndNot_nf (a_1 : Option Addr) (b_2 : Option Addr) (w : World) (R : Ending → World → Prop) (h :
  Calls Try.prog 45 #[(Value.pointer a_1), (Value.pointer b_2), (Value.func (.func 72) #[] #[])] w fun e4 w5 =>
  ∃ p3, e4 = Ending.returned (Value.pointer p3) ∧
  R (Ending.returned (Value.pointer p3)) w5) :
  Calls Try.prog 40 #[(Value.pointer a_1), (Value.pointer b_2)] w R :=
  V.calls_of_R ⟨V.assoc [], V.assocP [], V.assocC [], V.assocS [], ⟨[], false⟩⟩ Try.func40 rfl (Eq.mp (by kernel_rfl) h)

theorem bitset_spanOf_nf (a_1 : Option Addr) (b_2 : Option Addr) (w : World) (R : Ending → World → Prop) (h :
  Calls Try.prog 23 #[(Value.pointer a_1)] w fun e4 w5 =>
  ∃ n3, e4 = Ending.returned (Value.int .i64 n3) ∧
  Calls Try.prog 23 #[(Value.pointer b_2)] w5 fun e7 w8 =>
  ∃ n6, e7 = Ending.returned (Value.int .i64 n6) ∧
  Calls Try.prog 74 #[(Value.int .i64 (if n6 > n3 then n6 else n3))] w8 fun e10 w11 =>
  ∃ n9, e10 = Ending.returned (Value.int .i64 n9) ∧
  R (Ending.returned (Value.int .i64 n9)) w11) :
  Calls Try.prog 42 #[(Value.pointer a_1), (Value.pointer b_2)] w R :=
  V.calls_of_R ⟨V.assoc [], V.assocP [], V.assocC [], V.assocS [], ⟨[], false⟩⟩ Try.func42 rfl (Eq.mp (by kernel_rfl) h)

theorem bitset_Set_word_nf (s_1 : Option Addr) (w_2 : Int) (w : World) (R : Ending → World → Prop) (h :
  V.sel (Option.isNone s_1)
  (R (Ending.returned (Value.int .u64 0)) w)
  (V.ptr s_1 fun a3 =>
  ∃ A4, ∃ A4l, ∃ A4c, World.cell? w (Addr.add a3 1) = some (Value.slice A4 A4l A4c) ∧
  V.sel (decide (w_2 ≥ ((A4l : Nat) : Int)))
  (R (Ending.returned (Value.int .u64 0)) w)
  (V.ptr s_1 fun a5 =>
  ∃ A6, ∃ A6l, ∃ A6c, World.cell? w (Addr.add a5 1) = some (Value.slice A6 A6l A6c) ∧
  V.when (decide ((0 : Int) ≤ w_2 ∧ (w_2 : Int) < ((A6l : Nat) : Int))) (V.ptr A6 fun a7 =>
  ∃ n8, World.cell? w (Addr.add a7 ((Int.toNat w_2) * 1)) = some (Value.int .u64 n8) ∧
  R (Ending.returned (Value.int .u64 n8)) w)))) :
  Calls Try.prog 43 #[(Value.pointer s_1), (Value.int .i64 w_2)] w R :=
  V.calls_of_R ⟨V.assoc [], V.assocP [], V.assocC [], V.assocS [], ⟨[], false⟩⟩ Try.func43 rfl (Eq.mp (by kernel_rfl) h)

theorem bitset_Set_Rank_nf (s_1 : Option Addr) (i_2 : Int) (w : World) (R : Ending → World → Prop) (h :
  Calls Try.prog 23 #[(Value.pointer s_1)] w fun e4 w5 =>
  ∃ n3, e4 = Ending.returned (Value.int .i64 n3) ∧
  V.sel (decide ((if n3 < i_2 then n3 else i_2) ≤ 0))
  (R (Ending.returned (Value.int .i64 0)) w5)
  (∃ I6 : Int → Int → World → Prop, ∃ μ7 : Int → Int → World → Nat, I6 0 0 w5 ∧
  ∀ n_8 t15_9 (j10 : Nat → Value) (w11 : World), I6 n_8 t15_9 w11 →
  (V.sel (decide (t15_9 < (IntKind.wrap .i64 (Int.tdiv (if n3 < i_2 then n3 else i_2) 64))))
  (V.ptr s_1 fun a12 =>
  ∃ A13, ∃ A13l, ∃ A13c, World.cell? w11 (Addr.add a12 1) = some (Value.slice A13 A13l A13c) ∧
  V.when (decide ((0 : Int) ≤ t15_9 ∧ (t15_9 : Int) < ((A13l : Nat) : Int))) (V.ptr A13 fun a14 =>
  ∃ n15, World.cell? w11 (Addr.add a14 ((Int.toNat t15_9) * 1)) = some (Value.int .u64 n15) ∧
  Calls Try.prog 75 #[(Value.int .u64 n15)] w11 fun e17 w18 =>
  ∃ n16, e17 = Ending.returned (Value.int .i64 n16) ∧
  I6 (IntKind.wrap .i64 (n_8 + n16)) (IntKind.wrap .i64 (t15_9 + 1)) w18 ∧ μ7 (IntKind.wrap .i64 (n_8 + n16)) (IntKind.wrap .i64 (t15_9 + 1)) w18 < μ7 n_8 t15_9 w11))
  (V.sel ((Int.tmod (if n3 < i_2 then n3 else i_2) 64) != 0)
  (V.ptr s_1 fun a19 =>
  ∃ A20, ∃ A20l, ∃ A20c, World.cell? w11 (Addr.add a19 1) = some (Value.slice A20 A20l A20c) ∧
  V.when (decide ((0 : Int) ≤ (IntKind.wrap .i64 (Int.tdiv (if n3 < i_2 then n3 else i_2) 64)) ∧ ((IntKind.wrap .i64 (Int.tdiv (if n3 < i_2 then n3 else i_2) 64)) : Int) < ((A20l : Nat) : Int))) (V.ptr A20 fun a21 =>
  ∃ n22, World.cell? w11 (Addr.add a21 ((Int.toNat (IntKind.wrap .i64 (Int.tdiv (if n3 < i_2 then n3 else i_2) 64))) * 1)) = some (Value.int .u64 n22) ∧
  V.when (decide (0 ≤ (IntKind.wrap .i64 (64 - (Int.tmod (if n3 < i_2 then n3 else i_2) 64))))) (Calls Try.prog 75 #[(Value.int .u64 (IntKind.wrap .u64 (n22 * 2 ^ (min (Int.toNat (IntKind.wrap .i64 (64 - (Int.tmod (if n3 < i_2 then n3 else i_2) 64)))) 64))))] w11 fun e24 w25 =>
  ∃ n23, e24 = Ending.returned (Value.int .i64 n23) ∧
  R (Ending.returned (Value.int .i64 (IntKind.wrap .i64 (n_8 + n23)))) w25)))
  (R (Ending.returned (Value.int .i64 n_8)) w11))))) :
  Calls Try.prog 44 #[(Value.pointer s_1), (Value.int .i64 i_2)] w R :=
  V.calls_of_R ⟨V.assoc [(0, [5, 15])], V.assocP [], V.assocC [], V.assocS [], ⟨[], false⟩⟩ Try.func44 rfl (Eq.mp (by kernel_rfl) h)

theorem bitset_joined_nf (a_1 : Option Addr) (b_2 : Option Addr) (one_f3 : Nat) (one_a4 : Array Value) (one_c5 : Array Value) (w : World) (R : Ending → World → Prop) (h :
  Calls Try.prog 23 #[(Value.pointer a_1)] w fun e7 w8 =>
  ∃ n6, e7 = Ending.returned (Value.int .i64 n6) ∧
  Calls Try.prog 23 #[(Value.pointer b_2)] w8 fun e10 w11 =>
  ∃ n9, e10 = Ending.returned (Value.int .i64 n9) ∧
  Calls Try.prog 59 #[(Value.int .i64 (if n9 > n6 then n9 else n6))] w11 fun e13 w14 =>
  ∃ p12, e13 = Ending.returned (Value.pointer p12) ∧
  V.ptr p12 fun a15 =>
  ∃ A16, ∃ A16l, ∃ A16c, World.cell? w14 (Addr.add a15 1) = some (Value.slice A16 A16l A16c) ∧
  ∃ I17 : Int → World → Prop, ∃ μ18 : Int → World → Nat, I17 0 w14 ∧
  ∀ t20_19 (j20 : Nat → Value) (w21 : World), I17 t20_19 w21 →
  (V.sel (decide (t20_19 < ((A16l : Nat) : Int)))
  (∃ S22 : World → Prop, S22 (World.drew w21) ∧
  V.ptr p12 fun a24 =>
  ∃ A25, ∃ A25l, ∃ A25c, (∀ w23, S22 w23 → World.cell? w23 (Addr.add a24 1) = some (Value.slice A25 A25l A25c)) ∧
  Calls Try.prog 43 #[(Value.pointer a_1), (Value.int .i64 t20_19)] (World.drew w21) fun e27 w28 =>
  ∃ n26, e27 = Ending.returned (Value.int .u64 n26) ∧
  S22 w28 ∧
  Calls Try.prog 43 #[(Value.pointer b_2), (Value.int .i64 t20_19)] w28 fun e30 w31 =>
  ∃ n29, e30 = Ending.returned (Value.int .u64 n29) ∧
  S22 w31 ∧
  V.when (V.hasB Try.prog one_f3) (Calls Try.prog one_f3 ⟨Array.toList one_a4 ++ [(Value.int .u64 n26), (Value.int .u64 n29)] ++ Array.toList one_c5⟩ w31 fun e33 w34 =>
  ∃ n32, e33 = Ending.returned (Value.int .u64 n32) ∧
  S22 w34 ∧
  V.when (decide ((0 : Int) ≤ t20_19 ∧ (t20_19 : Int) < ((A25l : Nat) : Int))) (V.ptr A25 fun a35 =>
  (∃ u36, World.cell? w34 (Addr.add (Addr.add a35 ((Int.toNat t20_19) * 1)) 0) = some u36) ∧ World.frozen? w34 (Addr.add (Addr.add a35 ((Int.toNat t20_19) * 1)) 0) = false ∧
  I17 (IntKind.wrap .i64 (t20_19 + 1)) (World.setCell w34 (Addr.add (Addr.add a35 ((Int.toNat t20_19) * 1)) 0) (Value.int .u64 n32)) ∧ μ18 (IntKind.wrap .i64 (t20_19 + 1)) (World.setCell w34 (Addr.add (Addr.add a35 ((Int.toNat t20_19) * 1)) 0) (Value.int .u64 n32)) < μ18 t20_19 w21)))
  (R (Ending.returned (Value.pointer p12)) w21))) :
  Calls Try.prog 45 #[(Value.pointer a_1), (Value.pointer b_2), (Value.func (.func one_f3) one_a4 one_c5)] w R :=
  V.calls_of_R ⟨V.assoc [(0, [20])], V.assocP [(5, V.line [0, 1, 2, 3, 4, 5, 6, 7, 9, 10, 8, 11, 12, 13, 14])], V.assocC [], V.assocS [], ⟨[], false⟩⟩ Try.func45 rfl (Eq.mp (by kernel_rfl) h)

theorem bitset_Or_l1_nf (x_1 : Int) (y_2 : Int) (w : World) (R : Ending → World → Prop) (h :
  V.lt (IntKind.wrap .u64 ((BitVec.toNat (BitVec.ofInt 64 x_1 ||| BitVec.ofInt 64 y_2) : Nat) : Int)) fun x3 =>
  R (Ending.returned (Value.int .u64 x3)) w) :
  Calls Try.prog 46 #[(Value.int .u64 x_1), (Value.int .u64 y_2)] w R :=
  V.calls_of_R ⟨V.assoc [], V.assocP [], V.assocC [], V.assocS [], ⟨[], false⟩⟩ Try.func46 rfl (Eq.mp (by kernel_rfl) h)

theorem bitset_Set_OrWith_nf (s_1 : Option Addr) (t_2 : Option Addr) (w : World) (R : Ending → World → Prop) (h :
  V.sel (Option.isNone s_1)
  (R (Ending.returned undef) w)
  (V.ptr s_1 fun a3 =>
  ∃ A4, ∃ A4l, ∃ A4c, World.cell? w (Addr.add a3 1) = some (Value.slice A4 A4l A4c) ∧
  ∃ I5 : Int → World → Prop, ∃ μ6 : Int → World → Nat, I5 0 w ∧
  ∀ t13_7 (j8 : Nat → Value) (w9 : World), I5 t13_7 w9 →
  (V.sel (decide (t13_7 < ((A4l : Nat) : Int)))
  (∃ S10 : World → Prop, S10 (World.drew w9) ∧
  V.ptr s_1 fun a12 =>
  ∃ A13, ∃ A13l, ∃ A13c, (∀ w11, S10 w11 → World.cell? w11 (Addr.add a12 1) = some (Value.slice A13 A13l A13c)) ∧
  V.when (decide ((0 : Int) ≤ t13_7 ∧ (t13_7 : Int) < ((A13l : Nat) : Int))) (V.ptr A13 fun a14 =>
  ∃ n15, (∀ w11, S10 w11 → World.cell? w11 (Addr.add a14 ((Int.toNat t13_7) * 1)) = some (Value.int .u64 n15)) ∧
  Calls Try.prog 43 #[(Value.pointer t_2), (Value.int .i64 t13_7)] (World.drew w9) fun e17 w18 =>
  ∃ n16, e17 = Ending.returned (Value.int .u64 n16) ∧
  S10 w18 ∧
  V.when (decide ((0 : Int) ≤ t13_7 ∧ (t13_7 : Int) < ((A13l : Nat) : Int))) (V.ptr A13 fun a19 =>
  (∃ u20, World.cell? w18 (Addr.add (Addr.add a19 ((Int.toNat t13_7) * 1)) 0) = some u20) ∧ World.frozen? w18 (Addr.add (Addr.add a19 ((Int.toNat t13_7) * 1)) 0) = false ∧
  I5 (IntKind.wrap .i64 (t13_7 + 1)) (World.setCell w18 (Addr.add (Addr.add a19 ((Int.toNat t13_7) * 1)) 0) (Value.int .u64 (IntKind.wrap .u64 ((BitVec.toNat (BitVec.ofInt 64 n15 ||| BitVec.ofInt 64 n16) : Nat) : Int)))) ∧ μ6 (IntKind.wrap .i64 (t13_7 + 1)) (World.setCell w18 (Addr.add (Addr.add a19 ((Int.toNat t13_7) * 1)) 0) (Value.int .u64 (IntKind.wrap .u64 ((BitVec.toNat (BitVec.ofInt 64 n15 ||| BitVec.ofInt 64 n16) : Nat) : Int)))) < μ6 t13_7 w9)))
  (V.ptr s_1 fun a21 =>
  ∃ n22, World.cell? w9 (Addr.add a21 0) = some (Value.int .i64 n22) ∧
  V.sel ((Int.tmod n22 64) != 0)
  (V.ptr s_1 fun a23 =>
  ∃ A24, ∃ A24l, ∃ A24c, World.cell? w9 (Addr.add a23 1) = some (Value.slice A24 A24l A24c) ∧
  V.ptr s_1 fun a25 =>
  ∃ A26, ∃ A26l, ∃ A26c, World.cell? w9 (Addr.add a25 1) = some (Value.slice A26 A26l A26c) ∧
  V.when (decide ((0 : Int) ≤ (IntKind.wrap .i64 (((A26l : Nat) : Int) - 1)) ∧ ((IntKind.wrap .i64 (((A26l : Nat) : Int) - 1)) : Int) < ((A24l : Nat) : Int))) (V.ptr A24 fun a27 =>
  ∃ n28, World.cell? w9 (Addr.add a27 ((Int.toNat (IntKind.wrap .i64 (((A26l : Nat) : Int) - 1))) * 1)) = some (Value.int .u64 n28) ∧
  V.when (decide (0 ≤ (Int.tmod n22 64))) (V.when (decide ((0 : Int) ≤ (IntKind.wrap .i64 (((A26l : Nat) : Int) - 1)) ∧ ((IntKind.wrap .i64 (((A26l : Nat) : Int) - 1)) : Int) < ((A24l : Nat) : Int))) (V.ptr A24 fun a29 =>
  (∃ u30, World.cell? (World.drew w9) (Addr.add (Addr.add a29 ((Int.toNat (IntKind.wrap .i64 (((A26l : Nat) : Int) - 1))) * 1)) 0) = some u30) ∧ World.frozen? (World.drew w9) (Addr.add (Addr.add a29 ((Int.toNat (IntKind.wrap .i64 (((A26l : Nat) : Int) - 1))) * 1)) 0) = false ∧
  R (Ending.returned undef) (World.setCell (World.drew w9) (Addr.add (Addr.add a29 ((Int.toNat (IntKind.wrap .i64 (((A26l : Nat) : Int) - 1))) * 1)) 0) (Value.int .u64 (IntKind.wrap .u64 ((BitVec.toNat (BitVec.ofInt 64 n28 &&& BitVec.ofInt 64 (IntKind.wrap .u64 ((IntKind.wrap .u64 (1 * 2 ^ (min (Int.toNat (Int.tmod n22 64)) 64))) - 1))) : Nat) : Int))))))))
  (R (Ending.returned undef) w9))))) :
  Calls Try.prog 49 #[(Value.pointer s_1), (Value.pointer t_2)] w R :=
  V.calls_of_R ⟨V.assoc [(0, [13])], V.assocP [(4, V.line [0, 1, 2, 3, 4, 5, 6, 7, 8, 9, 10, 11, 12]), (8, V.line [0, 1, 2, 3, 4, 5, 6, 7, 8, 9, 10, 11, 12, 13, 14, 15, 16, 17])], V.assocC [], V.assocS [], ⟨[], false⟩⟩ Try.func49 rfl (Eq.mp (by kernel_rfl) h)

theorem bitset_And_l1_nf (x_1 : Int) (y_2 : Int) (w : World) (R : Ending → World → Prop) (h :
  V.lt (IntKind.wrap .u64 ((BitVec.toNat (BitVec.ofInt 64 x_1 &&& BitVec.ofInt 64 y_2) : Nat) : Int)) fun x3 =>
  R (Ending.returned (Value.int .u64 x3)) w) :
  Calls Try.prog 50 #[(Value.int .u64 x_1), (Value.int .u64 y_2)] w R :=
  V.calls_of_R ⟨V.assoc [], V.assocP [], V.assocC [], V.assocS [], ⟨[], false⟩⟩ Try.func50 rfl (Eq.mp (by kernel_rfl) h)

theorem bitset_Set_inside_nf (s_1 : Option Addr) (i_2 : Int) (w : World) (R : Ending → World → Prop) (h :
  V.sel (decide (i_2 ≥ 0))
  (Calls Try.prog 23 #[(Value.pointer s_1)] w fun e4 w5 =>
  ∃ n3, e4 = Ending.returned (Value.int .i64 n3) ∧
  R (Ending.returned (Value.bool (decide (i_2 < n3)))) w5)
  (R (Ending.returned (Value.bool false)) w)) :
  Calls Try.prog 51 #[(Value.pointer s_1), (Value.int .i64 i_2)] w R :=
  V.calls_of_R ⟨V.assoc [], V.assocP [], V.assocC [], V.assocS [], ⟨[], false⟩⟩ Try.func51 rfl (Eq.mp (by kernel_rfl) h)

theorem bitset_blank_nf (n_1 : Int) (w : World) (R : Ending → World → Prop) (h :
  Calls Try.prog 74 #[(Value.int .i64 n_1)] w fun e3 w4 =>
  ∃ n2, e3 = Ending.returned (Value.int .i64 n2) ∧
  V.when (decide ((0 : Int) ≤ n2 ∧ (n2 : Int) ≤ n2 ∧ (n2 : Int) ≤ 281474976710656 ∧ (8 : Int) * n2 ≤ 281474976710656)) (R (Ending.returned (Value.pointer (some ⟨Array.size (World.heap (World.alloc w4 (.cells ⟨V.rep (Int.toNat n2) [(Value.int .u64 0)]⟩ 79))), 0, none⟩))) (World.alloc (World.alloc w4 (.cells ⟨V.rep (Int.toNat n2) [(Value.int .u64 0)]⟩ 79)) (.cells #[(Value.int .i64 n_1), (Value.slice (some ⟨Array.size (World.heap w4), 0, none⟩) (Int.toNat n2) (Int.toNat n2))] 93)))) :
  Calls Try.prog 59 #[(Value.int .i64 n_1)] w R :=
  V.calls_of_R ⟨V.assoc [], V.assocP [], V.assocC [], V.assocS [], ⟨[], false⟩⟩ Try.func59 rfl (Eq.mp (by kernel_rfl) h)

theorem bitset_Set_Remove_nf (s_1 : Option Addr) (i_2 : Int) (w : World) (R : Ending → World → Prop) (h :
  Calls Try.prog 20 #[(Value.pointer s_1), (Value.int .i64 i_2)] w fun e4 w5 =>
  ∃ b3, e4 = Ending.returned (Value.bool b3) ∧
  V.sel (!b3)
  (R (Ending.returned (Value.bool false)) w5)
  (V.ptr s_1 fun a6 =>
  ∃ A7, ∃ A7l, ∃ A7c, World.cell? w5 (Addr.add a6 1) = some (Value.slice A7 A7l A7c) ∧
  V.when (decide ((0 : Int) ≤ (IntKind.wrap .i64 (Int.tdiv i_2 64)) ∧ ((IntKind.wrap .i64 (Int.tdiv i_2 64)) : Int) < ((A7l : Nat) : Int))) (V.ptr A7 fun a8 =>
  ∃ n9, World.cell? w5 (Addr.add a8 ((Int.toNat (IntKind.wrap .i64 (Int.tdiv i_2 64))) * 1)) = some (Value.int .u64 n9) ∧
  V.when (decide (0 ≤ (Int.tmod i_2 64))) (V.when (decide ((0 : Int) ≤ (IntKind.wrap .i64 (Int.tdiv i_2 64)) ∧ ((IntKind.wrap .i64 (Int.tdiv i_2 64)) : Int) < ((A7l : Nat) : Int))) (V.ptr A7 fun a10 =>
  (∃ u11, World.cell? (World.drew w5) (Addr.add (Addr.add a10 ((Int.toNat (IntKind.wrap .i64 (Int.tdiv i_2 64))) * 1)) 0) = some u11) ∧ World.frozen? (World.drew w5) (Addr.add (Addr.add a10 ((Int.toNat (IntKind.wrap .i64 (Int.tdiv i_2 64))) * 1)) 0) = false ∧
  R (Ending.returned (Value.bool true)) (World.setCell (World.drew w5) (Addr.add (Addr.add a10 ((Int.toNat (IntKind.wrap .i64 (Int.tdiv i_2 64))) * 1)) 0) (Value.int .u64 (IntKind.wrap .u64 ((BitVec.toNat (BitVec.ofInt 64 n9 &&& ~~~(BitVec.ofInt 64 (IntKind.wrap .u64 (1 * 2 ^ (min (Int.toNat (Int.tmod i_2 64)) 64))))) : Nat) : Int))))))))) :
  Calls Try.prog 66 #[(Value.pointer s_1), (Value.int .i64 i_2)] w R :=
  V.calls_of_R ⟨V.assoc [], V.assocP [(3, V.line [0, 1, 2, 3, 4, 5, 6, 7, 8, 9, 10, 11, 12, 13])], V.assocC [], V.assocS [], ⟨[], false⟩⟩ Try.func66 rfl (Eq.mp (by kernel_rfl) h)

theorem bitset_AndNot_l1_nf (x_1 : Int) (y_2 : Int) (w : World) (R : Ending → World → Prop) (h :
  V.lt (IntKind.wrap .u64 ((BitVec.toNat (BitVec.ofInt 64 x_1 &&& ~~~(BitVec.ofInt 64 y_2)) : Nat) : Int)) fun x3 =>
  R (Ending.returned (Value.int .u64 x3)) w) :
  Calls Try.prog 72 #[(Value.int .u64 x_1), (Value.int .u64 y_2)] w R :=
  V.calls_of_R ⟨V.assoc [], V.assocP [], V.assocC [], V.assocS [], ⟨[], false⟩⟩ Try.func72 rfl (Eq.mp (by kernel_rfl) h)

theorem bitset_New_nf (n_1 : Int) (w : World) (R : Ending → World → Prop) (h :
  V.sel (decide (n_1 < 0))
  (R (Ending.returned (Value.tuple #[(Value.pointer none), (Value.int .i64 11)])) w)
  (V.sel (decide (n_1 > 65536))
  (R (Ending.returned (Value.tuple #[(Value.pointer none), (Value.int .i64 11)])) w)
  (Calls Try.prog 59 #[(Value.int .i64 n_1)] w fun e3 w4 =>
  ∃ p2, e3 = Ending.returned (Value.pointer p2) ∧
  R (Ending.returned (Value.tuple #[(Value.pointer p2), (Value.int .i64 0)])) w4))) :
  Calls Try.prog 73 #[(Value.int .i64 n_1)] w R :=
  V.calls_of_R ⟨V.assoc [], V.assocP [], V.assocC [], V.assocS [], ⟨[], false⟩⟩ Try.func73 rfl (Eq.mp (by kernel_rfl) h)

theorem bitset_wordCount_nf (n_1 : Int) (w : World) (R : Ending → World → Prop) (h :
  V.lt (IntKind.wrap .i64 (Int.tdiv (IntKind.wrap .i64 (n_1 + 63)) 64)) fun x2 =>
  R (Ending.returned (Value.int .i64 x2)) w) :
  Calls Try.prog 74 #[(Value.int .i64 n_1)] w R :=
  V.calls_of_R ⟨V.assoc [], V.assocP [], V.assocC [], V.assocS [], ⟨[], false⟩⟩ Try.func74 rfl (Eq.mp (by kernel_rfl) h)

theorem math_bits_OnesCount64_nf (x_1 : Int) (w : World) (R : Ending → World → Prop) (h :
  V.lt (IntKind.wrap .u64 ((IntKind.wrap .u64 ((BitVec.toNat (BitVec.ofInt 64 (Int.fdiv x_1 (2 ^ 1)) &&& BitVec.ofInt 64 6148914691236517205) : Nat) : Int)) + (IntKind.wrap .u64 ((BitVec.toNat (BitVec.ofInt 64 x_1 &&& BitVec.ofInt 64 6148914691236517205) : Nat) : Int)))) fun x2 =>
  V.lt (IntKind.wrap .u64 ((IntKind.wrap .u64 ((BitVec.toNat (BitVec.ofInt 64 (Int.fdiv x2 (2 ^ 2)) &&& BitVec.ofInt 64 3689348814741910323) : Nat) : Int)) + (IntKind.wrap .u64 ((BitVec.toNat (BitVec.ofInt 64 x2 &&& BitVec.ofInt 64 3689348814741910323) : Nat) : Int)))) fun x3 =>
  V.lt (IntKind.wrap .u64 ((BitVec.toNat (BitVec.ofInt 64 (IntKind.wrap .u64 ((Int.fdiv x3 (2 ^ 4)) + x3)) &&& BitVec.ofInt 64 1085102592571150095) : Nat) : Int)) fun x4 =>
  V.lt (IntKind.wrap .u64 (x4 + (Int.fdiv x4 (2 ^ 8)))) fun x5 =>
  V.lt (IntKind.wrap .u64 (x5 + (Int.fdiv x5 (2 ^ 16)))) fun x6 =>
  V.lt (IntKind.wrap .u64 (x6 + (Int.fdiv x6 (2 ^ 32)))) fun x7 =>
  V.lt (IntKind.wrap .i64 ((BitVec.toNat (BitVec.ofInt 64 (IntKind.wrap .i64 (x7)) &&& BitVec.ofInt 64 127) : Nat) : Int)) fun x8 =>
  R (Ending.returned (Value.int .i64 x8)) w) :
  Calls Try.prog 75 #[(Value.int .u64 x_1)] w R :=
  V.calls_of_R ⟨V.assoc [], V.assocP [], V.assocC [], V.assocS [], ⟨[], false⟩⟩ Try.func75 rfl (Eq.mp (by kernel_rfl) h)

theorem berthlaw08_OrderedParts_nf (script_1 : Option Addr) (script_1l : Nat) (script_1c : Nat) (asked_2 : ByteArray) (asked_3 : Int) (asked_4 : Int) (w : World) (R : Ending → World → Prop) (h :
  ∀ w5, w5 = (World.alloc w (.cells #[(Value.string asked_2), (Value.int .i64 asked_3), (Value.int .i64 asked_4)] 24)) →
  Calls Try.prog 8 #[] w5 fun e7 w8 =>
  ∃ b6, e7 = Ending.returned (Value.bool b6) ∧
  V.sel (!b6)
  (R (Ending.returned (Value.bool false)) w8)
  (∃ s9, World.cell? w8 (Addr.add ⟨Array.size (World.heap w), 0, none⟩ 0) = some (Value.string s9) ∧
  ∃ n10, World.cell? w8 (Addr.add ⟨Array.size (World.heap w), 0, none⟩ 1) = some (Value.int .i64 n10) ∧
  ∃ n11, World.cell? w8 (Addr.add ⟨Array.size (World.heap w), 0, none⟩ 2) = some (Value.int .i64 n11) ∧
  Calls Try.prog 9 #[(Value.slice script_1 script_1l script_1c)] (World.drew w8) fun e14 w15 =>
  ∃ p12, ∃ b13, e14 = Ending.returned (Value.tuple #[(Value.pointer p12), (Value.bool b13)]) ∧
  V.sel (!b13)
  (R (Ending.returned (Value.bool false)) w15)
  (Calls Try.prog 10 #[(Value.pointer p12), (Value.string s9)] w15 fun e17 w18 =>
  ∃ p16, e17 = Ending.returned (Value.pointer p16) ∧
  Calls Try.prog 11 #[(Value.pointer p12), (Value.string s9), (Value.int .i64 3), (Value.int .i64 n10)] w18 fun e20 w21 =>
  ∃ p19, e20 = Ending.returned (Value.pointer p19) ∧
  Calls Try.prog 11 #[(Value.pointer p12), (Value.string s9), (Value.int .i64 1), (Value.int .i64 n10)] w21 fun e23 w24 =>
  ∃ p22, e23 = Ending.returned (Value.pointer p22) ∧
  Calls Try.prog 11 #[(Value.pointer p12), (Value.string s9), (Value.int .i64 5), (Value.int .i64 n10)] w24 fun e26 w27 =>
  ∃ p25, e26 = Ending.returned (Value.pointer p25) ∧
  Calls Try.prog 12 #[(Value.pointer p19), (Value.pointer p22)] w27 fun e29 w30 =>
  ∃ b28, e29 = Ending.returned (Value.bool b28) ∧
  V.sel b28
  (R (Ending.returned (Value.bool false)) w30)
  (Calls Try.prog 12 #[(Value.pointer p19), (Value.pointer p25)] w30 fun e32 w33 =>
  ∃ b31, e32 = Ending.returned (Value.bool b31) ∧
  V.sel b31
  (R (Ending.returned (Value.bool false)) w33)
  (Calls Try.prog 12 #[(Value.pointer p22), (Value.pointer p25)] w33 fun e35 w36 =>
  ∃ b34, e35 = Ending.returned (Value.bool b34) ∧
  V.sel b34
  (R (Ending.returned (Value.bool false)) w36)
  (Calls Try.prog 13 #[(Value.pointer p19)] w36 fun e38 w39 =>
  ∃ n37, e38 = Ending.returned (Value.int .i64 n37) ∧
  Calls Try.prog 13 #[(Value.pointer p22)] w39 fun e41 w42 =>
  ∃ n40, e41 = Ending.returned (Value.int .i64 n40) ∧
  Calls Try.prog 13 #[(Value.pointer p25)] w42 fun e44 w45 =>
  ∃ n43, e44 = Ending.returned (Value.int .i64 n43) ∧
  Calls Try.prog 13 #[(Value.pointer p16)] w45 fun e47 w48 =>
  ∃ n46, e47 = Ending.returned (Value.int .i64 n46) ∧
  V.sel ((IntKind.wrap .i64 ((IntKind.wrap .i64 (n37 + n40)) + n43)) != n46)
  (R (Ending.returned (Value.bool false)) w48)
  (Calls Try.prog 15 #[(Value.pointer p22), (Value.pointer p25)] w48 fun e50 w51 =>
  ∃ p49, e50 = Ending.returned (Value.pointer p49) ∧
  Calls Try.prog 15 #[(Value.pointer p19), (Value.pointer p49)] w51 fun e53 w54 =>
  ∃ p52, e53 = Ending.returned (Value.pointer p52) ∧
  Calls Try.prog 14 #[(Value.pointer p52), (Value.pointer p16)] w54 fun e56 w57 =>
  ∃ b55, e56 = Ending.returned (Value.bool b55) ∧
  V.sel (!b55)
  (R (Ending.returned (Value.bool false)) w57)
  (Calls Try.prog 11 #[(Value.pointer p12), (Value.string s9), (Value.int .i64 4), (Value.int .i64 n10)] w57 fun e59 w60 =>
  ∃ p58, e59 = Ending.returned (Value.pointer p58) ∧
  Calls Try.prog 15 #[(Value.pointer p19), (Value.pointer p22)] w60 fun e62 w63 =>
  ∃ p61, e62 = Ending.returned (Value.pointer p61) ∧
  Calls Try.prog 14 #[(Value.pointer p58), (Value.pointer p61)] w63 fun e65 w66 =>
  ∃ b64, e65 = Ending.returned (Value.bool b64) ∧
  V.sel (!b64)
  (R (Ending.returned (Value.bool false)) w66)
  (Calls Try.prog 11 #[(Value.pointer p12), (Value.string s9), (Value.int .i64 6), (Value.int .i64 n10)] w66 fun e68 w69 =>
  ∃ p67, e68 = Ending.returned (Value.pointer p67) ∧
  Calls Try.prog 15 #[(Value.pointer p25), (Value.pointer p22)] w69 fun e71 w72 =>
  ∃ p70, e71 = Ending.returned (Value.pointer p70) ∧
  Calls Try.prog 14 #[(Value.pointer p67), (Value.pointer p70)] w72 fun e74 w75 =>
  ∃ b73, e74 = Ending.returned (Value.bool b73) ∧
  V.sel (!b73)
  (R (Ending.returned (Value.bool false)) w75)
  (Calls Try.prog 11 #[(Value.pointer p12), (Value.string s9), (Value.int .i64 2), (Value.int .i64 n10)] w75 fun e77 w78 =>
  ∃ p76, e77 = Ending.returned (Value.pointer p76) ∧
  Calls Try.prog 15 #[(Value.pointer p19), (Value.pointer p25)] w78 fun e80 w81 =>
  ∃ p79, e80 = Ending.returned (Value.pointer p79) ∧
  Calls Try.prog 14 #[(Value.pointer p76), (Value.pointer p79)] w81 fun e83 w84 =>
  ∃ b82, e83 = Ending.returned (Value.bool b82) ∧
  V.sel (!b82)
  (R (Ending.returned (Value.bool false)) w84)
  (∀ w85, w85 = (World.alloc w84 (.cells #[(Value.int .i64 n10)] 3)) →
  Calls Try.prog 16 #[(Value.pointer p12), (Value.string s9), (Value.slice (some ⟨Array.size (World.heap w84), 0, none⟩) 1 1)] w85 fun e87 w88 =>
  ∃ p86, e87 = Ending.returned (Value.pointer p86) ∧
  Calls Try.prog 14 #[(Value.pointer p86), (Value.pointer p22)] w88 fun e90 w91 =>
  ∃ b89, e90 = Ending.returned (Value.bool b89) ∧
  V.sel (!b89)
  (R (Ending.returned (Value.bool false)) w91)
  (Calls Try.prog 17 #[(Value.pointer p12), (Value.string s9), (Value.int .i64 n10), (Value.int .i64 n10)] w91 fun e93 w94 =>
  ∃ p92, e93 = Ending.returned (Value.pointer p92) ∧
  Calls Try.prog 14 #[(Value.pointer p92), (Value.pointer p22)] w94 fun e96 w97 =>
  ∃ b95, e96 = Ending.returned (Value.bool b95) ∧
  V.sel (!b95)
  (R (Ending.returned (Value.bool false)) w97)
  (Calls Try.prog 17 #[(Value.pointer p12), (Value.string s9), (Value.int .i64 n10), (Value.int .i64 n11)] w97 fun e99 w100 =>
  ∃ p98, e99 = Ending.returned (Value.pointer p98) ∧
  Calls Try.prog 11 #[(Value.pointer p12), (Value.string s9), (Value.int .i64 6), (Value.int .i64 n10)] w100 fun e102 w103 =>
  ∃ p101, e102 = Ending.returned (Value.pointer p101) ∧
  Calls Try.prog 11 #[(Value.pointer p12), (Value.string s9), (Value.int .i64 4), (Value.int .i64 n11)] w103 fun e105 w106 =>
  ∃ p104, e105 = Ending.returned (Value.pointer p104) ∧
  Calls Try.prog 18 #[(Value.pointer p101), (Value.pointer p104)] w106 fun e108 w109 =>
  ∃ p107, e108 = Ending.returned (Value.pointer p107) ∧
  Calls Try.prog 14 #[(Value.pointer p98), (Value.pointer p107)] w109 fun e111 w112 =>
  ∃ b110, e111 = Ending.returned (Value.bool b110) ∧
  V.sel (!b110)
  (R (Ending.returned (Value.bool false)) w112)
  (∃ I113 : Int → World → Prop, ∃ μ114 : Int → World → Nat, I113 0 w112 ∧
  ∀ slot_115 (j116 : Nat → Value) (w117 : World), I113 slot_115 w117 →
  (V.sel (decide (slot_115 < 200))
  (Calls Try.prog 19 #[(Value.pointer p12), (Value.string s9), (Value.int .i64 slot_115)] w117 fun e120 w121 =>
  ∃ n118, ∃ b119, e120 = Ending.returned (Value.tuple #[(Value.int .i64 n118), (Value.bool b119)]) ∧
  Calls Try.prog 20 #[(Value.pointer p16), (Value.int .i64 slot_115)] w121 fun e123 w124 =>
  ∃ b122, e123 = Ending.returned (Value.bool b122) ∧
  V.sel (!(b119 == b122))
  (R (Ending.returned (Value.bool false)) w124)
  (Calls Try.prog 20 #[(Value.pointer p19), (Value.int .i64 slot_115)] w124 fun e126 w127 =>
  ∃ b125, e126 = Ending.returned (Value.bool b125) ∧
  V.sel b119
  (V.sel (!(b125 == (decide (n118 < n10))))
  (R (Ending.returned (Value.bool false)) w127)
  (Calls Try.prog 20 #[(Value.pointer p25), (Value.int .i64 slot_115)] w127 fun e129 w130 =>
  ∃ b128, e129 = Ending.returned (Value.bool b128) ∧
  V.sel b119
  (V.sel (!(b128 == (decide (n118 > n10))))
  (R (Ending.returned (Value.bool false)) w130)
  (I113 (IntKind.wrap .i64 (slot_115 + 1)) w130 ∧ μ114 (IntKind.wrap .i64 (slot_115 + 1)) w130 < μ114 slot_115 w117))
  (V.sel (!(b128 == false))
  (R (Ending.returned (Value.bool false)) w130)
  (I113 (IntKind.wrap .i64 (slot_115 + 1)) w130 ∧ μ114 (IntKind.wrap .i64 (slot_115 + 1)) w130 < μ114 slot_115 w117))))
  (V.sel (!(b125 == false))
  (R (Ending.returned (Value.bool false)) w127)
  (Calls Try.prog 20 #[(Value.pointer p25), (Value.int .i64 slot_115)] w127 fun e132 w133 =>
  ∃ b131, e132 = Ending.returned (Value.bool b131) ∧
  V.sel b119
  (V.sel (!(b131 == (decide (n118 > n10))))
  (R (Ending.returned (Value.bool false)) w133)
  (I113 (IntKind.wrap .i64 (slot_115 + 1)) w133 ∧ μ114 (IntKind.wrap .i64 (slot_115 + 1)) w133 < μ114 slot_115 w117))
  (V.sel (!(b131 == false))
  (R (Ending.returned (Value.bool false)) w133)
  (I113 (IntKind.wrap .i64 (slot_115 + 1)) w133 ∧ μ114 (IntKind.wrap .i64 (slot_115 + 1)) w133 < μ114 slot_115 w117))))))
  (R (Ending.returned (Value.bool true)) w117)))))))))))))))) :
  Calls Try.prog 3 #[(Value.slice script_1 script_1l script_1c), (Value.agg #[(Value.string asked_2), (Value.int .i64 asked_3), (Value.int .i64 asked_4)])] w R :=
  V.calls_of_R ⟨V.assoc [(0, [14])], V.assocP [(3, V.line [0, 1, 2, 3, 4, 5, 6, 7, 8])], V.assocC [], V.assocS [], ⟨[], true⟩⟩ Try.func3 rfl (Eq.mp (by kernel_rfl) h)

theorem berthlaw08_OrderedRows_nf (script_1 : Option Addr) (script_1l : Nat) (script_1c : Nat) (w : World) (R : Ending → World → Prop) (h :
  ∀ w2, w2 = (World.alloc w (.cells #[(Value.bool false)] 4)) →
  Calls Try.prog 8 #[] w2 fun e4 w5 =>
  ∃ b3, e4 = Ending.returned (Value.bool b3) ∧
  V.sel (!b3)
  (∃ w6, Sem.run Try.prog (Instr.storeAt 4 (Value.pointer (some ⟨Array.size (World.heap w), 0, none⟩)) (Value.bool false)) w5 = .ok () w6 ∧
  ∃ b7, World.cell? w6 ⟨Array.size (World.heap w), 0, none⟩ = some (Value.bool b7) ∧
  R (Ending.returned (Value.bool b7)) w6)
  (Calls Try.prog 9 #[(Value.slice script_1 script_1l script_1c)] w5 fun e10 w11 =>
  ∃ p8, ∃ b9, e10 = Ending.returned (Value.tuple #[(Value.pointer p8), (Value.bool b9)]) ∧
  ∀ w12, w12 = (World.alloc w11 (.cells #[(Value.pointer none)] 26)) →
  ∃ w13, Sem.run Try.prog (Instr.storeAt 26 (Value.pointer (some ⟨Array.size (World.heap w11), 0, none⟩)) (Value.pointer p8)) w12 = .ok () w13 ∧
  V.sel (!b9)
  (∃ w14, Sem.run Try.prog (Instr.storeAt 4 (Value.pointer (some ⟨Array.size (World.heap w), 0, none⟩)) (Value.bool false)) w13 = .ok () w14 ∧
  ∃ b15, World.cell? w14 ⟨Array.size (World.heap w), 0, none⟩ = some (Value.bool b15) ∧
  R (Ending.returned (Value.bool b15)) w14)
  (∃ p16, World.cell? w13 ⟨Array.size (World.heap w11), 0, none⟩ = some (Value.pointer p16) ∧
  Calls Try.prog 21 #[(Value.pointer p16)] w13 fun e18 w19 =>
  ∃ A17, ∃ A17l, ∃ A17c, e18 = Ending.returned (Value.slice A17 A17l A17c) ∧
  ∃ I20 : Int → List Nat → World → Prop, ∃ μ21 : Int → World → Nat, I20 0 [] w19 ∧
  ∀ t35_22 (j23 : Nat → Value) (ds24 : List Nat) (w25 : World), I20 t35_22 ds24 w25 →
  (V.sel (decide (t35_22 < ((A17l : Nat) : Int)))
  (V.when (decide ((0 : Int) ≤ t35_22 ∧ (t35_22 : Int) < ((A17l : Nat) : Int))) (V.ptr A17 fun a26 =>
  ∃ s27, World.cell? w25 (Addr.add a26 ((Int.toNat t35_22) * 1)) = some (Value.string s27) ∧
  ∀ w28, w28 = (World.alloc w25 (.cells #[(Value.string ByteArray.empty)] 9)) →
  ∃ w29, Sem.run Try.prog (Instr.storeAt 9 (Value.pointer (some ⟨Array.size (World.heap w25), 0, none⟩)) (Value.string s27)) w28 = .ok () w29 ∧
  ∃ J30 : World → Prop, (∃ J31 : Bool → World → Prop, (∃ s32, World.cell? w29 ⟨Array.size (World.heap w25), 0, none⟩ = some (Value.string s32) ∧
  V.sel (ByteArray.toList s32 == ByteArray.toList ByteArray.empty)
  (J31 true (World.drew w29))
  (V.sel (decide (t35_22 > 0))
  (V.when (decide ((0 : Int) ≤ (IntKind.wrap .i64 (t35_22 - 1)) ∧ ((IntKind.wrap .i64 (t35_22 - 1)) : Int) < ((A17l : Nat) : Int))) (V.ptr A17 fun a33 =>
  ∃ s34, World.cell? w29 (Addr.add a33 ((Int.toNat (IntKind.wrap .i64 (t35_22 - 1))) * 1)) = some (Value.string s34) ∧
  ∃ s35, World.cell? w29 ⟨Array.size (World.heap w25), 0, none⟩ = some (Value.string s35) ∧
  J31 (!(Op.bytesLess (ByteArray.toList s34) (ByteArray.toList s35))) (World.drew w29)))
  (J31 false (World.drew w29)))) ∧
  ∀ t54_36 (j37 : Nat → Value) (w38 : World), J31 t54_36 w38 →
  V.sel t54_36
  (∃ w39, Sem.run Try.prog (Instr.storeAt 4 (Value.pointer (some ⟨Array.size (World.heap w), 0, none⟩)) (Value.bool false)) w38 = .ok () w39 ∧
  V.closeR ds24 w39 fun w40 =>
  ∃ b41, World.cell? w40 ⟨Array.size (World.heap w), 0, none⟩ = some (Value.bool b41) ∧
  R (Ending.returned (Value.bool b41)) w40)
  (J30  w38)) ∧
  ∀ (j42 : Nat → Value) (w43 : World), J30  w43 →
  ∀ w44, w44 = (World.alloc w43 (.cells #[(Value.int .i64 0)] 3)) →
  ∀ w45, w45 = (World.alloc w44 (.cells #[(Value.int .i64 0)] 3)) →
  ∃ w46, Sem.run Try.prog (Instr.storeAt 3 (Value.pointer (some ⟨Array.size (World.heap w43), 0, none⟩)) (Value.int .i64 0)) w45 = .ok () w46 ∧
  ∃ w47, Sem.run Try.prog (Instr.storeAt 3 (Value.pointer (some ⟨Array.size (World.heap w44), 0, none⟩)) (Value.int .i64 0)) w46 = .ok () w47 ∧
  ∃ p48, World.cell? w47 ⟨Array.size (World.heap w11), 0, none⟩ = some (Value.pointer p48) ∧
  ∃ s49, World.cell? w47 ⟨Array.size (World.heap w25), 0, none⟩ = some (Value.string s49) ∧
  Calls Try.prog 22 #[(Value.pointer p48), (Value.string s49)] w47 fun e51 w52 =>
  ∃ f50, ∃ f50a, ∃ f50c, e51 = Ending.returned (Value.func (.func f50) f50a f50c) ∧
  V.when (V.hasB Try.prog f50 && true) (∀ (Rc53 : Loop) (l54 : Nat) (w55 : World), l54 = Array.size (World.heap w52) + 1 → w55 = World.alloc (World.alloc w52 (.deferred (some []))) (.loop { Rc53 with state := .ready, pending := none }) →
  (∀ y61_58 y62_59 (W56 : World) (R57 : Ending → World → Prop), V.LoopSt W56 l54 Rc53 .ready none →
  (V.LoopSt W56 l54 Rc53 .ready none ∧
  ∃ J60 : World → Prop, (∃ J61 : Bool → World → Prop, (∃ n62, World.cell? (V.setLoop W56 l54 Rc53 .busy none) ⟨Array.size (World.heap w43), 0, none⟩ = some (Value.int .i64 n62) ∧
  V.sel (decide (n62 > 0))
  (∃ n63, World.cell? (V.setLoop W56 l54 Rc53 .busy none) ⟨Array.size (World.heap w44), 0, none⟩ = some (Value.int .i64 n63) ∧
  V.sel (decide (y61_58 ≤ n63))
  (J61 true (V.setLoop W56 l54 Rc53 .busy none))
  (Calls Try.prog 13 #[(Value.pointer y62_59)] (V.setLoop W56 l54 Rc53 .busy none) fun e65 w66 =>
  ∃ n64, e65 = Ending.returned (Value.int .i64 n64) ∧
  V.sel (n64 == 0)
  (J61 true w66)
  (Calls Try.prog 23 #[(Value.pointer y62_59)] w66 fun e68 w69 =>
  ∃ n67, e68 = Ending.returned (Value.int .i64 n67) ∧
  J61 (n67 != 200) w69)))
  (Calls Try.prog 13 #[(Value.pointer y62_59)] (V.setLoop W56 l54 Rc53 .busy none) fun e71 w72 =>
  ∃ n70, e71 = Ending.returned (Value.int .i64 n70) ∧
  V.sel (n70 == 0)
  (J61 true w72)
  (Calls Try.prog 23 #[(Value.pointer y62_59)] w72 fun e74 w75 =>
  ∃ n73, e74 = Ending.returned (Value.int .i64 n73) ∧
  J61 (n73 != 200) w75))) ∧
  ∀ t79_76 (j77 : Nat → Value) (w78 : World), J61 t79_76 w78 →
  V.sel t79_76
  (∃ w79, Sem.run Try.prog (Instr.storeAt 4 (Value.pointer (some ⟨Array.size (World.heap w), 0, none⟩)) (Value.bool false)) w78 = .ok () w79 ∧
  V.LoopSt w79 l54 Rc53 .busy none ∧ R57 (Ending.returned (Value.bool false)) (V.setLoop w79 l54 Rc53 .done (some Code.ret)))
  (J60  w78)) ∧
  ∀ (j80 : Nat → Value) (w81 : World), J60  w81 →
  ∃ J82 : World → Prop, (Calls Try.prog 24 #[(Value.pointer y62_59)] w81 fun e84 w85 =>
  ∃ A83, ∃ A83l, ∃ A83c, e84 = Ending.returned (Value.slice A83 A83l A83c) ∧
  ∃ I86 : Int → World → Prop, ∃ μ87 : Int → World → Nat, I86 0 w85 ∧
  ∀ t83_88 (j89 : Nat → Value) (w90 : World), I86 t83_88 w90 →
  (V.sel (decide (t83_88 < ((A83l : Nat) : Int)))
  (V.when (decide ((0 : Int) ≤ t83_88 ∧ (t83_88 : Int) < ((A83l : Nat) : Int))) (V.ptr A83 fun a91 =>
  ∃ n92, World.cell? w90 (Addr.add a91 ((Int.toNat t83_88) * 1)) = some (Value.int .i64 n92) ∧
  ∃ p93, World.cell? w90 ⟨Array.size (World.heap w11), 0, none⟩ = some (Value.pointer p93) ∧
  ∃ s94, World.cell? w90 ⟨Array.size (World.heap w25), 0, none⟩ = some (Value.string s94) ∧
  Calls Try.prog 19 #[(Value.pointer p93), (Value.string s94), (Value.int .i64 n92)] w90 fun e97 w98 =>
  ∃ n95, ∃ b96, e97 = Ending.returned (Value.tuple #[(Value.int .i64 n95), (Value.bool b96)]) ∧
  ∃ J99 : Bool → World → Prop, (V.sel (!b96)
  (J99 true w98)
  (J99 (n95 != y61_58) w98)) ∧
  ∀ t100_100 (j101 : Nat → Value) (w102 : World), J99 t100_100 w102 →
  V.sel t100_100
  (∃ w103, Sem.run Try.prog (Instr.storeAt 4 (Value.pointer (some ⟨Array.size (World.heap w), 0, none⟩)) (Value.bool false)) w102 = .ok () w103 ∧
  V.LoopSt w103 l54 Rc53 .busy none ∧ R57 (Ending.returned (Value.bool false)) (V.setLoop w103 l54 Rc53 .done (some Code.ret)))
  (I86 (IntKind.wrap .i64 (t83_88 + 1)) w102 ∧ μ87 (IntKind.wrap .i64 (t83_88 + 1)) w102 < μ87 t83_88 w90)))
  (J82  w90))) ∧
  ∀ (j104 : Nat → Value) (w105 : World), J82  w105 →
  ∃ S106 : World → Prop, S106 (World.drew w105) ∧
  ∃ n108, (∀ w107, S106 w107 → World.cell? w107 ⟨Array.size (World.heap w43), 0, none⟩ = some (Value.int .i64 n108)) ∧
  Calls Try.prog 13 #[(Value.pointer y62_59)] (World.drew w105) fun e110 w111 =>
  ∃ n109, e110 = Ending.returned (Value.int .i64 n109) ∧
  S106 w111 ∧
  ∃ w112, Sem.run Try.prog (Instr.storeAt 3 (Value.pointer (some ⟨Array.size (World.heap w43), 0, none⟩)) (Value.int .i64 (IntKind.wrap .i64 (n108 + n109)))) w111 = .ok () w112 ∧
  ∃ w113, Sem.run Try.prog (Instr.storeAt 3 (Value.pointer (some ⟨Array.size (World.heap w44), 0, none⟩)) (Value.int .i64 y61_58)) w112 = .ok () w113 ∧
  ∃ n114, World.cell? w113 ⟨Array.size (World.heap w43), 0, none⟩ = some (Value.int .i64 n114) ∧
  V.sel (decide (n114 > 200))
  (∃ w115, Sem.run Try.prog (Instr.storeAt 4 (Value.pointer (some ⟨Array.size (World.heap w), 0, none⟩)) (Value.bool false)) w113 = .ok () w115 ∧
  V.LoopSt w115 l54 Rc53 .busy none ∧ R57 (Ending.returned (Value.bool false)) (V.setLoop w115 l54 Rc53 .done (some Code.ret)))
  (V.LoopSt w113 l54 Rc53 .busy none ∧ R57 (Ending.returned (Value.bool true)) (V.setLoop w113 l54 Rc53 .ready none))) →
  V.Yield Try.prog l54 [(Value.int .i64 y61_58), (Value.pointer y62_59)] W56 R57) →
  Calls Try.prog f50 ⟨Array.toList f50a ++ [(Value.func (.yield l54) #[] #[])] ++ Array.toList f50c⟩ w55 fun e116 w118 => (∃ v117, e116 = Ending.returned v117) ∧
  ((V.LoopSt w118 l54 Rc53 .ready none ∧
  ∃ J119 : Bool → World → Prop, (∃ S120 : World → Prop, S120 (World.drew (V.setLoop w118 l54 Rc53 .exhausted none)) ∧
  ∃ n122, (∀ w121, S120 w121 → World.cell? w121 ⟨Array.size (World.heap w43), 0, none⟩ = some (Value.int .i64 n122)) ∧
  V.sel (n122 == 0)
  (J119 true (World.drew (V.setLoop w118 l54 Rc53 .exhausted none)))
  (∃ n123, (∀ w121, S120 w121 → World.cell? w121 ⟨Array.size (World.heap w43), 0, none⟩ = some (Value.int .i64 n123)) ∧
  ∃ p124, (∀ w121, S120 w121 → World.cell? w121 ⟨Array.size (World.heap w11), 0, none⟩ = some (Value.pointer p124)) ∧
  ∃ s125, (∀ w121, S120 w121 → World.cell? w121 ⟨Array.size (World.heap w25), 0, none⟩ = some (Value.string s125)) ∧
  Calls Try.prog 10 #[(Value.pointer p124), (Value.string s125)] (World.drew (V.setLoop w118 l54 Rc53 .exhausted none)) fun e127 w128 =>
  ∃ p126, e127 = Ending.returned (Value.pointer p126) ∧
  S120 w128 ∧
  Calls Try.prog 13 #[(Value.pointer p126)] w128 fun e130 w131 =>
  ∃ n129, e130 = Ending.returned (Value.int .i64 n129) ∧
  S120 w131 ∧
  J119 (n123 != n129) w131)) ∧
  ∀ t118_132 (j133 : Nat → Value) (w134 : World), J119 t118_132 w134 →
  V.sel t118_132
  (∃ w135, Sem.run Try.prog (Instr.storeAt 4 (Value.pointer (some ⟨Array.size (World.heap w), 0, none⟩)) (Value.bool false)) w134 = .ok () w135 ∧
  V.closeR (Array.size (World.heap w52) :: ds24) w135 fun w136 =>
  ∃ b137, World.cell? w136 ⟨Array.size (World.heap w), 0, none⟩ = some (Value.bool b137) ∧
  R (Ending.returned (Value.bool b137)) w136)
  (I20 (IntKind.wrap .i64 (t35_22 + 1)) (Array.size (World.heap w52) :: ds24) w134 ∧ μ21 (IntKind.wrap .i64 (t35_22 + 1)) w134 < μ21 t35_22 w25)) ∨
  (V.LoopSt w118 l54 Rc53 .done (some Code.ret) ∧
  V.closeR (Array.size (World.heap w52) :: ds24) (V.setLoop w118 l54 Rc53 .exhausted (some Code.ret)) fun w138 =>
  ∃ b139, World.cell? w138 ⟨Array.size (World.heap w), 0, none⟩ = some (Value.bool b139) ∧
  R (Ending.returned (Value.bool b139)) w138) ∨
  False))))
  (∃ I140 : Int → World → Prop, ∃ μ141 : Int → World → Nat, I140 0 w25 ∧
  ∀ t122_142 (j143 : Nat → Value) (w144 : World), I140 t122_142 w144 →
  (V.sel (decide (t122_142 < ((script_1l : Nat) : Int)))
  (V.when (decide ((0 : Int) ≤ t122_142 ∧ (t122_142 : Int) < ((script_1l : Nat) : Int))) (V.ptr script_1 fun a145 =>
  ∃ n146, ∃ n147, ∃ n148, ∃ s149, ∃ n150, ∃ n151, ∃ n152, ∃ A153, ∃ A153l, ∃ A153c, V.cellsC (fun a_ x_ => World.cell? w144 a_ = some x_) (Addr.add a145 ((Int.toNat t122_142) * 8)) [(Value.int .i64 n146), (Value.int .i64 n147), (Value.int .i64 n148), (Value.string s149), (Value.int .i64 n150), (Value.int .i64 n151), (Value.int .i64 n152), (Value.slice A153 A153l A153c)] ∧
  ∀ w154, w154 = (World.alloc w144 (.cells #[(Value.int .i64 0), (Value.int .i64 0), (Value.int .i64 0), (Value.string ByteArray.empty), (Value.int .i64 0), (Value.int .i64 0), (Value.int .i64 0), (Value.slice none 0 0)] 50)) →
  ∃ w155, Sem.run Try.prog (Instr.storeAt 50 (Value.pointer (some ⟨Array.size (World.heap w144), 0, none⟩)) (Value.agg #[(Value.int .i64 n146), (Value.int .i64 n147), (Value.int .i64 n148), (Value.string s149), (Value.int .i64 n150), (Value.int .i64 n151), (Value.int .i64 n152), (Value.slice A153 A153l A153c)])) w154 = .ok () w155 ∧
  ∃ p156, World.cell? w155 ⟨Array.size (World.heap w11), 0, none⟩ = some (Value.pointer p156) ∧
  ∃ s157, World.cell? w155 (Addr.add ⟨Array.size (World.heap w144), 0, none⟩ 3) = some (Value.string s157) ∧
  Calls Try.prog 10 #[(Value.pointer p156), (Value.string s157)] w155 fun e159 w160 =>
  ∃ p158, e159 = Ending.returned (Value.pointer p158) ∧
  Calls Try.prog 13 #[(Value.pointer p158)] w160 fun e162 w163 =>
  ∃ n161, e162 = Ending.returned (Value.int .i64 n161) ∧
  V.sel (decide (n161 > 0))
  (∃ J164 : Bool → World → Prop, (∃ I165 : Bool → Int → World → Prop, ∃ μ166 : Bool → Int → World → Nat, I165 false 0 w163 ∧
  ∀ found_167 t134_168 (j169 : Nat → Value) (w170 : World), I165 found_167 t134_168 w170 →
  (V.sel (decide (t134_168 < ((A17l : Nat) : Int)))
  (V.when (decide ((0 : Int) ≤ t134_168 ∧ (t134_168 : Int) < ((A17l : Nat) : Int))) (V.ptr A17 fun a171 =>
  ∃ s172, World.cell? w170 (Addr.add a171 ((Int.toNat t134_168) * 1)) = some (Value.string s172) ∧
  V.sel found_167
  (I165 true (IntKind.wrap .i64 (t134_168 + 1)) w170 ∧ μ166 true (IntKind.wrap .i64 (t134_168 + 1)) w170 < μ166 found_167 t134_168 w170)
  (∃ s173, World.cell? w170 (Addr.add ⟨Array.size (World.heap w144), 0, none⟩ 3) = some (Value.string s173) ∧
  I165 (ByteArray.toList s172 == ByteArray.toList s173) (IntKind.wrap .i64 (t134_168 + 1)) w170 ∧ μ166 (ByteArray.toList s172 == ByteArray.toList s173) (IntKind.wrap .i64 (t134_168 + 1)) w170 < μ166 found_167 t134_168 w170)))
  (J164 found_167 w170))) ∧
  ∀ found_174 (j175 : Nat → Value) (w176 : World), J164 found_174 w176 →
  V.sel (!found_174)
  (∃ w177, Sem.run Try.prog (Instr.storeAt 4 (Value.pointer (some ⟨Array.size (World.heap w), 0, none⟩)) (Value.bool false)) w176 = .ok () w177 ∧
  V.closeR ds24 w177 fun w178 =>
  ∃ b179, World.cell? w178 ⟨Array.size (World.heap w), 0, none⟩ = some (Value.bool b179) ∧
  R (Ending.returned (Value.bool b179)) w178)
  (I140 (IntKind.wrap .i64 (t122_142 + 1)) w176 ∧ μ141 (IntKind.wrap .i64 (t122_142 + 1)) w176 < μ141 t122_142 w144))
  (I140 (IntKind.wrap .i64 (t122_142 + 1)) w163 ∧ μ141 (IntKind.wrap .i64 (t122_142 + 1)) w163 < μ141 t122_142 w144)))
  (∃ w180, Sem.run Try.prog (Instr.storeAt 4 (Value.pointer (some ⟨Array.size (World.heap w), 0, none⟩)) (Value.bool true)) w144 = .ok () w180 ∧
  V.closeR ds24 w180 fun w181 =>
  ∃ b182, World.cell? w181 ⟨Array.size (World.heap w), 0, none⟩ = some (Value.bool b182) ∧
  R (Ending.returned (Value.bool b182)) w181))))))) :
  Calls Try.prog 4 #[(Value.slice script_1 script_1l script_1c)] w R :=
  V.calls_of_R ⟨V.assoc [(0, [35]), (2, [83]), (3, [122]), (4, [19, 134])], V.assocP [(10, V.line [0, 1, 2, 3, 4, 5, 6, 7, 8, 9, 10, 11, 12, 13, 14]), (28, V.line [0, 1, 2, 3, 4]), (32, V.line [0, 1, 2, 3, 4, 5, 6, 7, 8, 9])], V.assocC [(1000012, ([54], [V.Sh.one .bool])), (1000013, ([], [])), (1000021, ([79], [V.Sh.one .bool])), (1000022, ([], [])), (1000027, ([100], [V.Sh.one .bool])), (1000029, ([], [])), (1000034, ([118], [V.Sh.one .bool])), (1000046, ([19], [V.Sh.one .bool]))], V.assocS [(1, [V.Sh.one (.int .i64), V.Sh.one .ptr])], ⟨[], true⟩⟩ Try.func4 rfl (Eq.mp (by kernel_rfl) h)

end Go.Proofs.Ytjlkdadafddodaa
