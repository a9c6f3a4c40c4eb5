/- Normal forms of the program's functions, printed by a program of mine; the kernel checks each. -/
import Derived.Test.YtjlkdadafddodaaGreatDoorProg
import Derived.Test.YtjlkdadafddodaaGreatDoorV2
set_option linter.unusedVariables false
set_option maxRecDepth 100000
namespace Go.Proofs.YtjlkdadafddodaaGreatDoor
open Go

theorem berthref08_Index_At_nf (x_1 : Int) (x_2 : Option Addr) (x_2l : Nat) (x_2c : Nat) (key_3 : ByteArray) (slot_4 : Int) (w : World) (R : Ending → World → Prop) (h :
  ∀ w5, w5 = (World.alloc w (.cells #[(Value.int .i64 x_1), (Value.slice x_2 x_2l x_2c)] 36)) →
  ∃ I6 : Int → World → Prop, ∃ μ7 : Int → World → Nat, I6 0 w5 ∧
  ∀ i_8 (j9 : Nat → Value) (w10 : World), I6 i_8 w10 →
  (∃ A11, ∃ A11l, ∃ A11c, World.cell? w10 (Addr.add ⟨Array.size (World.heap w), 0, none⟩ 1) = some (Value.slice A11 A11l A11c) ∧
  V.sel (decide (i_8 < ((A11l : Nat) : Int)))
  (∃ A12, ∃ A12l, ∃ A12c, World.cell? w10 (Addr.add ⟨Array.size (World.heap w), 0, none⟩ 1) = some (Value.slice A12 A12l A12c) ∧
  V.when (decide ((0 : Int) ≤ i_8 ∧ (i_8 : Int) < ((A12l : Nat) : Int))) (V.ptr A12 fun a13 =>
  ∃ s14, World.cell? w10 (Addr.add (Addr.add a13 ((Int.toNat i_8) * 3)) 0) = some (Value.string s14) ∧
  V.sel (ByteArray.toList s14 == ByteArray.toList key_3)
  (∃ A15, ∃ A15l, ∃ A15c, World.cell? w10 (Addr.add ⟨Array.size (World.heap w), 0, none⟩ 1) = some (Value.slice A15 A15l A15c) ∧
  V.when (decide ((0 : Int) ≤ i_8 ∧ (i_8 : Int) < ((A15l : Nat) : Int))) (V.ptr A15 fun a16 =>
  ∃ n17, World.cell? w10 (Addr.add (Addr.add a16 ((Int.toNat i_8) * 3)) 1) = some (Value.int .i64 n17) ∧
  V.sel (n17 == slot_4)
  (R (Ending.returned (Value.int .i64 i_8)) w10)
  (I6 (IntKind.wrap .i64 (i_8 + 1)) w10 ∧ μ7 (IntKind.wrap .i64 (i_8 + 1)) w10 < μ7 i_8 w10)))
  (I6 (IntKind.wrap .i64 (i_8 + 1)) w10 ∧ μ7 (IntKind.wrap .i64 (i_8 + 1)) w10 < μ7 i_8 w10)))
  (R (Ending.returned (Value.int .i64 (-1))) w10))) :
  Calls Tryz.prog 48 #[(Value.agg #[(Value.int .i64 x_1), (Value.slice x_2 x_2l x_2c)]), (Value.string key_3), (Value.int .i64 slot_4)] w R :=
  V.calls_of_R ⟨V.assoc [(0, [7])], V.assocP [], V.assocC [], V.assocS [], ⟨[], true⟩⟩ Tryz.func48 rfl (Eq.mp (by kernel_rfl) h)

theorem berthref08_Index_Find_nf (x_1 : Int) (x_2 : Option Addr) (x_2l : Nat) (x_2c : Nat) (key_3 : ByteArray) (cmp_4 : Int) (n_5 : Int) (w : World) (R : Ending → World → Prop) (h :
  ∀ w6, w6 = (World.alloc w (.cells #[(Value.int .i64 x_1), (Value.slice x_2 x_2l x_2c)] 36)) →
  ∀ w7, w7 = (World.alloc w6 (.cells #[] 3)) →
  ∃ I8 : Option Addr → Nat → Nat → Int → World → Prop, ∃ μ9 : Option Addr → Nat → Nat → Int → World → Nat, I8 (some ⟨Array.size (World.heap w6), 0, none⟩) 0 0 0 w7 ∧
  ∀ all_10 all_10l all_10c i_11 (j12 : Nat → Value) (w13 : World), I8 all_10 all_10l all_10c i_11 w13 →
  (∃ A14, ∃ A14l, ∃ A14c, World.cell? w13 (Addr.add ⟨Array.size (World.heap w), 0, none⟩ 1) = some (Value.slice A14 A14l A14c) ∧
  V.sel (decide (i_11 < ((A14l : Nat) : Int)))
  (∃ A15, ∃ A15l, ∃ A15c, World.cell? w13 (Addr.add ⟨Array.size (World.heap w), 0, none⟩ 1) = some (Value.slice A15 A15l A15c) ∧
  V.when (decide ((0 : Int) ≤ i_11 ∧ (i_11 : Int) < ((A15l : Nat) : Int))) (V.ptr A15 fun a16 =>
  ∃ s17, World.cell? w13 (Addr.add (Addr.add a16 ((Int.toNat i_11) * 3)) 0) = some (Value.string s17) ∧
  V.sel (ByteArray.toList s17 == ByteArray.toList key_3)
  (∃ A18, ∃ A18l, ∃ A18c, World.cell? w13 (Addr.add ⟨Array.size (World.heap w), 0, none⟩ 1) = some (Value.slice A18 A18l A18c) ∧
  V.when (decide ((0 : Int) ≤ i_11 ∧ (i_11 : Int) < ((A18l : Nat) : Int))) (V.ptr A18 fun a19 =>
  ∃ n20, World.cell? w13 (Addr.add (Addr.add a19 ((Int.toNat i_11) * 3)) 2) = some (Value.int .i64 n20) ∧
  Calls Tryz.prog 73 #[(Value.int .i64 n20), (Value.int .i64 cmp_4), (Value.int .i64 n_5)] w13 fun e22 w23 =>
  ∃ b21, e22 = Ending.returned (Value.bool b21) ∧
  V.sel b21
  (∃ A24, ∃ A24l, ∃ A24c, World.cell? w23 (Addr.add ⟨Array.size (World.heap w), 0, none⟩ 1) = some (Value.slice A24 A24l A24c) ∧
  V.when (decide ((0 : Int) ≤ i_11 ∧ (i_11 : Int) < ((A24l : Nat) : Int))) (V.ptr A24 fun a25 =>
  ∃ n26, World.cell? w23 (Addr.add (Addr.add a25 ((Int.toNat i_11) * 3)) 1) = some (Value.int .i64 n26) ∧
  ∀ w27, w27 = (World.alloc w23 (.cells #[(Value.int .i64 n26)] 3)) →
  ∃ A28, ∃ A28l, ∃ A28c, ∃ w29, Sem.run Tryz.prog (Builtin.append_ #[23, 23] 23 #[(Value.slice all_10 all_10l all_10c), (Value.slice (some ⟨Array.size (World.heap w23), 0, none⟩) 1 1)]) w27 = .ok (Value.slice A28 A28l A28c) w29 ∧
  I8 A28 A28l A28c (IntKind.wrap .i64 (i_11 + 1)) w29 ∧ μ9 A28 A28l A28c (IntKind.wrap .i64 (i_11 + 1)) w29 < μ9 all_10 all_10l all_10c i_11 w13))
  (I8 all_10 all_10l all_10c (IntKind.wrap .i64 (i_11 + 1)) w23 ∧ μ9 all_10 all_10l all_10c (IntKind.wrap .i64 (i_11 + 1)) w23 < μ9 all_10 all_10l all_10c i_11 w13)))
  (I8 all_10 all_10l all_10c (IntKind.wrap .i64 (i_11 + 1)) w13 ∧ μ9 all_10 all_10l all_10c (IntKind.wrap .i64 (i_11 + 1)) w13 < μ9 all_10 all_10l all_10c i_11 w13)))
  (Calls Tryz.prog 31 #[(Value.slice all_10 all_10l all_10c)] w13 fun e31 w32 =>
  ∃ A30, ∃ A30l, ∃ A30c, e31 = Ending.returned (Value.slice A30 A30l A30c) ∧
  R (Ending.returned (Value.slice A30 A30l A30c)) w32))) :
  Calls Tryz.prog 49 #[(Value.agg #[(Value.int .i64 x_1), (Value.slice x_2 x_2l x_2c)]), (Value.string key_3), (Value.int .i64 cmp_4), (Value.int .i64 n_5)] w R :=
  V.calls_of_R ⟨V.assoc [(0, [9, 10])], V.assocP [], V.assocC [], V.assocS [], ⟨[], true⟩⟩ Tryz.func49 rfl (Eq.mp (by kernel_rfl) h)

theorem berthref08_Index_Between_nf (x_1 : Int) (x_2 : Option Addr) (x_2l : Nat) (x_2c : Nat) (key_3 : ByteArray) (lo_4 : Int) (hi_5 : Int) (w : World) (R : Ending → World → Prop) (h :
  ∀ w6, w6 = (World.alloc w (.cells #[(Value.int .i64 x_1), (Value.slice x_2 x_2l x_2c)] 36)) →
  ∀ w7, w7 = (World.alloc w6 (.cells #[] 3)) →
  ∃ I8 : Option Addr → Nat → Nat → Int → World → Prop, ∃ μ9 : Option Addr → Nat → Nat → Int → World → Nat, I8 (some ⟨Array.size (World.heap w6), 0, none⟩) 0 0 0 w7 ∧
  ∀ all_10 all_10l all_10c i_11 (j12 : Nat → Value) (w13 : World), I8 all_10 all_10l all_10c i_11 w13 →
  (∃ A14, ∃ A14l, ∃ A14c, World.cell? w13 (Addr.add ⟨Array.size (World.heap w), 0, none⟩ 1) = some (Value.slice A14 A14l A14c) ∧
  V.sel (decide (i_11 < ((A14l : Nat) : Int)))
  (∃ A15, ∃ A15l, ∃ A15c, World.cell? w13 (Addr.add ⟨Array.size (World.heap w), 0, none⟩ 1) = some (Value.slice A15 A15l A15c) ∧
  V.when (decide ((0 : Int) ≤ i_11 ∧ (i_11 : Int) < ((A15l : Nat) : Int))) (V.ptr A15 fun a16 =>
  ∃ s17, World.cell? w13 (Addr.add (Addr.add a16 ((Int.toNat i_11) * 3)) 0) = some (Value.string s17) ∧
  V.sel (ByteArray.toList s17 == ByteArray.toList key_3)
  (∃ A18, ∃ A18l, ∃ A18c, World.cell? w13 (Addr.add ⟨Array.size (World.heap w), 0, none⟩ 1) = some (Value.slice A18 A18l A18c) ∧
  V.when (decide ((0 : Int) ≤ i_11 ∧ (i_11 : Int) < ((A18l : Nat) : Int))) (V.ptr A18 fun a19 =>
  ∃ n20, World.cell? w13 (Addr.add (Addr.add a19 ((Int.toNat i_11) * 3)) 2) = some (Value.int .i64 n20) ∧
  V.sel (decide (n20 ≥ lo_4))
  (∃ A21, ∃ A21l, ∃ A21c, World.cell? w13 (Addr.add ⟨Array.size (World.heap w), 0, none⟩ 1) = some (Value.slice A21 A21l A21c) ∧
  V.when (decide ((0 : Int) ≤ i_11 ∧ (i_11 : Int) < ((A21l : Nat) : Int))) (V.ptr A21 fun a22 =>
  ∃ n23, World.cell? w13 (Addr.add (Addr.add a22 ((Int.toNat i_11) * 3)) 2) = some (Value.int .i64 n23) ∧
  V.sel (decide (n23 ≤ hi_5))
  (∃ A24, ∃ A24l, ∃ A24c, World.cell? w13 (Addr.add ⟨Array.size (World.heap w), 0, none⟩ 1) = some (Value.slice A24 A24l A24c) ∧
  V.when (decide ((0 : Int) ≤ i_11 ∧ (i_11 : Int) < ((A24l : Nat) : Int))) (V.ptr A24 fun a25 =>
  ∃ n26, World.cell? w13 (Addr.add (Addr.add a25 ((Int.toNat i_11) * 3)) 1) = some (Value.int .i64 n26) ∧
  ∀ w27, w27 = (World.alloc w13 (.cells #[(Value.int .i64 n26)] 3)) →
  ∃ A28, ∃ A28l, ∃ A28c, ∃ w29, Sem.run Tryz.prog (Builtin.append_ #[23, 23] 23 #[(Value.slice all_10 all_10l all_10c), (Value.slice (some ⟨Array.size (World.heap w13), 0, none⟩) 1 1)]) w27 = .ok (Value.slice A28 A28l A28c) w29 ∧
  I8 A28 A28l A28c (IntKind.wrap .i64 (i_11 + 1)) w29 ∧ μ9 A28 A28l A28c (IntKind.wrap .i64 (i_11 + 1)) w29 < μ9 all_10 all_10l all_10c i_11 w13))
  (I8 all_10 all_10l all_10c (IntKind.wrap .i64 (i_11 + 1)) w13 ∧ μ9 all_10 all_10l all_10c (IntKind.wrap .i64 (i_11 + 1)) w13 < μ9 all_10 all_10l all_10c i_11 w13)))
  (I8 all_10 all_10l all_10c (IntKind.wrap .i64 (i_11 + 1)) w13 ∧ μ9 all_10 all_10l all_10c (IntKind.wrap .i64 (i_11 + 1)) w13 < μ9 all_10 all_10l all_10c i_11 w13)))
  (I8 all_10 all_10l all_10c (IntKind.wrap .i64 (i_11 + 1)) w13 ∧ μ9 all_10 all_10l all_10c (IntKind.wrap .i64 (i_11 + 1)) w13 < μ9 all_10 all_10l all_10c i_11 w13)))
  (Calls Tryz.prog 31 #[(Value.slice all_10 all_10l all_10c)] w13 fun e31 w32 =>
  ∃ A30, ∃ A30l, ∃ A30c, e31 = Ending.returned (Value.slice A30 A30l A30c) ∧
  R (Ending.returned (Value.slice A30 A30l A30c)) w32))) :
  Calls Tryz.prog 50 #[(Value.agg #[(Value.int .i64 x_1), (Value.slice x_2 x_2l x_2c)]), (Value.string key_3), (Value.int .i64 lo_4), (Value.int .i64 hi_5)] w R :=
  V.calls_of_R ⟨V.assoc [(0, [9, 10])], V.assocP [], V.assocC [], V.assocS [], ⟨[], true⟩⟩ Tryz.func50 rfl (Eq.mp (by kernel_rfl) h)

theorem ordered_Same_nf (a_1 : Option Addr) (b_2 : Option Addr) (w : World) (R : Ending → World → Prop) (h :
  Calls Tryz.prog 32 #[(Value.pointer a_1)] w fun e4 w5 =>
  ∃ A3, ∃ A3l, ∃ A3c, e4 = Ending.returned (Value.slice A3 A3l A3c) ∧
  Calls Tryz.prog 32 #[(Value.pointer b_2)] w5 fun e7 w8 =>
  ∃ A6, ∃ A6l, ∃ A6c, e7 = Ending.returned (Value.slice A6 A6l A6c) ∧
  Calls Tryz.prog 74 #[(Value.slice A3 A3l A3c), (Value.slice A6 A6l A6c)] w8 fun e10 w11 =>
  ∃ b9, e10 = Ending.returned (Value.bool b9) ∧
  V.sel (!b9)
  (R (Ending.returned (Value.bool false)) w11)
  (∃ I12 : Int → World → Prop, ∃ μ13 : Int → World → Nat, I12 0 w11 ∧
  ∀ t17_14 (j15 : Nat → Value) (w16 : World), I12 t17_14 w16 →
  (V.sel (decide (t17_14 < ((A3l : Nat) : Int)))
  (V.when (decide ((0 : Int) ≤ t17_14 ∧ (t17_14 : Int) < ((A3l : Nat) : Int))) (V.ptr A3 fun a17 =>
  ∃ s18, World.cell? w16 (Addr.add a17 ((Int.toNat t17_14) * 1)) = some (Value.string s18) ∧
  Calls Tryz.prog 28 #[(Value.pointer a_1), (Value.string s18)] w16 fun e20 w21 =>
  ∃ p19, e20 = Ending.returned (Value.pointer p19) ∧
  Calls Tryz.prog 28 #[(Value.pointer b_2), (Value.string s18)] w21 fun e23 w24 =>
  ∃ p22, e23 = Ending.returned (Value.pointer p22) ∧
  Calls Tryz.prog 75 #[(Value.pointer p19), (Value.pointer p22)] w24 fun e26 w27 =>
  ∃ b25, e26 = Ending.returned (Value.bool b25) ∧
  V.sel (!b25)
  (R (Ending.returned (Value.bool false)) w27)
  (I12 (IntKind.wrap .i64 (t17_14 + 1)) w27 ∧ μ13 (IntKind.wrap .i64 (t17_14 + 1)) w27 < μ13 t17_14 w16)))
  (R (Ending.returned (Value.bool true)) w16)))) :
  Calls Tryz.prog 51 #[(Value.pointer a_1), (Value.pointer b_2)] w R :=
  V.calls_of_R ⟨V.assoc [(0, [17])], V.assocP [], V.assocC [], V.assocS [], ⟨[], true⟩⟩ Tryz.func51 rfl (Eq.mp (by kernel_rfl) h)

theorem berthref08_Same_nf (a_1 : Int) (a_2 : Option Addr) (a_2l : Nat) (a_2c : Nat) (b_3 : Int) (b_4 : Option Addr) (b_4l : Nat) (b_4c : Nat) (w : World) (R : Ending → World → Prop) (h :
  ∀ w5, w5 = (World.alloc w (.cells #[(Value.int .i64 a_1), (Value.slice a_2 a_2l a_2c)] 36)) →
  ∀ w6, w6 = (World.alloc w5 (.cells #[(Value.int .i64 b_3), (Value.slice b_4 b_4l b_4c)] 36)) →
  ∃ A7, ∃ A7l, ∃ A7c, World.cell? w6 (Addr.add ⟨Array.size (World.heap w), 0, none⟩ 1) = some (Value.slice A7 A7l A7c) ∧
  ∃ A8, ∃ A8l, ∃ A8c, World.cell? w6 (Addr.add ⟨Array.size (World.heap w5), 0, none⟩ 1) = some (Value.slice A8 A8l A8c) ∧
  V.sel (((A7l : Nat) : Int) != ((A8l : Nat) : Int))
  (R (Ending.returned (Value.bool false)) w6)
  (∃ I9 : Int → World → Prop, ∃ μ10 : Int → World → Nat, I9 0 w6 ∧
  ∀ i_11 (j12 : Nat → Value) (w13 : World), I9 i_11 w13 →
  (∃ A14, ∃ A14l, ∃ A14c, World.cell? w13 (Addr.add ⟨Array.size (World.heap w), 0, none⟩ 1) = some (Value.slice A14 A14l A14c) ∧
  V.sel (decide (i_11 < ((A14l : Nat) : Int)))
  (∃ S15 : World → Prop, S15 (World.drew w13) ∧
  ∃ n17, ∃ A18, ∃ A18l, ∃ A18c, V.cellsC (fun a_ x_ => ∀ w16, S15 w16 → World.cell? w16 a_ = some x_) ⟨Array.size (World.heap w5), 0, none⟩ [(Value.int .i64 n17), (Value.slice A18 A18l A18c)] ∧
  ∃ A19, ∃ A19l, ∃ A19c, (∀ w16, S15 w16 → World.cell? w16 (Addr.add ⟨Array.size (World.heap w), 0, none⟩ 1) = some (Value.slice A19 A19l A19c)) ∧
  V.when (decide ((0 : Int) ≤ i_11 ∧ (i_11 : Int) < ((A19l : Nat) : Int))) (V.ptr A19 fun a20 =>
  ∃ s21, (∀ w16, S15 w16 → World.cell? w16 (Addr.add (Addr.add a20 ((Int.toNat i_11) * 3)) 0) = some (Value.string s21)) ∧
  ∃ A22, ∃ A22l, ∃ A22c, (∀ w16, S15 w16 → World.cell? w16 (Addr.add ⟨Array.size (World.heap w), 0, none⟩ 1) = some (Value.slice A22 A22l A22c)) ∧
  V.when (decide ((0 : Int) ≤ i_11 ∧ (i_11 : Int) < ((A22l : Nat) : Int))) (V.ptr A22 fun a23 =>
  ∃ n24, (∀ w16, S15 w16 → World.cell? w16 (Addr.add (Addr.add a23 ((Int.toNat i_11) * 3)) 1) = some (Value.int .i64 n24)) ∧
  Calls Tryz.prog 48 #[(Value.agg #[(Value.int .i64 n17), (Value.slice A18 A18l A18c)]), (Value.string s21), (Value.int .i64 n24)] (World.drew w13) fun e26 w27 =>
  ∃ n25, e26 = Ending.returned (Value.int .i64 n25) ∧
  S15 w27 ∧
  V.sel (decide (n25 < 0))
  (R (Ending.returned (Value.bool false)) (World.drew w27))
  (∃ A28, ∃ A28l, ∃ A28c, World.cell? w27 (Addr.add ⟨Array.size (World.heap w5), 0, none⟩ 1) = some (Value.slice A28 A28l A28c) ∧
  V.when (decide ((0 : Int) ≤ n25 ∧ (n25 : Int) < ((A28l : Nat) : Int))) (V.ptr A28 fun a29 =>
  ∃ n30, World.cell? w27 (Addr.add (Addr.add a29 ((Int.toNat n25) * 3)) 2) = some (Value.int .i64 n30) ∧
  ∃ A31, ∃ A31l, ∃ A31c, World.cell? w27 (Addr.add ⟨Array.size (World.heap w), 0, none⟩ 1) = some (Value.slice A31 A31l A31c) ∧
  V.when (decide ((0 : Int) ≤ i_11 ∧ (i_11 : Int) < ((A31l : Nat) : Int))) (V.ptr A31 fun a32 =>
  ∃ n33, World.cell? w27 (Addr.add (Addr.add a32 ((Int.toNat i_11) * 3)) 2) = some (Value.int .i64 n33) ∧
  V.sel (n30 != n33)
  (R (Ending.returned (Value.bool false)) (World.drew w27))
  (I9 (IntKind.wrap .i64 (i_11 + 1)) (World.drew w27) ∧ μ10 (IntKind.wrap .i64 (i_11 + 1)) (World.drew w27) < μ10 i_11 w13)))))))
  (R (Ending.returned (Value.bool true)) w13)))) :
  Calls Tryz.prog 52 #[(Value.agg #[(Value.int .i64 a_1), (Value.slice a_2 a_2l a_2c)]), (Value.agg #[(Value.int .i64 b_3), (Value.slice b_4 b_4l b_4c)])] w R :=
  V.calls_of_R ⟨V.assoc [(0, [5])], V.assocP [(6, V.line [0, 1, 2, 3, 4, 5, 6, 7, 8, 9, 10, 11, 12, 13, 14]), (7, V.line [0, 1, 2, 3, 4, 5, 6, 7, 8, 9, 10, 11, 12, 13, 14, 15, 16])], V.assocC [], V.assocS [], ⟨[], true⟩⟩ Tryz.func52 rfl (Eq.mp (by kernel_rfl) h)

theorem berthlaw08_World_told_nf (w_1 : Option Addr) (i_2 : Int) (what_3 : Int) (key_4 : ByteArray) (n_5 : Int) (hi_6 : Int) (ns_7 : Option Addr) (ns_7l : Nat) (ns_7c : Nat) (w : World) (R : Ending → World → Prop) (h :
  V.ptr w_1 fun a8 =>
  V.when (decide ((0 : Int) ≤ i_2 ∧ (i_2 : Int) < 4)) (∃ n9, ∃ A10, ∃ A10l, ∃ A10c, V.cellsC (fun a_ x_ => World.cell? w a_ = some x_) (Addr.add (Addr.add a8 4) ((Int.toNat i_2) * 2)) [(Value.int .i64 n9), (Value.slice A10 A10l A10c)] ∧
  ∀ w11, w11 = (World.alloc w (.cells #[(Value.int .i64 0), (Value.slice none 0 0)] 36)) →
  ∃ w12, Sem.run Tryz.prog (Instr.storeAt 36 (Value.pointer (some ⟨Array.size (World.heap w), 0, none⟩)) (Value.agg #[(Value.int .i64 n9), (Value.slice A10 A10l A10c)])) w11 = .ok () w12 ∧
  V.sel (what_3 == 8)
  (∃ n13, ∃ A14, ∃ A14l, ∃ A14c, V.cellsC (fun a_ x_ => World.cell? w12 a_ = some x_) ⟨Array.size (World.heap w), 0, none⟩ [(Value.int .i64 n13), (Value.slice A14 A14l A14c)] ∧
  Calls Tryz.prog 50 #[(Value.agg #[(Value.int .i64 n13), (Value.slice A14 A14l A14c)]), (Value.string key_4), (Value.int .i64 n_5), (Value.int .i64 n_5)] w12 fun e16 w17 =>
  ∃ A15, ∃ A15l, ∃ A15c, e16 = Ending.returned (Value.slice A15 A15l A15c) ∧
  R (Ending.returned (Value.slice A15 A15l A15c)) w17)
  (V.sel (what_3 == 9)
  (∃ n18, ∃ A19, ∃ A19l, ∃ A19c, V.cellsC (fun a_ x_ => World.cell? w12 a_ = some x_) ⟨Array.size (World.heap w), 0, none⟩ [(Value.int .i64 n18), (Value.slice A19 A19l A19c)] ∧
  Calls Tryz.prog 50 #[(Value.agg #[(Value.int .i64 n18), (Value.slice A19 A19l A19c)]), (Value.string key_4), (Value.int .i64 n_5), (Value.int .i64 hi_6)] w12 fun e21 w22 =>
  ∃ A20, ∃ A20l, ∃ A20c, e21 = Ending.returned (Value.slice A20 A20l A20c) ∧
  R (Ending.returned (Value.slice A20 A20l A20c)) w22)
  (V.sel (what_3 == 10)
  (∃ n23, ∃ A24, ∃ A24l, ∃ A24c, V.cellsC (fun a_ x_ => World.cell? w12 a_ = some x_) ⟨Array.size (World.heap w), 0, none⟩ [(Value.int .i64 n23), (Value.slice A24 A24l A24c)] ∧
  Calls Tryz.prog 11 #[(Value.agg #[(Value.int .i64 n23), (Value.slice A24 A24l A24c)]), (Value.string key_4), (Value.slice ns_7 ns_7l ns_7c)] w12 fun e26 w27 =>
  ∃ A25, ∃ A25l, ∃ A25c, e26 = Ending.returned (Value.slice A25 A25l A25c) ∧
  R (Ending.returned (Value.slice A25 A25l A25c)) w27)
  (V.sel (what_3 == 11)
  (∃ n28, ∃ A29, ∃ A29l, ∃ A29c, V.cellsC (fun a_ x_ => World.cell? w12 a_ = some x_) ⟨Array.size (World.heap w), 0, none⟩ [(Value.int .i64 n28), (Value.slice A29 A29l A29c)] ∧
  Calls Tryz.prog 35 #[(Value.agg #[(Value.int .i64 n28), (Value.slice A29 A29l A29c)]), (Value.string key_4)] w12 fun e31 w32 =>
  ∃ A30, ∃ A30l, ∃ A30c, e31 = Ending.returned (Value.slice A30 A30l A30c) ∧
  R (Ending.returned (Value.slice A30 A30l A30c)) w32)
  (∃ n33, ∃ A34, ∃ A34l, ∃ A34c, V.cellsC (fun a_ x_ => World.cell? w12 a_ = some x_) ⟨Array.size (World.heap w), 0, none⟩ [(Value.int .i64 n33), (Value.slice A34 A34l A34c)] ∧
  Calls Tryz.prog 49 #[(Value.agg #[(Value.int .i64 n33), (Value.slice A34 A34l A34c)]), (Value.string key_4), (Value.int .i64 what_3), (Value.int .i64 n_5)] w12 fun e36 w37 =>
  ∃ A35, ∃ A35l, ∃ A35c, e36 = Ending.returned (Value.slice A35 A35l A35c) ∧
  R (Ending.returned (Value.slice A35 A35l A35c)) w37)))))) :
  Calls Tryz.prog 54 #[(Value.pointer w_1), (Value.int .i64 i_2), (Value.int .i64 what_3), (Value.string key_4), (Value.int .i64 n_5), (Value.int .i64 hi_6), (Value.slice ns_7 ns_7l ns_7c)] w R :=
  V.calls_of_R ⟨V.assoc [], V.assocP [], V.assocC [], V.assocS [], ⟨[], true⟩⟩ Tryz.func54 rfl (Eq.mp (by kernel_rfl) h)

theorem berthlaw08_World_ask_nf (w_1 : Option Addr) (i_2 : Int) (what_3 : Int) (key_4 : ByteArray) (n_5 : Int) (hi_6 : Int) (ns_7 : Option Addr) (ns_7l : Nat) (ns_7c : Nat) (w : World) (R : Ending → World → Prop) (h :
  V.ptr w_1 fun a8 =>
  V.when (decide ((0 : Int) ≤ i_2 ∧ (i_2 : Int) < 4)) (∃ p9, World.cell? w (Addr.add (Addr.add a8 0) ((Int.toNat i_2) * 1)) = some (Value.pointer p9) ∧
  V.sel (what_3 == 8)
  (Calls Tryz.prog 43 #[(Value.pointer p9), (Value.string key_4), (Value.int .i64 n_5), (Value.int .i64 n_5)] w fun e11 w12 =>
  ∃ p10, e11 = Ending.returned (Value.pointer p10) ∧
  R (Ending.returned (Value.pointer p10)) w12)
  (V.sel (what_3 == 9)
  (Calls Tryz.prog 43 #[(Value.pointer p9), (Value.string key_4), (Value.int .i64 n_5), (Value.int .i64 hi_6)] w fun e14 w15 =>
  ∃ p13, e14 = Ending.returned (Value.pointer p13) ∧
  R (Ending.returned (Value.pointer p13)) w15)
  (V.sel (what_3 == 10)
  (Calls Tryz.prog 10 #[(Value.pointer p9), (Value.string key_4), (Value.slice ns_7 ns_7l ns_7c)] w fun e17 w18 =>
  ∃ p16, e17 = Ending.returned (Value.pointer p16) ∧
  R (Ending.returned (Value.pointer p16)) w18)
  (V.sel (what_3 == 11)
  (Calls Tryz.prog 19 #[(Value.pointer p9), (Value.string key_4)] w fun e20 w21 =>
  ∃ p19, e20 = Ending.returned (Value.pointer p19) ∧
  R (Ending.returned (Value.pointer p19)) w21)
  (Calls Tryz.prog 18 #[(Value.pointer p9), (Value.string key_4), (Value.int .i64 what_3), (Value.int .i64 n_5)] w fun e23 w24 =>
  ∃ p22, e23 = Ending.returned (Value.pointer p22) ∧
  R (Ending.returned (Value.pointer p22)) w24)))))) :
  Calls Tryz.prog 55 #[(Value.pointer w_1), (Value.int .i64 i_2), (Value.int .i64 what_3), (Value.string key_4), (Value.int .i64 n_5), (Value.int .i64 hi_6), (Value.slice ns_7 ns_7l ns_7c)] w R :=
  V.calls_of_R ⟨V.assoc [], V.assocP [], V.assocC [], V.assocS [], ⟨[], true⟩⟩ Tryz.func55 rfl (Eq.mp (by kernel_rfl) h)

theorem berthlaw08_turn_nf (s_1 : Option Addr) (all_2 : Option Addr) (w : World) (R : Ending → World → Prop) (h :
  Calls Tryz.prog 44 #[(Value.pointer all_2), (Value.pointer s_1)] w fun e4 w5 =>
  ∃ p3, e4 = Ending.returned (Value.pointer p3) ∧
  Calls Tryz.prog 78 #[(Value.pointer s_1)] w5 fun e7 w8 =>
  ∃ p6, e7 = Ending.returned (Value.pointer p6) ∧
  Calls Tryz.prog 77 #[(Value.pointer s_1), (Value.pointer p6)] w8 fun e9 w10 =>
  e9 = Ending.returned undef ∧
  Calls Tryz.prog 30 #[(Value.pointer s_1), (Value.pointer p3)] w10 fun e11 w12 =>
  e11 = Ending.returned undef ∧
  R (Ending.returned undef) w12) :
  Calls Tryz.prog 56 #[(Value.pointer s_1), (Value.pointer all_2)] w R :=
  V.calls_of_R ⟨V.assoc [], V.assocP [], V.assocC [], V.assocS [], ⟨[], true⟩⟩ Tryz.func56 rfl (Eq.mp (by kernel_rfl) h)

theorem ordered_column_from_l1_nf (yl : Nat) (free0_1 : Option Addr) (free1_2 : Option Addr) (free2_3 : Option Addr) (w : World) (R : Ending → World → Prop) (h :
  V.ptr free0_1 fun a4 =>
  ∃ p5, World.cell? w a4 = some (Value.pointer p5) ∧
  V.ptr free1_2 fun a6 =>
  ∃ n7, World.cell? w a6 = some (Value.int .i64 n7) ∧
  Calls Tryz.prog 38 #[(Value.pointer p5), (Value.int .i64 n7)] w fun e9 w10 =>
  ∃ n8, e9 = Ending.returned (Value.int .i64 n8) ∧
  ∃ I11 : Int → World → Prop, ∃ μ12 : Int → World → Nat, I11 n8 w10 ∧
  ∀ i_13 (j14 : Nat → Value) (w15 : World), I11 i_13 w15 →
  (V.ptr free0_1 fun a16 =>
  ∃ p17, World.cell? w15 a16 = some (Value.pointer p17) ∧
  V.ptr p17 fun a18 =>
  ∃ A19, ∃ A19l, ∃ A19c, World.cell? w15 (Addr.add a18 0) = some (Value.slice A19 A19l A19c) ∧
  V.sel (decide (i_13 < ((A19l : Nat) : Int)))
  (V.ptr free0_1 fun a20 =>
  ∃ p21, World.cell? w15 a20 = some (Value.pointer p21) ∧
  V.ptr p21 fun a22 =>
  ∃ A23, ∃ A23l, ∃ A23c, World.cell? w15 (Addr.add a22 0) = some (Value.slice A23 A23l A23c) ∧
  V.when (decide ((0 : Int) ≤ i_13 ∧ (i_13 : Int) < ((A23l : Nat) : Int))) (V.ptr A23 fun a24 =>
  ∃ n25, World.cell? w15 (Addr.add (Addr.add a24 ((Int.toNat i_13) * 2)) 0) = some (Value.int .i64 n25) ∧
  V.ptr free2_3 fun a26 =>
  ∃ n27, World.cell? w15 a26 = some (Value.int .i64 n27) ∧
  V.sel (decide (n25 ≤ n27))
  (∃ S28 : World → Prop, S28 (World.drew (World.drew w15)) ∧
  V.ptr free0_1 fun a30 =>
  ∃ p31, (∀ w29, S28 w29 → World.cell? w29 a30 = some (Value.pointer p31)) ∧
  V.ptr p31 fun a32 =>
  ∃ A33, ∃ A33l, ∃ A33c, (∀ w29, S28 w29 → World.cell? w29 (Addr.add a32 0) = some (Value.slice A33 A33l A33c)) ∧
  V.when (decide ((0 : Int) ≤ i_13 ∧ (i_13 : Int) < ((A33l : Nat) : Int))) (V.ptr A33 fun a34 =>
  ∃ n35, (∀ w29, S28 w29 → World.cell? w29 (Addr.add (Addr.add a34 ((Int.toNat i_13) * 2)) 0) = some (Value.int .i64 n35)) ∧
  V.ptr free0_1 fun a36 =>
  ∃ p37, (∀ w29, S28 w29 → World.cell? w29 a36 = some (Value.pointer p37)) ∧
  V.ptr p37 fun a38 =>
  ∃ A39, ∃ A39l, ∃ A39c, (∀ w29, S28 w29 → World.cell? w29 (Addr.add a38 0) = some (Value.slice A39 A39l A39c)) ∧
  V.when (decide ((0 : Int) ≤ i_13 ∧ (i_13 : Int) < ((A39l : Nat) : Int))) (V.ptr A39 fun a40 =>
  ∃ p41, (∀ w29, S28 w29 → World.cell? w29 (Addr.add (Addr.add a40 ((Int.toNat i_13) * 2)) 1) = some (Value.pointer p41)) ∧
  V.Yield Tryz.prog yl [(Value.int .i64 n35), (Value.pointer p41)] (World.drew (World.drew w15)) fun e43 w44 =>
  ∃ b42, e43 = Ending.returned (Value.bool b42) ∧
  S28 w44 ∧
  V.sel (!b42)
  (R (Ending.returned undef) w44)
  (I11 (IntKind.wrap .i64 (i_13 + 1)) w44 ∧ μ12 (IntKind.wrap .i64 (i_13 + 1)) w44 < μ12 i_13 w15))))
  (R (Ending.returned undef) (World.drew w15))))
  (R (Ending.returned undef) (World.drew w15)))) :
  Calls Tryz.prog 59 #[(Value.func (.yield yl) #[] #[]), (Value.pointer free0_1), (Value.pointer free1_2), (Value.pointer free2_3)] w R :=
  V.calls_of_R ⟨V.assoc [(0, [5])], V.assocP [(1, V.line [0, 1, 2, 3, 4, 5, 6, 7, 8, 9, 10, 11, 12, 13, 14, 15, 16, 17, 18]), (3, V.line [0, 1, 2, 3, 4, 5, 6, 7, 8, 9, 10, 11, 12, 13, 14, 15, 16, 17, 18])], V.assocC [], V.assocS [], ⟨[], true⟩⟩ Tryz.func59 rfl (Eq.mp (by kernel_rfl) h)

theorem ordered_Index_Rows_nf (x_1 : Option Addr) (key_2 : ByteArray) (w : World) (R : Ending → World → Prop) (h :
  ∀ w3, w3 = (World.alloc w (.cells #[(Value.slice none 0 0)] 85)) →
  Calls Tryz.prog 28 #[(Value.pointer x_1), (Value.string key_2)] w3 fun e5 w6 =>
  ∃ p4, e5 = Ending.returned (Value.pointer p4) ∧
  Calls Tryz.prog 29 #[(Value.pointer p4), (Value.int .i64 (-9223372036854775808)), (Value.int .i64 9223372036854775807)] w6 fun e8 w9 =>
  ∃ f7, ∃ f7a, ∃ f7c, e8 = Ending.returned (Value.func (.func f7) f7a f7c) ∧
  V.when (V.hasB Tryz.prog f7 && true) (∀ (Rc10 : Loop) (l11 : Nat) (w12 : World), l11 = Array.size (World.heap w9) + 1 → w12 = World.alloc (World.alloc w9 (.deferred (some []))) (.loop { Rc10 with state := .ready, pending := none }) →
  (∀ y12_15 y13_16 (W13 : World) (R14 : Ending → World → Prop), V.LoopSt W13 l11 Rc10 .ready none →
  (V.LoopSt W13 l11 Rc10 .ready none ∧
  ∃ S17 : World → Prop, S17 (World.drew (V.setLoop W13 l11 Rc10 .busy none)) ∧
  ∃ A19, ∃ A19l, ∃ A19c, (∀ w18, S17 w18 → World.cell? w18 ⟨Array.size (World.heap w), 0, none⟩ = some (Value.slice A19 A19l A19c)) ∧
  Calls Tryz.prog 78 #[(Value.pointer y13_16)] (World.drew (V.setLoop W13 l11 Rc10 .busy none)) fun e21 w22 =>
  ∃ p20, e21 = Ending.returned (Value.pointer p20) ∧
  S17 w22 ∧
  ∀ w23, w23 = (World.alloc w22 (.cells #[(Value.int .i64 y12_15), (Value.pointer p20)] 90)) →
  S17 w23 ∧
  ∃ A24, ∃ A24l, ∃ A24c, ∃ w25, Sem.run Tryz.prog (Builtin.append_ #[85, 85] 85 #[(Value.slice A19 A19l A19c), (Value.slice (some ⟨Array.size (World.heap w22), 0, none⟩) 1 1)]) w23 = .ok (Value.slice A24 A24l A24c) w25 ∧
  S17 w25 ∧
  ∃ w26, Sem.run Tryz.prog (Instr.storeAt 85 (Value.pointer (some ⟨Array.size (World.heap w), 0, none⟩)) (Value.slice A24 A24l A24c)) w25 = .ok () w26 ∧
  V.LoopSt w26 l11 Rc10 .busy none ∧ R14 (Ending.returned (Value.bool true)) (V.setLoop w26 l11 Rc10 .ready none)) →
  V.Yield Tryz.prog l11 [(Value.int .i64 y12_15), (Value.pointer y13_16)] W13 R14) →
  Calls Tryz.prog f7 ⟨Array.toList f7a ++ [(Value.func (.yield l11) #[] #[])] ++ Array.toList f7c⟩ w12 fun e27 w29 => (∃ v28, e27 = Ending.returned v28) ∧
  ((V.LoopSt w29 l11 Rc10 .ready none ∧
  V.closeR (Array.size (World.heap w9) :: []) (V.setLoop w29 l11 Rc10 .exhausted none) fun w30 =>
  R (Ending.returned (Value.func (.func 83) #[] #[(Value.pointer (some ⟨Array.size (World.heap w), 0, none⟩))])) w30) ∨
  False))) :
  Calls Tryz.prog 63 #[(Value.pointer x_1), (Value.string key_2)] w R :=
  V.calls_of_R ⟨V.assoc [], V.assocP [(5, V.line [0, 1, 2, 3, 4, 5, 6, 7])], V.assocC [], V.assocS [(0, [V.Sh.one (.int .i64), V.Sh.one .ptr])], ⟨[], true⟩⟩ Tryz.func63 rfl (Eq.mp (by kernel_rfl) h)

theorem berthref08_Index_wrong_nf (x_1 : Int) (x_2 : Option Addr) (x_2l : Nat) (x_2c : Nat) (key_3 : ByteArray) (slot_4 : Int) (w : World) (R : Ending → World → Prop) (h :
  ∀ w5, w5 = (World.alloc w (.cells #[(Value.int .i64 x_1), (Value.slice x_2 x_2l x_2c)] 36)) →
  V.sel (ByteArray.toList key_3 == ByteArray.toList ByteArray.empty)
  (R (Ending.returned (Value.int .i64 80)) w5)
  (V.sel (decide (slot_4 < 0))
  (R (Ending.returned (Value.int .i64 81)) w5)
  (∃ n6, World.cell? w5 (Addr.add ⟨Array.size (World.heap w), 0, none⟩ 0) = some (Value.int .i64 n6) ∧
  V.sel (decide (slot_4 ≥ n6))
  (R (Ending.returned (Value.int .i64 81)) w5)
  (R (Ending.returned (Value.int .i64 0)) w5)))) :
  Calls Tryz.prog 70 #[(Value.agg #[(Value.int .i64 x_1), (Value.slice x_2 x_2l x_2c)]), (Value.string key_3), (Value.int .i64 slot_4)] w R :=
  V.calls_of_R ⟨V.assoc [], V.assocP [], V.assocC [], V.assocS [], ⟨[], true⟩⟩ Tryz.func70 rfl (Eq.mp (by kernel_rfl) h)

theorem slices_Delete___ordered_row_ordered_row__nf (s_1 : Option Addr) (s_1l : Nat) (s_1c : Nat) (i_2 : Int) (j_3 : Int) (w : World) (R : Ending → World → Prop) (h :
  V.when (decide ((0 : Int) ≤ ((s_1l : Nat) : Int) ∧ (((s_1l : Nat) : Int) : Int) ≤ ((s_1c : Nat) : Int))) (V.when (decide ((0 : Int) ≤ j_3 ∧ (j_3 : Int) ≤ (((s_1l : Nat) : Nat) : Int))) (V.when (decide ((0 : Int) ≤ i_2 ∧ (i_2 : Int) ≤ (((Int.toNat j_3) : Nat) : Int))) (V.sel (i_2 == j_3)
  (R (Ending.returned (Value.slice s_1 s_1l s_1c)) w)
  (∃ S4 : World → Prop, S4 (World.drew w) ∧
  V.when (decide ((0 : Int) ≤ i_2 ∧ (i_2 : Int) ≤ ((s_1c : Nat) : Int))) (V.when (decide ((0 : Int) ≤ j_3 ∧ (j_3 : Int) ≤ ((s_1l : Nat) : Int))) (∃ A6, ∃ A6l, ∃ A6c, ∃ w7, Sem.run Tryz.prog (Builtin.append_ #[85, 85] 85 #[(Value.slice (V.cut s_1 s_1c 0 2) ((Int.toNat i_2) - 0) (s_1c - 0)), (Value.slice (V.cut s_1 s_1c (Int.toNat j_3) 2) (s_1l - (Int.toNat j_3)) (s_1c - (Int.toNat j_3)))]) (World.drew w) = .ok (Value.slice A6 A6l A6c) w7 ∧
  S4 w7 ∧
  V.when (decide ((0 : Int) ≤ ((s_1l : Nat) : Int) ∧ (((s_1l : Nat) : Int) : Int) ≤ ((A6c : Nat) : Int))) (V.when (decide ((0 : Int) ≤ ((A6l : Nat) : Int) ∧ (((A6l : Nat) : Int) : Int) ≤ (((s_1l : Nat) : Nat) : Int))) (∃ w8, Sem.run Tryz.prog (Builtin.clear_ #[85] 0 #[(Value.slice (V.cut A6 A6c (A6l : Nat) 2) ((s_1l : Nat) - (A6l : Nat)) (A6c - (A6l : Nat)))]) w7 = .ok undef w8 ∧
  R (Ending.returned (Value.slice A6 A6l A6c)) w8))))))))) :
  Calls Tryz.prog 72 #[(Value.slice s_1 s_1l s_1c), (Value.int .i64 i_2), (Value.int .i64 j_3)] w R :=
  V.calls_of_R ⟨V.assoc [], V.assocP [(5, V.line [0, 1, 2, 3, 4, 5, 6, 7])], V.assocC [], V.assocS [], ⟨[], true⟩⟩ Tryz.func72 rfl (Eq.mp (by kernel_rfl) h)

theorem berthref08_Stands_nf (a_1 : Int) (cmp_2 : Int) (b_3 : Int) (w : World) (R : Ending → World → Prop) (h :
  V.sel (cmp_2 == 1)
  (R (Ending.returned (Value.bool (a_1 == b_3))) w)
  (V.sel (cmp_2 == 2)
  (R (Ending.returned (Value.bool (a_1 != b_3))) w)
  (V.sel (cmp_2 == 3)
  (R (Ending.returned (Value.bool (decide (a_1 < b_3)))) w)
  (V.sel (cmp_2 == 4)
  (R (Ending.returned (Value.bool (decide (a_1 ≤ b_3)))) w)
  (V.sel (cmp_2 == 5)
  (R (Ending.returned (Value.bool (decide (a_1 > b_3)))) w)
  (V.sel (cmp_2 == 6)
  (R (Ending.returned (Value.bool (decide (a_1 ≥ b_3)))) w)
  (R (Ending.returned (Value.bool false)) w))))))) :
  Calls Tryz.prog 73 #[(Value.int .i64 a_1), (Value.int .i64 cmp_2), (Value.int .i64 b_3)] w R :=
  V.calls_of_R ⟨V.assoc [], V.assocP [], V.assocC [], V.assocS [], ⟨[], true⟩⟩ Tryz.func73 rfl (Eq.mp (by kernel_rfl) h)

theorem slices_Equal___string_string__nf (s1_1 : Option Addr) (s1_1l : Nat) (s1_1c : Nat) (s2_2 : Option Addr) (s2_2l : Nat) (s2_2c : Nat) (w : World) (R : Ending → World → Prop) (h :
  V.sel (((s1_1l : Nat) : Int) != ((s2_2l : Nat) : Int))
  (R (Ending.returned (Value.bool false)) w)
  (∃ I3 : Int → World → Prop, ∃ μ4 : Int → World → Nat, I3 0 w ∧
  ∀ t13_5 (j6 : Nat → Value) (w7 : World), I3 t13_5 w7 →
  (V.sel (decide (t13_5 < ((s1_1l : Nat) : Int)))
  (V.when (decide ((0 : Int) ≤ t13_5 ∧ (t13_5 : Int) < ((s1_1l : Nat) : Int))) (V.ptr s1_1 fun a8 =>
  ∃ s9, World.cell? w7 (Addr.add a8 ((Int.toNat t13_5) * 1)) = some (Value.string s9) ∧
  V.when (decide ((0 : Int) ≤ t13_5 ∧ (t13_5 : Int) < ((s2_2l : Nat) : Int))) (V.ptr s2_2 fun a10 =>
  ∃ s11, World.cell? w7 (Addr.add a10 ((Int.toNat t13_5) * 1)) = some (Value.string s11) ∧
  V.sel (!(ByteArray.toList s9 == ByteArray.toList s11))
  (R (Ending.returned (Value.bool false)) (World.drew w7))
  (I3 (IntKind.wrap .i64 (t13_5 + 1)) (World.drew w7) ∧ μ4 (IntKind.wrap .i64 (t13_5 + 1)) (World.drew w7) < μ4 t13_5 w7))))
  (R (Ending.returned (Value.bool true)) w7)))) :
  Calls Tryz.prog 74 #[(Value.slice s1_1 s1_1l s1_1c), (Value.slice s2_2 s2_2l s2_2c)] w R :=
  V.calls_of_R ⟨V.assoc [(0, [13])], V.assocP [(6, V.line [0, 1, 2, 3, 4, 5, 6, 7, 8])], V.assocC [], V.assocS [], ⟨[], true⟩⟩ Tryz.func74 rfl (Eq.mp (by kernel_rfl) h)

theorem ordered_same_nf (a_1 : Option Addr) (b_2 : Option Addr) (w : World) (R : Ending → World → Prop) (h :
  ∃ S3 : World → Prop, S3 (World.drew w) ∧
  V.ptr a_1 fun a5 =>
  ∃ A6, ∃ A6l, ∃ A6c, (∀ w4, S3 w4 → World.cell? w4 (Addr.add a5 0) = some (Value.slice A6 A6l A6c)) ∧
  V.ptr b_2 fun a7 =>
  ∃ A8, ∃ A8l, ∃ A8c, (∀ w4, S3 w4 → World.cell? w4 (Addr.add a7 0) = some (Value.slice A8 A8l A8c)) ∧
  Calls Tryz.prog 85 #[(Value.slice A6 A6l A6c), (Value.slice A8 A8l A8c), (Value.func (.func 86) #[] #[])] (World.drew w) fun e10 w11 =>
  ∃ b9, e10 = Ending.returned (Value.bool b9) ∧
  S3 w11 ∧
  R (Ending.returned (Value.bool b9)) w11) :
  Calls Tryz.prog 75 #[(Value.pointer a_1), (Value.pointer b_2)] w R :=
  V.calls_of_R ⟨V.assoc [], V.assocP [(1, V.line [0, 1, 2, 3, 4, 5, 6, 7, 8, 9])], V.assocC [], V.assocS [], ⟨[], true⟩⟩ Tryz.func75 rfl (Eq.mp (by kernel_rfl) h)

theorem ordered_Index_Rows_l1_nf (yl : Nat) (free0_1 : Option Addr) (w : World) (R : Ending → World → Prop) (h :
  V.ptr free0_1 fun a2 =>
  ∃ A3, ∃ A3l, ∃ A3c, World.cell? w a2 = some (Value.slice A3 A3l A3c) ∧
  ∃ I4 : Int → World → Prop, ∃ μ5 : Int → World → Nat, I4 0 w ∧
  ∀ t7_6 (j7 : Nat → Value) (w8 : World), I4 t7_6 w8 →
  (V.sel (decide (t7_6 < ((A3l : Nat) : Int)))
  (V.when (decide ((0 : Int) ≤ t7_6 ∧ (t7_6 : Int) < ((A3l : Nat) : Int))) (V.ptr A3 fun a9 =>
  ∃ n10, ∃ p11, V.cellsC (fun a_ x_ => World.cell? w8 a_ = some x_) (Addr.add a9 ((Int.toNat t7_6) * 2)) [(Value.int .i64 n10), (Value.pointer p11)] ∧
  ∀ w12, w12 = (World.alloc w8 (.cells #[(Value.int .i64 0), (Value.pointer none)] 90)) →
  ∃ w13, Sem.run Tryz.prog (Instr.storeAt 90 (Value.pointer (some ⟨Array.size (World.heap w8), 0, none⟩)) (Value.agg #[(Value.int .i64 n10), (Value.pointer p11)])) w12 = .ok () w13 ∧
  ∃ S14 : World → Prop, S14 (World.drew w13) ∧
  ∃ n16, (∀ w15, S14 w15 → World.cell? w15 (Addr.add ⟨Array.size (World.heap w8), 0, none⟩ 0) = some (Value.int .i64 n16)) ∧
  ∃ p17, (∀ w15, S14 w15 → World.cell? w15 (Addr.add ⟨Array.size (World.heap w8), 0, none⟩ 1) = some (Value.pointer p17)) ∧
  Calls Tryz.prog 78 #[(Value.pointer p17)] (World.drew w13) fun e19 w20 =>
  ∃ p18, e19 = Ending.returned (Value.pointer p18) ∧
  S14 w20 ∧
  V.Yield Tryz.prog yl [(Value.int .i64 n16), (Value.pointer p18)] w20 fun e22 w23 =>
  ∃ b21, e22 = Ending.returned (Value.bool b21) ∧
  S14 w23 ∧
  V.sel (!b21)
  (R (Ending.returned undef) w23)
  (I4 (IntKind.wrap .i64 (t7_6 + 1)) w23 ∧ μ5 (IntKind.wrap .i64 (t7_6 + 1)) w23 < μ5 t7_6 w8)))
  (R (Ending.returned undef) w8))) :
  Calls Tryz.prog 83 #[(Value.func (.yield yl) #[] #[]), (Value.pointer free0_1)] w R :=
  V.calls_of_R ⟨V.assoc [(0, [7])], V.assocP [(3, V.line [0, 1, 2, 3, 4, 5, 6, 7])], V.assocC [], V.assocS [], ⟨[], true⟩⟩ Tryz.func83 rfl (Eq.mp (by kernel_rfl) h)

theorem slices_EqualFunc___ordered_row___ordered_row_ordered_row_ordered_row__nf (s1_1 : Option Addr) (s1_1l : Nat) (s1_1c : Nat) (s2_2 : Option Addr) (s2_2l : Nat) (s2_2c : Nat) (eq_f3 : Nat) (eq_a4 : Array Value) (eq_c5 : Array Value) (w : World) (R : Ending → World → Prop) (h :
  V.sel (((s1_1l : Nat) : Int) != ((s2_2l : Nat) : Int))
  (R (Ending.returned (Value.bool false)) w)
  (∃ I6 : Int → World → Prop, ∃ μ7 : Int → World → Nat, I6 0 w ∧
  ∀ t17_8 (j9 : Nat → Value) (w10 : World), I6 t17_8 w10 →
  (V.sel (decide (t17_8 < ((s1_1l : Nat) : Int)))
  (V.when (decide ((0 : Int) ≤ t17_8 ∧ (t17_8 : Int) < ((s1_1l : Nat) : Int))) (V.ptr s1_1 fun a11 =>
  ∃ n12, ∃ p13, V.cellsC (fun a_ x_ => World.cell? w10 a_ = some x_) (Addr.add a11 ((Int.toNat t17_8) * 2)) [(Value.int .i64 n12), (Value.pointer p13)] ∧
  ∀ w14, w14 = (World.alloc w10 (.cells #[(Value.int .i64 0), (Value.pointer none)] 90)) →
  ∃ w15, Sem.run Tryz.prog (Instr.storeAt 90 (Value.pointer (some ⟨Array.size (World.heap w10), 0, none⟩)) (Value.agg #[(Value.int .i64 n12), (Value.pointer p13)])) w14 = .ok () w15 ∧
  V.when (decide ((0 : Int) ≤ t17_8 ∧ (t17_8 : Int) < ((s2_2l : Nat) : Int))) (V.ptr s2_2 fun a16 =>
  ∃ n17, ∃ p18, V.cellsC (fun a_ x_ => World.cell? w15 a_ = some x_) (Addr.add a16 ((Int.toNat t17_8) * 2)) [(Value.int .i64 n17), (Value.pointer p18)] ∧
  ∀ w19, w19 = (World.alloc w15 (.cells #[(Value.int .i64 0), (Value.pointer none)] 90)) →
  ∃ w20, Sem.run Tryz.prog (Instr.storeAt 90 (Value.pointer (some ⟨Array.size (World.heap w15), 0, none⟩)) (Value.agg #[(Value.int .i64 n17), (Value.pointer p18)])) w19 = .ok () w20 ∧
  ∃ n21, ∃ p22, V.cellsC (fun a_ x_ => World.cell? w20 a_ = some x_) ⟨Array.size (World.heap w10), 0, none⟩ [(Value.int .i64 n21), (Value.pointer p22)] ∧
  ∃ n23, ∃ p24, V.cellsC (fun a_ x_ => World.cell? w20 a_ = some x_) ⟨Array.size (World.heap w15), 0, none⟩ [(Value.int .i64 n23), (Value.pointer p24)] ∧
  V.when (V.hasB Tryz.prog eq_f3) (Calls Tryz.prog eq_f3 ⟨Array.toList eq_a4 ++ [(Value.agg #[(Value.int .i64 n21), (Value.pointer p22)]), (Value.agg #[(Value.int .i64 n23), (Value.pointer p24)])] ++ Array.toList eq_c5⟩ w20 fun e26 w27 =>
  ∃ b25, e26 = Ending.returned (Value.bool b25) ∧
  V.sel (!b25)
  (R (Ending.returned (Value.bool false)) w27)
  (I6 (IntKind.wrap .i64 (t17_8 + 1)) w27 ∧ μ7 (IntKind.wrap .i64 (t17_8 + 1)) w27 < μ7 t17_8 w10)))))
  (R (Ending.returned (Value.bool true)) w10)))) :
  Calls Tryz.prog 85 #[(Value.slice s1_1 s1_1l s1_1c), (Value.slice s2_2 s2_2l s2_2c), (Value.func (.func eq_f3) eq_a4 eq_c5)] w R :=
  V.calls_of_R ⟨V.assoc [(0, [17])], V.assocP [], V.assocC [], V.assocS [], ⟨[], true⟩⟩ Tryz.func85 rfl (Eq.mp (by kernel_rfl) h)

theorem ordered_same_l1_nf (r_1 : Int) (r_2 : Option Addr) (s_3 : Int) (s_4 : Option Addr) (w : World) (R : Ending → World → Prop) (h :
  ∀ w5, w5 = (World.alloc w (.cells #[(Value.int .i64 r_1), (Value.pointer r_2)] 90)) →
  ∀ w6, w6 = (World.alloc w5 (.cells #[(Value.int .i64 s_3), (Value.pointer s_4)] 90)) →
  ∃ n7, World.cell? w6 (Addr.add ⟨Array.size (World.heap w), 0, none⟩ 0) = some (Value.int .i64 n7) ∧
  ∃ n8, World.cell? w6 (Addr.add ⟨Array.size (World.heap w5), 0, none⟩ 0) = some (Value.int .i64 n8) ∧
  V.sel (n7 == n8)
  (∃ p9, World.cell? w6 (Addr.add ⟨Array.size (World.heap w), 0, none⟩ 1) = some (Value.pointer p9) ∧
  ∃ p10, World.cell? w6 (Addr.add ⟨Array.size (World.heap w5), 0, none⟩ 1) = some (Value.pointer p10) ∧
  Calls Tryz.prog 87 #[(Value.pointer p9), (Value.pointer p10)] w6 fun e12 w13 =>
  ∃ b11, e12 = Ending.returned (Value.bool b11) ∧
  R (Ending.returned (Value.bool b11)) w13)
  (R (Ending.returned (Value.bool false)) w6)) :
  Calls Tryz.prog 86 #[(Value.agg #[(Value.int .i64 r_1), (Value.pointer r_2)]), (Value.agg #[(Value.int .i64 s_3), (Value.pointer s_4)])] w R :=
  V.calls_of_R ⟨V.assoc [], V.assocP [], V.assocC [], V.assocS [], ⟨[], true⟩⟩ Tryz.func86 rfl (Eq.mp (by kernel_rfl) h)

end Go.Proofs.YtjlkdadafddodaaGreatDoor
