/- Normal forms of the program's functions, printed by a program of mine; the kernel checks each. -/
import Derived.Test.YtbaglnffgbnekaaProg
import Derived.Test.YtbaglnffgbnekaaV2
set_option linter.unusedVariables false
set_option maxRecDepth 100000
namespace Go.Proofs.Ytbaglnffgbnekaa
open Go

theorem berthref01_SameInts_nf (a_1 : Option Addr) (a_1l : Nat) (a_1c : Nat) (b_2 : Option Addr) (b_2l : Nat) (b_2c : Nat) (w : World) (R : Ending → World → Prop) (h :
  V.sel (((a_1l : Nat) : Int) != ((b_2l : Nat) : Int))
  (R (Ending.returned (Value.bool false)) w)
  (∃ I3 : Int → World → Prop, ∃ μ4 : Int → World → Nat, I3 0 w ∧
  ∀ i_5 (j6 : Nat → Value) (w7 : World), I3 i_5 w7 →
  (V.sel (decide (i_5 < ((a_1l : Nat) : Int)))
  (V.when (decide ((0 : Int) ≤ i_5 ∧ (i_5 : Int) < ((a_1l : Nat) : Int))) (V.ptr a_1 fun a8 =>
  ∃ n9, World.cell? w7 (Addr.add a8 ((Int.toNat i_5) * 1)) = some (Value.int .i64 n9) ∧
  V.when (decide ((0 : Int) ≤ i_5 ∧ (i_5 : Int) < ((b_2l : Nat) : Int))) (V.ptr b_2 fun a10 =>
  ∃ n11, World.cell? w7 (Addr.add a10 ((Int.toNat i_5) * 1)) = some (Value.int .i64 n11) ∧
  V.sel (n9 != n11)
  (R (Ending.returned (Value.bool false)) (World.drew w7))
  (I3 (IntKind.wrap .i64 (i_5 + 1)) (World.drew w7) ∧ μ4 (IntKind.wrap .i64 (i_5 + 1)) (World.drew w7) < μ4 i_5 w7))))
  (R (Ending.returned (Value.bool true)) w7)))) :
  Calls Try.prog 18 #[(Value.slice a_1 a_1l a_1c), (Value.slice b_2 b_2l b_2c)] w R :=
  V.calls_of_R ⟨V.assoc [(0, [5])], V.assocP [(6, V.line [0, 1, 2, 3, 4, 5, 6, 7, 8])], V.assocC [], V.assocS [], ⟨[], false⟩⟩ Try.func18 rfl (Eq.mp (by kernel_rfl) h)

theorem berthref01_Members_nf (s_1 : Int) (s_2 : Option Addr) (s_2l : Nat) (s_2c : Nat) (w : World) (R : Ending → World → Prop) (h :
  ∃ A3, ∃ A3l, ∃ A3c, World.cell? (World.alloc (World.alloc w (.cells #[(Value.int .i64 s_1), (Value.slice s_2 s_2l s_2c)] 38)) (.cells #[] 3)) (Addr.add ⟨Array.size (World.heap w), 0, none⟩ 1) = some (Value.slice A3 A3l A3c) ∧
  ∃ A4, ∃ A4l, ∃ A4c, ∃ w5, Sem.run Try.prog (Builtin.append_ #[25, 25] 25 #[(Value.slice (some ⟨Array.size (World.heap (World.alloc w (.cells #[(Value.int .i64 s_1), (Value.slice s_2 s_2l s_2c)] 38))), 0, none⟩) 0 0), (Value.slice A3 A3l A3c)]) (World.alloc (World.alloc w (.cells #[(Value.int .i64 s_1), (Value.slice s_2 s_2l s_2c)] 38)) (.cells #[] 3)) = .ok (Value.slice A4 A4l A4c) w5 ∧
  R (Ending.returned (Value.slice A4 A4l A4c)) w5) :
  Calls Try.prog 19 #[(Value.agg #[(Value.int .i64 s_1), (Value.slice s_2 s_2l s_2c)])] w R :=
  V.calls_of_R ⟨V.assoc [], V.assocP [], V.assocC [], V.assocS [], ⟨[], false⟩⟩ Try.func19 rfl (Eq.mp (by kernel_rfl) h)

theorem berthlaw01_set_nf (n_1 : Int) (l_2 : Option Addr) (l_2l : Nat) (l_2c : Nat) (w : World) (R : Ending → World → Prop) (h :
  Calls Try.prog 55 #[(Value.int .i64 n_1), (Value.slice l_2 l_2l l_2c)] (World.alloc w (.cells #[(Value.int .i64 0), (Value.slice none 0 0)] 38)) fun e6 w7 =>
  ∃ n3, ∃ A4, ∃ A4l, ∃ A4c, ∃ n5, e6 = Ending.returned (Value.tuple #[(Value.agg #[(Value.int .i64 n3), (Value.slice A4 A4l A4c)]), (Value.int .i64 n5)]) ∧
  (∃ u8, World.cell? (World.alloc w7 (.cells #[(Value.int .i64 0), (Value.slice none 0 0)] 38)) (Addr.add ⟨Array.size (World.heap w7), 0, none⟩ 0) = some u8) ∧ World.frozen? (World.alloc w7 (.cells #[(Value.int .i64 0), (Value.slice none 0 0)] 38)) (Addr.add ⟨Array.size (World.heap w7), 0, none⟩ 0) = false ∧
  (∃ u9, World.cell? (World.setCell (World.alloc w7 (.cells #[(Value.int .i64 0), (Value.slice none 0 0)] 38)) (Addr.add ⟨Array.size (World.heap w7), 0, none⟩ 0) (Value.int .i64 n3)) (Addr.add ⟨Array.size (World.heap w7), 0, none⟩ 1) = some u9) ∧ World.frozen? (World.setCell (World.alloc w7 (.cells #[(Value.int .i64 0), (Value.slice none 0 0)] 38)) (Addr.add ⟨Array.size (World.heap w7), 0, none⟩ 0) (Value.int .i64 n3)) (Addr.add ⟨Array.size (World.heap w7), 0, none⟩ 1) = false ∧
  ∃ n10, World.cell? (World.setCell (World.setCell (World.alloc w7 (.cells #[(Value.int .i64 0), (Value.slice none 0 0)] 38)) (Addr.add ⟨Array.size (World.heap w7), 0, none⟩ 0) (Value.int .i64 n3)) (Addr.add ⟨Array.size (World.heap w7), 0, none⟩ 1) (Value.slice A4 A4l A4c)) (Addr.add ⟨Array.size (World.heap w7), 0, none⟩ 0) = some (Value.int .i64 n10) ∧
  ∃ A11, ∃ A11l, ∃ A11c, World.cell? (World.setCell (World.setCell (World.alloc w7 (.cells #[(Value.int .i64 0), (Value.slice none 0 0)] 38)) (Addr.add ⟨Array.size (World.heap w7), 0, none⟩ 0) (Value.int .i64 n3)) (Addr.add ⟨Array.size (World.heap w7), 0, none⟩ 1) (Value.slice A4 A4l A4c)) (Addr.add ⟨Array.size (World.heap w7), 0, none⟩ 1) = some (Value.slice A11 A11l A11c) ∧
  (∃ u12, World.cell? (World.setCell (World.setCell (World.alloc w7 (.cells #[(Value.int .i64 0), (Value.slice none 0 0)] 38)) (Addr.add ⟨Array.size (World.heap w7), 0, none⟩ 0) (Value.int .i64 n3)) (Addr.add ⟨Array.size (World.heap w7), 0, none⟩ 1) (Value.slice A4 A4l A4c)) (Addr.add ⟨Array.size (World.heap w), 0, none⟩ 0) = some u12) ∧ World.frozen? (World.setCell (World.setCell (World.alloc w7 (.cells #[(Value.int .i64 0), (Value.slice none 0 0)] 38)) (Addr.add ⟨Array.size (World.heap w7), 0, none⟩ 0) (Value.int .i64 n3)) (Addr.add ⟨Array.size (World.heap w7), 0, none⟩ 1) (Value.slice A4 A4l A4c)) (Addr.add ⟨Array.size (World.heap w), 0, none⟩ 0) = false ∧
  (∃ u13, World.cell? (World.setCell (World.setCell (World.setCell (World.alloc w7 (.cells #[(Value.int .i64 0), (Value.slice none 0 0)] 38)) (Addr.add ⟨Array.size (World.heap w7), 0, none⟩ 0) (Value.int .i64 n3)) (Addr.add ⟨Array.size (World.heap w7), 0, none⟩ 1) (Value.slice A4 A4l A4c)) (Addr.add ⟨Array.size (World.heap w), 0, none⟩ 0) (Value.int .i64 n10)) (Addr.add ⟨Array.size (World.heap w), 0, none⟩ 1) = some u13) ∧ World.frozen? (World.setCell (World.setCell (World.setCell (World.alloc w7 (.cells #[(Value.int .i64 0), (Value.slice none 0 0)] 38)) (Addr.add ⟨Array.size (World.heap w7), 0, none⟩ 0) (Value.int .i64 n3)) (Addr.add ⟨Array.size (World.heap w7), 0, none⟩ 1) (Value.slice A4 A4l A4c)) (Addr.add ⟨Array.size (World.heap w), 0, none⟩ 0) (Value.int .i64 n10)) (Addr.add ⟨Array.size (World.heap w), 0, none⟩ 1) = false ∧
  ∃ n14, World.cell? (World.setCell (World.setCell (World.setCell (World.setCell (World.alloc w7 (.cells #[(Value.int .i64 0), (Value.slice none 0 0)] 38)) (Addr.add ⟨Array.size (World.heap w7), 0, none⟩ 0) (Value.int .i64 n3)) (Addr.add ⟨Array.size (World.heap w7), 0, none⟩ 1) (Value.slice A4 A4l A4c)) (Addr.add ⟨Array.size (World.heap w), 0, none⟩ 0) (Value.int .i64 n10)) (Addr.add ⟨Array.size (World.heap w), 0, none⟩ 1) (Value.slice A11 A11l A11c)) (Addr.add ⟨Array.size (World.heap w), 0, none⟩ 0) = some (Value.int .i64 n14) ∧
  ∃ A15, ∃ A15l, ∃ A15c, World.cell? (World.setCell (World.setCell (World.setCell (World.setCell (World.alloc w7 (.cells #[(Value.int .i64 0), (Value.slice none 0 0)] 38)) (Addr.add ⟨Array.size (World.heap w7), 0, none⟩ 0) (Value.int .i64 n3)) (Addr.add ⟨Array.size (World.heap w7), 0, none⟩ 1) (Value.slice A4 A4l A4c)) (Addr.add ⟨Array.size (World.heap w), 0, none⟩ 0) (Value.int .i64 n10)) (Addr.add ⟨Array.size (World.heap w), 0, none⟩ 1) (Value.slice A11 A11l A11c)) (Addr.add ⟨Array.size (World.heap w), 0, none⟩ 1) = some (Value.slice A15 A15l A15c) ∧
  R (Ending.returned (Value.agg #[(Value.int .i64 n14), (Value.slice A15 A15l A15c)])) (World.setCell (World.setCell (World.setCell (World.setCell (World.alloc w7 (.cells #[(Value.int .i64 0), (Value.slice none 0 0)] 38)) (Addr.add ⟨Array.size (World.heap w7), 0, none⟩ 0) (Value.int .i64 n3)) (Addr.add ⟨Array.size (World.heap w7), 0, none⟩ 1) (Value.slice A4 A4l A4c)) (Addr.add ⟨Array.size (World.heap w), 0, none⟩ 0) (Value.int .i64 n10)) (Addr.add ⟨Array.size (World.heap w), 0, none⟩ 1) (Value.slice A11 A11l A11c))) :
  Calls Try.prog 20 #[(Value.int .i64 n_1), (Value.slice l_2 l_2l l_2c)] w R :=
  V.calls_of_R ⟨V.assoc [], V.assocP [], V.assocC [], V.assocS [], ⟨[], false⟩⟩ Try.func20 rfl (Eq.mp (by kernel_rfl) h)

theorem bitset_Set_Members_nf (s_1 : Option Addr) (w : World) (R : Ending → World → Prop) (h :
  Calls Try.prog 29 #[(Value.pointer s_1)] w fun e3 w4 =>
  ∃ n2, e3 = Ending.returned (Value.int .i64 n2) ∧
  V.when (decide ((0 : Int) ≤ 0 ∧ (0 : Int) ≤ n2 ∧ (n2 : Int) ≤ 281474976710656 ∧ (8 : Int) * n2 ≤ 281474976710656)) (Calls Try.prog 28 #[(Value.pointer s_1)] (World.alloc w4 (.cells ⟨V.rep (Int.toNat n2) [(Value.int .i64 0)]⟩ 3)) fun e6 w7 =>
  ∃ n5, e6 = Ending.returned (Value.int .i64 n5) ∧
  ∃ I8 : Option Addr → Nat → Nat → Int → World → Prop, ∃ μ9 : Option Addr → Nat → Nat → Int → World → Nat, I8 (some ⟨Array.size (World.heap w4), 0, none⟩) 0 (Int.toNat n2) 0 w7 ∧
  ∀ out_10 out_10l out_10c t10_11 (j12 : Nat → Value) (w13 : World), I8 out_10 out_10l out_10c t10_11 w13 →
  (V.sel (decide (t10_11 < n5))
  (Calls Try.prog 47 #[(Value.pointer s_1), (Value.int .i64 t10_11)] w13 fun e15 w16 =>
  ∃ b14, e15 = Ending.returned (Value.bool b14) ∧
  V.sel b14
  (∃ A17, ∃ A17l, ∃ A17c, ∃ w18, Sem.run Try.prog (Builtin.append_ #[25, 25] 25 #[(Value.slice out_10 out_10l out_10c), (Value.slice (some ⟨Array.size (World.heap w16), 0, none⟩) 1 1)]) (World.alloc w16 (.cells #[(Value.int .i64 t10_11)] 3)) = .ok (Value.slice A17 A17l A17c) w18 ∧
  I8 A17 A17l A17c (IntKind.wrap .i64 (t10_11 + 1)) w18 ∧ μ9 A17 A17l A17c (IntKind.wrap .i64 (t10_11 + 1)) w18 < μ9 out_10 out_10l out_10c t10_11 w13)
  (I8 out_10 out_10l out_10c (IntKind.wrap .i64 (t10_11 + 1)) w16 ∧ μ9 out_10 out_10l out_10c (IntKind.wrap .i64 (t10_11 + 1)) w16 < μ9 out_10 out_10l out_10c t10_11 w13))
  (R (Ending.returned (Value.slice out_10 out_10l out_10c)) w13)))) :
  Calls Try.prog 21 #[(Value.pointer s_1)] w R :=
  V.calls_of_R ⟨V.assoc [(0, [3, 10])], V.assocP [], V.assocC [], V.assocS [], ⟨[], false⟩⟩ Try.func21 rfl (Eq.mp (by kernel_rfl) h)

theorem berthlaw01_apartInts_nf (ls_1 : Option Addr) (ls_1l : Nat) (ls_1c : Nat) (w : World) (R : Ending → World → Prop) (h :
  V.when (decide ((0 : Int) ≤ ((ls_1l : Nat) : Int) ∧ (((ls_1l : Nat) : Int) : Int) ≤ ((ls_1l : Nat) : Int) ∧ (((ls_1l : Nat) : Int) : Int) ≤ 281474976710656 ∧ (24 : Int) * ((ls_1l : Nat) : Int) ≤ 281474976710656)) (∃ I2 : Int → World → Prop, ∃ μ3 : Int → World → Nat, I2 0 (World.alloc w (.cells ⟨V.rep (ls_1l : Nat) [(Value.slice none 0 0)]⟩ 25)) ∧
  ∀ i_4 (j5 : Nat → Value) (w6 : World), I2 i_4 w6 →
  (V.sel (decide (i_4 < ((ls_1l : Nat) : Int)))
  (∃ I7 : Int → World → Prop, ∃ μ8 : Int → World → Nat, I7 0 w6 ∧
  ∀ k_9 (j10 : Nat → Value) (w11 : World), I7 k_9 w11 →
  (V.when (decide ((0 : Int) ≤ i_4 ∧ (i_4 : Int) < ((ls_1l : Nat) : Int))) (V.ptr ls_1 fun a12 =>
  ∃ A13, ∃ A13l, ∃ A13c, World.cell? w11 (Addr.add a12 ((Int.toNat i_4) * 1)) = some (Value.slice A13 A13l A13c) ∧
  V.sel (decide (k_9 < ((A13l : Nat) : Int)))
  (V.when (decide ((0 : Int) ≤ i_4 ∧ (i_4 : Int) < ((ls_1l : Nat) : Int))) (V.ptr ls_1 fun a14 =>
  ∃ A15, ∃ A15l, ∃ A15c, World.cell? w11 (Addr.add a14 ((Int.toNat i_4) * 1)) = some (Value.slice A15 A15l A15c) ∧
  V.when (decide ((0 : Int) ≤ k_9 ∧ (k_9 : Int) < ((A15l : Nat) : Int))) (V.ptr A15 fun a16 =>
  (∃ u17, World.cell? w11 (Addr.add (Addr.add a16 ((Int.toNat k_9) * 1)) 0) = some u17) ∧ World.frozen? w11 (Addr.add (Addr.add a16 ((Int.toNat k_9) * 1)) 0) = false ∧
  I7 (IntKind.wrap .i64 (k_9 + 1)) (World.setCell w11 (Addr.add (Addr.add a16 ((Int.toNat k_9) * 1)) 0) (Value.int .i64 (IntKind.wrap .i64 ((IntKind.wrap .i64 ((-1000) * (IntKind.wrap .i64 (i_4 + 1)))) - (Int.tmod k_9 7))))) ∧ μ8 (IntKind.wrap .i64 (k_9 + 1)) (World.setCell w11 (Addr.add (Addr.add a16 ((Int.toNat k_9) * 1)) 0) (Value.int .i64 (IntKind.wrap .i64 ((IntKind.wrap .i64 ((-1000) * (IntKind.wrap .i64 (i_4 + 1)))) - (Int.tmod k_9 7))))) < μ8 k_9 w11)))
  (I2 (IntKind.wrap .i64 (i_4 + 1)) w11 ∧ μ3 (IntKind.wrap .i64 (i_4 + 1)) w11 < μ3 i_4 w6))))
  (∃ I18 : Int → World → Prop, ∃ μ19 : Int → World → Nat, I18 0 w6 ∧
  ∀ i_20 (j21 : Nat → Value) (w22 : World), I18 i_20 w22 →
  (V.sel (decide (i_20 < ((ls_1l : Nat) : Int)))
  (V.when (decide ((0 : Int) ≤ i_20 ∧ (i_20 : Int) < ((ls_1l : Nat) : Int))) (V.ptr ls_1 fun a23 =>
  ∃ A24, ∃ A24l, ∃ A24c, World.cell? w22 (Addr.add a23 ((Int.toNat i_20) * 1)) = some (Value.slice A24 A24l A24c) ∧
  ∃ I25 : Option Addr → Nat → Nat → Int → World → Prop, ∃ μ26 : Option Addr → Nat → Nat → Int → World → Nat, I25 A24 A24l A24c 0 w22 ∧
  ∀ g_27 g_27l g_27c k_28 (j29 : Nat → Value) (w30 : World), I25 g_27 g_27l g_27c k_28 w30 →
  (V.sel (decide (k_28 < 40))
  (∃ A31, ∃ A31l, ∃ A31c, ∃ w32, Sem.run Try.prog (Builtin.append_ #[25, 25] 25 #[(Value.slice g_27 g_27l g_27c), (Value.slice (some ⟨Array.size (World.heap w30), 0, none⟩) 1 1)]) (World.alloc w30 (.cells #[(Value.int .i64 (IntKind.wrap .i64 ((IntKind.wrap .i64 (1000000 * (IntKind.wrap .i64 (i_20 + 1)))) + k_28)))] 3)) = .ok (Value.slice A31 A31l A31c) w32 ∧
  I25 A31 A31l A31c (IntKind.wrap .i64 (k_28 + 1)) w32 ∧ μ26 A31 A31l A31c (IntKind.wrap .i64 (k_28 + 1)) w32 < μ26 g_27 g_27l g_27c k_28 w30)
  (V.when (decide ((0 : Int) ≤ i_20 ∧ (i_20 : Int) < (((ls_1l : Nat) : Nat) : Int))) ((∃ u33, World.cell? w30 (Addr.add (Addr.add ⟨Array.size (World.heap w), 0, none⟩ ((Int.toNat i_20) * 1)) 0) = some u33) ∧ World.frozen? w30 (Addr.add (Addr.add ⟨Array.size (World.heap w), 0, none⟩ ((Int.toNat i_20) * 1)) 0) = false ∧
  I18 (IntKind.wrap .i64 (i_20 + 1)) (World.setCell w30 (Addr.add (Addr.add ⟨Array.size (World.heap w), 0, none⟩ ((Int.toNat i_20) * 1)) 0) (Value.slice g_27 g_27l g_27c)) ∧ μ19 (IntKind.wrap .i64 (i_20 + 1)) (World.setCell w30 (Addr.add (Addr.add ⟨Array.size (World.heap w), 0, none⟩ ((Int.toNat i_20) * 1)) 0) (Value.slice g_27 g_27l g_27c)) < μ19 i_20 w22)))))
  (∃ I34 : Int → World → Prop, ∃ μ35 : Int → World → Nat, I34 0 w22 ∧
  ∀ i_36 (j37 : Nat → Value) (w38 : World), I34 i_36 w38 →
  (V.sel (decide (i_36 < ((ls_1l : Nat) : Int)))
  (∃ I39 : Int → World → Prop, ∃ μ40 : Int → World → Nat, I39 0 w38 ∧
  ∀ k_41 (j42 : Nat → Value) (w43 : World), I39 k_41 w43 →
  (V.when (decide ((0 : Int) ≤ i_36 ∧ (i_36 : Int) < ((ls_1l : Nat) : Int))) (V.ptr ls_1 fun a44 =>
  ∃ A45, ∃ A45l, ∃ A45c, World.cell? w43 (Addr.add a44 ((Int.toNat i_36) * 1)) = some (Value.slice A45 A45l A45c) ∧
  V.sel (decide (k_41 < ((A45l : Nat) : Int)))
  (V.when (decide ((0 : Int) ≤ i_36 ∧ (i_36 : Int) < ((ls_1l : Nat) : Int))) (V.ptr ls_1 fun a46 =>
  ∃ A47, ∃ A47l, ∃ A47c, World.cell? w43 (Addr.add a46 ((Int.toNat i_36) * 1)) = some (Value.slice A47 A47l A47c) ∧
  V.when (decide ((0 : Int) ≤ k_41 ∧ (k_41 : Int) < ((A47l : Nat) : Int))) (V.ptr A47 fun a48 =>
  ∃ n49, World.cell? w43 (Addr.add a48 ((Int.toNat k_41) * 1)) = some (Value.int .i64 n49) ∧
  V.sel (n49 != (IntKind.wrap .i64 ((IntKind.wrap .i64 ((-1000) * (IntKind.wrap .i64 (i_36 + 1)))) - (Int.tmod k_41 7))))
  (R (Ending.returned (Value.bool false)) w43)
  (I39 (IntKind.wrap .i64 (k_41 + 1)) w43 ∧ μ40 (IntKind.wrap .i64 (k_41 + 1)) w43 < μ40 k_41 w43))))
  (∃ I50 : Int → World → Prop, ∃ μ51 : Int → World → Nat, I50 0 w43 ∧
  ∀ k_52 (j53 : Nat → Value) (w54 : World), I50 k_52 w54 →
  (V.sel (decide (k_52 < 40))
  (V.when (decide ((0 : Int) ≤ i_36 ∧ (i_36 : Int) < (((ls_1l : Nat) : Nat) : Int))) (∃ A55, ∃ A55l, ∃ A55c, World.cell? w54 (Addr.add ⟨Array.size (World.heap w), 0, none⟩ ((Int.toNat i_36) * 1)) = some (Value.slice A55 A55l A55c) ∧
  V.when (decide ((0 : Int) ≤ i_36 ∧ (i_36 : Int) < ((ls_1l : Nat) : Int))) (V.ptr ls_1 fun a56 =>
  ∃ A57, ∃ A57l, ∃ A57c, World.cell? w54 (Addr.add a56 ((Int.toNat i_36) * 1)) = some (Value.slice A57 A57l A57c) ∧
  V.when (decide ((0 : Int) ≤ (IntKind.wrap .i64 (((A57l : Nat) : Int) + k_52)) ∧ ((IntKind.wrap .i64 (((A57l : Nat) : Int) + k_52)) : Int) < ((A55l : Nat) : Int))) (V.ptr A55 fun a58 =>
  ∃ n59, World.cell? w54 (Addr.add a58 ((Int.toNat (IntKind.wrap .i64 (((A57l : Nat) : Int) + k_52))) * 1)) = some (Value.int .i64 n59) ∧
  V.sel (n59 != (IntKind.wrap .i64 ((IntKind.wrap .i64 (1000000 * (IntKind.wrap .i64 (i_36 + 1)))) + k_52)))
  (R (Ending.returned (Value.bool false)) (World.drew w54))
  (I50 (IntKind.wrap .i64 (k_52 + 1)) (World.drew w54) ∧ μ51 (IntKind.wrap .i64 (k_52 + 1)) (World.drew w54) < μ51 k_52 w54)))))
  (I34 (IntKind.wrap .i64 (i_36 + 1)) w54 ∧ μ35 (IntKind.wrap .i64 (i_36 + 1)) w54 < μ35 i_36 w38))))))
  (R (Ending.returned (Value.bool true)) w38)))))))) :
  Calls Try.prog 22 #[(Value.slice ls_1 ls_1l ls_1c)] w R :=
  V.calls_of_R ⟨V.assoc [(0, [4]), (1, [5]), (2, [6]), (3, [7, 8]), (4, [9]), (5, [10]), (6, [11])], V.assocP [(29, V.line [0, 1, 2, 3, 4, 5, 6, 7, 8, 9, 10, 11, 12, 13, 14, 15, 16, 17, 18])], V.assocC [], V.assocS [], ⟨[], false⟩⟩ Try.func22 rfl (Eq.mp (by kernel_rfl) h)

theorem berthlaw01_wordLists_nf (s_1 : Option Addr) (n_2 : Int) (w : World) (R : Ending → World → Prop) (h :
  Calls Try.prog 25 #[(Value.pointer s_1)] w fun e4 w5 =>
  ∃ A3, ∃ A3l, ∃ A3c, e4 = Ending.returned (Value.slice A3 A3l A3c) ∧
  Calls Try.prog 25 #[(Value.pointer s_1)] w5 fun e7 w8 =>
  ∃ A6, ∃ A6l, ∃ A6c, e7 = Ending.returned (Value.slice A6 A6l A6c) ∧
  Calls Try.prog 26 #[(Value.slice A3 A3l A3c)] w8 fun e10 w11 =>
  ∃ A9, ∃ A9l, ∃ A9c, e10 = Ending.returned (Value.slice A9 A9l A9c) ∧
  Calls Try.prog 26 #[(Value.slice A3 A3l A3c)] w11 fun e13 w14 =>
  ∃ A12, ∃ A12l, ∃ A12c, e13 = Ending.returned (Value.slice A12 A12l A12c) ∧
  ∃ A15, ∃ A15l, ∃ A15c, ∃ w16, Sem.run Try.prog (Builtin.append_ #[46, 46] 46 #[(Value.slice A12 A12l A12c), (Value.slice (some ⟨Array.size (World.heap w14), 0, none⟩) 4 4)]) (World.alloc w14 (.cells #[(Value.int .u64 5), (Value.int .u64 6), (Value.int .u64 7), (Value.int .u64 8)] 51)) = .ok (Value.slice A15 A15l A15c) w16 ∧
  Calls Try.prog 26 #[(Value.slice A15 A15l A15c)] w16 fun e18 w19 =>
  ∃ A17, ∃ A17l, ∃ A17c, e18 = Ending.returned (Value.slice A17 A17l A17c) ∧
  V.when (decide ((0 : Int) ≤ ((A3l : Nat) : Int) ∧ (((A3l : Nat) : Int) : Int) ≤ ((A15c : Nat) : Int))) (Calls Try.prog 24 #[(Value.int .i64 n_2), (Value.slice (V.cut A15 A15c 0 1) ((A3l : Nat) - 0) (A15c - 0))] w19 fun e22 w23 =>
  ∃ p20, ∃ n21, e22 = Ending.returned (Value.tuple #[(Value.pointer p20), (Value.int .i64 n21)]) ∧
  V.sel (Option.isNone p20)
  (R (Ending.returned (Value.bool false)) w23)
  (Calls Try.prog 56 #[(Value.slice A15 A15l A15c), (Value.slice A17 A17l A17c)] w23 fun e25 w26 =>
  ∃ b24, e25 = Ending.returned (Value.bool b24) ∧
  V.sel (!b24)
  (R (Ending.returned (Value.bool false)) w26)
  (Calls Try.prog 56 #[(Value.slice A6 A6l A6c), (Value.slice A9 A9l A9c)] w26 fun e28 w29 =>
  ∃ b27, e28 = Ending.returned (Value.bool b27) ∧
  V.sel (!b27)
  (R (Ending.returned (Value.bool false)) w29)
  (∃ I30 : Int → World → Prop, ∃ μ31 : Int → World → Nat, I30 0 w29 ∧
  ∀ i_32 (j33 : Nat → Value) (w34 : World), I30 i_32 w34 →
  (V.sel (decide (i_32 < ((A15l : Nat) : Int)))
  (V.when (decide ((0 : Int) ≤ i_32 ∧ (i_32 : Int) < ((A15l : Nat) : Int))) (V.ptr A15 fun a35 =>
  (∃ u36, World.cell? w34 (Addr.add (Addr.add a35 ((Int.toNat i_32) * 1)) 0) = some u36) ∧ World.frozen? w34 (Addr.add (Addr.add a35 ((Int.toNat i_32) * 1)) 0) = false ∧
  I30 (IntKind.wrap .i64 (i_32 + 1)) (World.setCell w34 (Addr.add (Addr.add a35 ((Int.toNat i_32) * 1)) 0) (Value.int .u64 0)) ∧ μ31 (IntKind.wrap .i64 (i_32 + 1)) (World.setCell w34 (Addr.add (Addr.add a35 ((Int.toNat i_32) * 1)) 0) (Value.int .u64 0)) < μ31 i_32 w34))
  (Calls Try.prog 25 #[(Value.pointer p20)] w34 fun e38 w39 =>
  ∃ A37, ∃ A37l, ∃ A37c, e38 = Ending.returned (Value.slice A37 A37l A37c) ∧
  Calls Try.prog 56 #[(Value.slice A37 A37l A37c), (Value.slice A9 A9l A9c)] w39 fun e41 w42 =>
  ∃ b40, e41 = Ending.returned (Value.bool b40) ∧
  V.sel (!b40)
  (R (Ending.returned (Value.bool false)) w42)
  (Calls Try.prog 57 #[(Value.slice (some ⟨Array.size (World.heap w42), 0, none⟩) 3 3)] (World.alloc w42 (.cells #[(Value.slice A3 A3l A3c), (Value.slice A6 A6l A6c), (Value.slice A37 A37l A37c)] 46)) fun e44 w45 =>
  ∃ b43, e44 = Ending.returned (Value.bool b43) ∧
  V.sel (!b43)
  (R (Ending.returned (Value.bool false)) w45)
  (Calls Try.prog 25 #[(Value.pointer s_1)] w45 fun e47 w48 =>
  ∃ A46, ∃ A46l, ∃ A46c, e47 = Ending.returned (Value.slice A46 A46l A46c) ∧
  Calls Try.prog 56 #[(Value.slice A46 A46l A46c), (Value.slice A9 A9l A9c)] w48 fun e50 w51 =>
  ∃ b49, e50 = Ending.returned (Value.bool b49) ∧
  V.sel b49
  (Calls Try.prog 25 #[(Value.pointer p20)] w51 fun e53 w54 =>
  ∃ A52, ∃ A52l, ∃ A52c, e53 = Ending.returned (Value.slice A52 A52l A52c) ∧
  Calls Try.prog 56 #[(Value.slice A52 A52l A52c), (Value.slice A9 A9l A9c)] w54 fun e56 w57 =>
  ∃ b55, e56 = Ending.returned (Value.bool b55) ∧
  R (Ending.returned (Value.bool b55)) w57)
  (R (Ending.returned (Value.bool false)) w51)))))))))) :
  Calls Try.prog 23 #[(Value.pointer s_1), (Value.int .i64 n_2)] w R :=
  V.calls_of_R ⟨V.assoc [(0, [12])], V.assocP [], V.assocC [], V.assocS [], ⟨[], false⟩⟩ Try.func23 rfl (Eq.mp (by kernel_rfl) h)

theorem bitset_FromWords_nf (n_1 : Int) (words_2 : Option Addr) (words_2l : Nat) (words_2c : Nat) (w : World) (R : Ending → World → Prop) (h :
  Calls Try.prog 31 #[(Value.int .i64 n_1)] w fun e5 w6 =>
  ∃ p3, ∃ n4, e5 = Ending.returned (Value.tuple #[(Value.pointer p3), (Value.int .i64 n4)]) ∧
  V.sel (n4 != 0)
  (R (Ending.returned (Value.tuple #[(Value.pointer none), (Value.int .i64 n4)])) w6)
  (V.ptr p3 fun a7 =>
  ∃ A8, ∃ A8l, ∃ A8c, World.cell? w6 (Addr.add a7 1) = some (Value.slice A8 A8l A8c) ∧
  V.sel (((words_2l : Nat) : Int) != ((A8l : Nat) : Int))
  (R (Ending.returned (Value.tuple #[(Value.pointer none), (Value.int .i64 14)])) w6)
  (V.sel ((Int.tmod n_1 64) != 0)
  (V.when (decide ((0 : Int) ≤ (IntKind.wrap .i64 (((words_2l : Nat) : Int) - 1)) ∧ ((IntKind.wrap .i64 (((words_2l : Nat) : Int) - 1)) : Int) < ((words_2l : Nat) : Int))) (V.ptr words_2 fun a9 =>
  ∃ n10, World.cell? w6 (Addr.add a9 ((Int.toNat (IntKind.wrap .i64 (((words_2l : Nat) : Int) - 1))) * 1)) = some (Value.int .u64 n10) ∧
  V.when (decide (0 ≤ (Int.tmod n_1 64))) (V.sel ((Int.fdiv n10 (2 ^ (min (Int.toNat (Int.tmod n_1 64)) 64))) != 0)
  (R (Ending.returned (Value.tuple #[(Value.pointer none), (Value.int .i64 12)])) w6)
  (V.ptr p3 fun a11 =>
  ∃ A12, ∃ A12l, ∃ A12c, World.cell? w6 (Addr.add a11 1) = some (Value.slice A12 A12l A12c) ∧
  ∃ n13, ∃ w14, Sem.run Try.prog (Builtin.copy_ #[46, 46] 3 #[(Value.slice A12 A12l A12c), (Value.slice words_2 words_2l words_2c)]) w6 = .ok (Value.int .i64 n13) w14 ∧
  R (Ending.returned (Value.tuple #[(Value.pointer p3), (Value.int .i64 0)])) w14))))
  (V.ptr p3 fun a15 =>
  ∃ A16, ∃ A16l, ∃ A16c, World.cell? w6 (Addr.add a15 1) = some (Value.slice A16 A16l A16c) ∧
  ∃ n17, ∃ w18, Sem.run Try.prog (Builtin.copy_ #[46, 46] 3 #[(Value.slice A16 A16l A16c), (Value.slice words_2 words_2l words_2c)]) w6 = .ok (Value.int .i64 n17) w18 ∧
  R (Ending.returned (Value.tuple #[(Value.pointer p3), (Value.int .i64 0)])) w18)))) :
  Calls Try.prog 24 #[(Value.int .i64 n_1), (Value.slice words_2 words_2l words_2c)] w R :=
  V.calls_of_R ⟨V.assoc [], V.assocP [], V.assocC [], V.assocS [], ⟨[], false⟩⟩ Try.func24 rfl (Eq.mp (by kernel_rfl) h)

theorem bitset_Set_Words_nf (s_1 : Option Addr) (w : World) (R : Ending → World → Prop) (h :
  Calls Try.prog 44 #[(Value.pointer s_1)] w fun e3 w4 =>
  ∃ p2, e3 = Ending.returned (Value.pointer p2) ∧
  V.ptr p2 fun a5 =>
  ∃ A6, ∃ A6l, ∃ A6c, World.cell? w4 (Addr.add a5 1) = some (Value.slice A6 A6l A6c) ∧
  R (Ending.returned (Value.slice A6 A6l A6c)) w4) :
  Calls Try.prog 25 #[(Value.pointer s_1)] w R :=
  V.calls_of_R ⟨V.assoc [], V.assocP [], V.assocC [], V.assocS [], ⟨[], false⟩⟩ Try.func25 rfl (Eq.mp (by kernel_rfl) h)

theorem berthlaw01_words_nf (l_1 : Option Addr) (l_1l : Nat) (l_1c : Nat) (w : World) (R : Ending → World → Prop) (h :
  ∃ A2, ∃ A2l, ∃ A2c, ∃ w3, Sem.run Try.prog (Builtin.append_ #[46, 46] 46 #[(Value.slice (some ⟨Array.size (World.heap w), 0, none⟩) 0 0), (Value.slice l_1 l_1l l_1c)]) (World.alloc w (.cells #[] 51)) = .ok (Value.slice A2 A2l A2c) w3 ∧
  R (Ending.returned (Value.slice A2 A2l A2c)) w3) :
  Calls Try.prog 26 #[(Value.slice l_1 l_1l l_1c)] w R :=
  V.calls_of_R ⟨V.assoc [], V.assocP [], V.assocC [], V.assocS [], ⟨[], false⟩⟩ Try.func26 rfl (Eq.mp (by kernel_rfl) h)

theorem bitset_Equal_nf (a_1 : Option Addr) (b_2 : Option Addr) (w : World) (R : Ending → World → Prop) (h :
  Calls Try.prog 58 #[(Value.pointer a_1), (Value.pointer b_2)] w fun e4 w5 =>
  ∃ n3, e4 = Ending.returned (Value.int .i64 n3) ∧
  ∃ I6 : Int → World → Prop, ∃ μ7 : Int → World → Nat, I6 0 w5 ∧
  ∀ t9_8 (j9 : Nat → Value) (w10 : World), I6 t9_8 w10 →
  (V.sel (decide (t9_8 < n3))
  (Calls Try.prog 59 #[(Value.pointer a_1), (Value.int .i64 t9_8)] w10 fun e12 w13 =>
  ∃ n11, e12 = Ending.returned (Value.int .u64 n11) ∧
  Calls Try.prog 59 #[(Value.pointer b_2), (Value.int .i64 t9_8)] w13 fun e15 w16 =>
  ∃ n14, e15 = Ending.returned (Value.int .u64 n14) ∧
  V.sel (n11 != n14)
  (R (Ending.returned (Value.bool false)) w16)
  (I6 (IntKind.wrap .i64 (t9_8 + 1)) w16 ∧ μ7 (IntKind.wrap .i64 (t9_8 + 1)) w16 < μ7 t9_8 w10))
  (R (Ending.returned (Value.bool true)) w10))) :
  Calls Try.prog 27 #[(Value.pointer a_1), (Value.pointer b_2)] w R :=
  V.calls_of_R ⟨V.assoc [(0, [9])], V.assocP [], V.assocC [], V.assocS [], ⟨[], false⟩⟩ Try.func27 rfl (Eq.mp (by kernel_rfl) h)

theorem bitset_Set_Size_nf (s_1 : Option Addr) (w : World) (R : Ending → World → Prop) (h :
  V.sel (Option.isNone s_1)
  (R (Ending.returned (Value.int .i64 0)) w)
  (V.ptr s_1 fun a2 =>
  ∃ n3, World.cell? w (Addr.add a2 0) = some (Value.int .i64 n3) ∧
  R (Ending.returned (Value.int .i64 n3)) w)) :
  Calls Try.prog 28 #[(Value.pointer s_1)] w R :=
  V.calls_of_R ⟨V.assoc [], V.assocP [], V.assocC [], V.assocS [], ⟨[], false⟩⟩ Try.func28 rfl (Eq.mp (by kernel_rfl) h)

theorem bitset_Set_Count_nf (s_1 : Option Addr) (w : World) (R : Ending → World → Prop) (h :
  Calls Try.prog 28 #[(Value.pointer s_1)] w fun e3 w4 =>
  ∃ n2, e3 = Ending.returned (Value.int .i64 n2) ∧
  Calls Try.prog 60 #[(Value.pointer s_1), (Value.int .i64 n2)] w4 fun e6 w7 =>
  ∃ n5, e6 = Ending.returned (Value.int .i64 n5) ∧
  R (Ending.returned (Value.int .i64 n5)) w7) :
  Calls Try.prog 29 #[(Value.pointer s_1)] w R :=
  V.calls_of_R ⟨V.assoc [], V.assocP [], V.assocC [], V.assocS [], ⟨[], false⟩⟩ Try.func29 rfl (Eq.mp (by kernel_rfl) h)

theorem berthlaw01_refused_nf (n_1 : Int) (w_2 : Option Addr) (w_2l : Nat) (w_2c : Nat) (w : World) (R : Ending → World → Prop) (h :
  Calls Try.prog 26 #[(Value.slice w_2 w_2l w_2c)] w fun e4 w5 =>
  ∃ A3, ∃ A3l, ∃ A3c, e4 = Ending.returned (Value.slice A3 A3l A3c) ∧
  ∃ A6, ∃ A6l, ∃ A6c, ∃ w7, Sem.run Try.prog (Builtin.append_ #[46, 46] 46 #[(Value.slice A3 A3l A3c), (Value.slice (some ⟨Array.size (World.heap w5), 0, none⟩) 1 1)]) (World.alloc w5 (.cells #[(Value.int .u64 0)] 51)) = .ok (Value.slice A6 A6l A6c) w7 ∧
  Calls Try.prog 24 #[(Value.int .i64 n_1), (Value.slice A6 A6l A6c)] w7 fun e10 w11 =>
  ∃ p8, ∃ n9, e10 = Ending.returned (Value.tuple #[(Value.pointer p8), (Value.int .i64 n9)]) ∧
  Calls Try.prog 11 #[(Value.int .i64 n9)] w11 fun e13 w14 =>
  ∃ n12, e13 = Ending.returned (Value.int .i64 n12) ∧
  V.sel (n12 != 14)
  (R (Ending.returned (Value.bool false)) w14)
  (V.sel (((w_2l : Nat) : Int) == 0)
  (R (Ending.returned (Value.bool true)) w14)
  (V.when (decide ((0 : Int) ≤ (IntKind.wrap .i64 (((w_2l : Nat) : Int) - 1)) ∧ ((IntKind.wrap .i64 (((w_2l : Nat) : Int) - 1)) : Int) ≤ ((w_2c : Nat) : Int))) (Calls Try.prog 26 #[(Value.slice (V.cut w_2 w_2c 0 1) ((Int.toNat (IntKind.wrap .i64 (((w_2l : Nat) : Int) - 1))) - 0) (w_2c - 0))] w14 fun e16 w17 =>
  ∃ A15, ∃ A15l, ∃ A15c, e16 = Ending.returned (Value.slice A15 A15l A15c) ∧
  Calls Try.prog 24 #[(Value.int .i64 n_1), (Value.slice A15 A15l A15c)] w17 fun e20 w21 =>
  ∃ p18, ∃ n19, e20 = Ending.returned (Value.tuple #[(Value.pointer p18), (Value.int .i64 n19)]) ∧
  Calls Try.prog 11 #[(Value.int .i64 n19)] w21 fun e23 w24 =>
  ∃ n22, e23 = Ending.returned (Value.int .i64 n22) ∧
  V.sel (n22 != 14)
  (R (Ending.returned (Value.bool false)) w24)
  (V.sel ((Int.tmod n_1 64) != 0)
  (Calls Try.prog 26 #[(Value.slice w_2 w_2l w_2c)] w24 fun e26 w27 =>
  ∃ A25, ∃ A25l, ∃ A25c, e26 = Ending.returned (Value.slice A25 A25l A25c) ∧
  V.when (decide ((0 : Int) ≤ (IntKind.wrap .i64 (((A25l : Nat) : Int) - 1)) ∧ ((IntKind.wrap .i64 (((A25l : Nat) : Int) - 1)) : Int) < ((A25l : Nat) : Int))) (V.ptr A25 fun a28 =>
  ∃ n29, World.cell? w27 (Addr.add a28 ((Int.toNat (IntKind.wrap .i64 (((A25l : Nat) : Int) - 1))) * 1)) = some (Value.int .u64 n29) ∧
  V.when (decide (0 ≤ (IntKind.wrap .u64 ((Int.tmod n_1 64))))) (V.when (decide ((0 : Int) ≤ (IntKind.wrap .i64 (((A25l : Nat) : Int) - 1)) ∧ ((IntKind.wrap .i64 (((A25l : Nat) : Int) - 1)) : Int) < ((A25l : Nat) : Int))) (V.ptr A25 fun a30 =>
  (∃ u31, World.cell? w27 (Addr.add (Addr.add a30 ((Int.toNat (IntKind.wrap .i64 (((A25l : Nat) : Int) - 1))) * 1)) 0) = some u31) ∧ World.frozen? w27 (Addr.add (Addr.add a30 ((Int.toNat (IntKind.wrap .i64 (((A25l : Nat) : Int) - 1))) * 1)) 0) = false ∧
  Calls Try.prog 24 #[(Value.int .i64 n_1), (Value.slice A25 A25l A25c)] (World.setCell w27 (Addr.add (Addr.add a30 ((Int.toNat (IntKind.wrap .i64 (((A25l : Nat) : Int) - 1))) * 1)) 0) (Value.int .u64 (IntKind.wrap .u64 ((BitVec.toNat (BitVec.ofInt 64 n29 ||| BitVec.ofInt 64 (IntKind.wrap .u64 (1 * 2 ^ (min (Int.toNat (IntKind.wrap .u64 ((Int.tmod n_1 64)))) 64)))) : Nat) : Int)))) fun e34 w35 =>
  ∃ p32, ∃ n33, e34 = Ending.returned (Value.tuple #[(Value.pointer p32), (Value.int .i64 n33)]) ∧
  Calls Try.prog 11 #[(Value.int .i64 n33)] w35 fun e37 w38 =>
  ∃ n36, e37 = Ending.returned (Value.int .i64 n36) ∧
  R (Ending.returned (Value.bool (n36 == 12))) w38))))
  (R (Ending.returned (Value.bool true)) w24)))))) :
  Calls Try.prog 30 #[(Value.int .i64 n_1), (Value.slice w_2 w_2l w_2c)] w R :=
  V.calls_of_R ⟨V.assoc [], V.assocP [], V.assocC [], V.assocS [], ⟨[], false⟩⟩ Try.func30 rfl (Eq.mp (by kernel_rfl) h)

theorem bitset_New_nf (n_1 : Int) (w : World) (R : Ending → World → Prop) (h :
  V.sel (decide (n_1 < 0))
  (R (Ending.returned (Value.tuple #[(Value.pointer none), (Value.int .i64 11)])) w)
  (V.sel (decide (n_1 > 65536))
  (R (Ending.returned (Value.tuple #[(Value.pointer none), (Value.int .i64 11)])) w)
  (Calls Try.prog 61 #[(Value.int .i64 n_1)] w fun e3 w4 =>
  ∃ p2, e3 = Ending.returned (Value.pointer p2) ∧
  R (Ending.returned (Value.tuple #[(Value.pointer p2), (Value.int .i64 0)])) w4))) :
  Calls Try.prog 31 #[(Value.int .i64 n_1)] w R :=
  V.calls_of_R ⟨V.assoc [], V.assocP [], V.assocC [], V.assocS [], ⟨[], false⟩⟩ Try.func31 rfl (Eq.mp (by kernel_rfl) h)

theorem bitset_Not_nf (a_1 : Option Addr) (live_2 : Option Addr) (w : World) (R : Ending → World → Prop) (h :
  Calls Try.prog 28 #[(Value.pointer live_2)] w fun e4 w5 =>
  ∃ n3, e4 = Ending.returned (Value.int .i64 n3) ∧
  Calls Try.prog 61 #[(Value.int .i64 n3)] w5 fun e7 w8 =>
  ∃ p6, e7 = Ending.returned (Value.pointer p6) ∧
  V.ptr p6 fun a9 =>
  ∃ A10, ∃ A10l, ∃ A10c, World.cell? w8 (Addr.add a9 1) = some (Value.slice A10 A10l A10c) ∧
  ∃ I11 : Int → World → Prop, ∃ μ12 : Int → World → Nat, I11 0 w8 ∧
  ∀ t15_13 (j14 : Nat → Value) (w15 : World), I11 t15_13 w15 →
  (V.sel (decide (t15_13 < ((A10l : Nat) : Int)))
  (∃ S16 : World → Prop, S16 (World.drew w15) ∧
  V.ptr p6 fun a18 =>
  ∃ A19, ∃ A19l, ∃ A19c, (∀ w17, S16 w17 → World.cell? w17 (Addr.add a18 1) = some (Value.slice A19 A19l A19c)) ∧
  Calls Try.prog 59 #[(Value.pointer live_2), (Value.int .i64 t15_13)] (World.drew w15) fun e21 w22 =>
  ∃ n20, e21 = Ending.returned (Value.int .u64 n20) ∧
  S16 w22 ∧
  Calls Try.prog 59 #[(Value.pointer a_1), (Value.int .i64 t15_13)] w22 fun e24 w25 =>
  ∃ n23, e24 = Ending.returned (Value.int .u64 n23) ∧
  S16 w25 ∧
  V.when (decide ((0 : Int) ≤ t15_13 ∧ (t15_13 : Int) < ((A19l : Nat) : Int))) (V.ptr A19 fun a26 =>
  (∃ u27, World.cell? w25 (Addr.add (Addr.add a26 ((Int.toNat t15_13) * 1)) 0) = some u27) ∧ World.frozen? w25 (Addr.add (Addr.add a26 ((Int.toNat t15_13) * 1)) 0) = false ∧
  I11 (IntKind.wrap .i64 (t15_13 + 1)) (World.setCell w25 (Addr.add (Addr.add a26 ((Int.toNat t15_13) * 1)) 0) (Value.int .u64 (IntKind.wrap .u64 ((BitVec.toNat (BitVec.ofInt 64 n20 &&& ~~~(BitVec.ofInt 64 n23)) : Nat) : Int)))) ∧ μ12 (IntKind.wrap .i64 (t15_13 + 1)) (World.setCell w25 (Addr.add (Addr.add a26 ((Int.toNat t15_13) * 1)) 0) (Value.int .u64 (IntKind.wrap .u64 ((BitVec.toNat (BitVec.ofInt 64 n20 &&& ~~~(BitVec.ofInt 64 n23)) : Nat) : Int)))) < μ12 t15_13 w15))
  (R (Ending.returned (Value.pointer p6)) w15))) :
  Calls Try.prog 32 #[(Value.pointer a_1), (Value.pointer live_2)] w R :=
  V.calls_of_R ⟨V.assoc [(0, [15])], V.assocP [(5, V.line [0, 1, 2, 3, 4, 5, 6, 8, 9, 7, 10, 11, 12, 13])], V.assocC [], V.assocS [], ⟨[], false⟩⟩ Try.func32 rfl (Eq.mp (by kernel_rfl) h)

theorem bitset_Or_nf (a_1 : Option Addr) (b_2 : Option Addr) (w : World) (R : Ending → World → Prop) (h :
  Calls Try.prog 62 #[(Value.pointer a_1), (Value.pointer b_2), (Value.func (.func 63) #[] #[])] w fun e4 w5 =>
  ∃ p3, e4 = Ending.returned (Value.pointer p3) ∧
  R (Ending.returned (Value.pointer p3)) w5) :
  Calls Try.prog 33 #[(Value.pointer a_1), (Value.pointer b_2)] w R :=
  V.calls_of_R ⟨V.assoc [], V.assocP [], V.assocC [], V.assocS [], ⟨[], false⟩⟩ Try.func33 rfl (Eq.mp (by kernel_rfl) h)

theorem bitset_And_nf (a_1 : Option Addr) (b_2 : Option Addr) (w : World) (R : Ending → World → Prop) (h :
  Calls Try.prog 62 #[(Value.pointer a_1), (Value.pointer b_2), (Value.func (.func 64) #[] #[])] w fun e4 w5 =>
  ∃ p3, e4 = Ending.returned (Value.pointer p3) ∧
  R (Ending.returned (Value.pointer p3)) w5) :
  Calls Try.prog 34 #[(Value.pointer a_1), (Value.pointer b_2)] w R :=
  V.calls_of_R ⟨V.assoc [], V.assocP [], V.assocC [], V.assocS [], ⟨[], false⟩⟩ Try.func34 rfl (Eq.mp (by kernel_rfl) h)

theorem bitset_Xor_nf (a_1 : Option Addr) (b_2 : Option Addr) (w : World) (R : Ending → World → Prop) (h :
  Calls Try.prog 62 #[(Value.pointer a_1), (Value.pointer b_2), (Value.func (.func 65) #[] #[])] w fun e4 w5 =>
  ∃ p3, e4 = Ending.returned (Value.pointer p3) ∧
  R (Ending.returned (Value.pointer p3)) w5) :
  Calls Try.prog 35 #[(Value.pointer a_1), (Value.pointer b_2)] w R :=
  V.calls_of_R ⟨V.assoc [], V.assocP [], V.assocC [], V.assocS [], ⟨[], false⟩⟩ Try.func35 rfl (Eq.mp (by kernel_rfl) h)

theorem bitset_AndNot_nf (a_1 : Option Addr) (b_2 : Option Addr) (w : World) (R : Ending → World → Prop) (h :
  Calls Try.prog 62 #[(Value.pointer a_1), (Value.pointer b_2), (Value.func (.func 66) #[] #[])] w fun e4 w5 =>
  ∃ p3, e4 = Ending.returned (Value.pointer p3) ∧
  R (Ending.returned (Value.pointer p3)) w5) :
  Calls Try.prog 36 #[(Value.pointer a_1), (Value.pointer b_2)] w R :=
  V.calls_of_R ⟨V.assoc [], V.assocP [], V.assocC [], V.assocS [], ⟨[], false⟩⟩ Try.func36 rfl (Eq.mp (by kernel_rfl) h)

theorem bitset_Meets_nf (a_1 : Option Addr) (b_2 : Option Addr) (w : World) (R : Ending → World → Prop) (h :
  Calls Try.prog 58 #[(Value.pointer a_1), (Value.pointer b_2)] w fun e4 w5 =>
  ∃ n3, e4 = Ending.returned (Value.int .i64 n3) ∧
  ∃ I6 : Int → World → Prop, ∃ μ7 : Int → World → Nat, I6 0 w5 ∧
  ∀ t9_8 (j9 : Nat → Value) (w10 : World), I6 t9_8 w10 →
  (V.sel (decide (t9_8 < n3))
  (Calls Try.prog 59 #[(Value.pointer a_1), (Value.int .i64 t9_8)] w10 fun e12 w13 =>
  ∃ n11, e12 = Ending.returned (Value.int .u64 n11) ∧
  Calls Try.prog 59 #[(Value.pointer b_2), (Value.int .i64 t9_8)] w13 fun e15 w16 =>
  ∃ n14, e15 = Ending.returned (Value.int .u64 n14) ∧
  V.sel ((IntKind.wrap .u64 ((BitVec.toNat (BitVec.ofInt 64 n11 &&& BitVec.ofInt 64 n14) : Nat) : Int)) != 0)
  (R (Ending.returned (Value.bool true)) w16)
  (I6 (IntKind.wrap .i64 (t9_8 + 1)) w16 ∧ μ7 (IntKind.wrap .i64 (t9_8 + 1)) w16 < μ7 t9_8 w10))
  (R (Ending.returned (Value.bool false)) w10))) :
  Calls Try.prog 37 #[(Value.pointer a_1), (Value.pointer b_2)] w R :=
  V.calls_of_R ⟨V.assoc [(0, [9])], V.assocP [], V.assocC [], V.assocS [], ⟨[], false⟩⟩ Try.func37 rfl (Eq.mp (by kernel_rfl) h)

theorem bitset_Subset_nf (a_1 : Option Addr) (b_2 : Option Addr) (w : World) (R : Ending → World → Prop) (h :
  Calls Try.prog 58 #[(Value.pointer a_1), (Value.pointer b_2)] w fun e4 w5 =>
  ∃ n3, e4 = Ending.returned (Value.int .i64 n3) ∧
  ∃ I6 : Int → World → Prop, ∃ μ7 : Int → World → Nat, I6 0 w5 ∧
  ∀ t9_8 (j9 : Nat → Value) (w10 : World), I6 t9_8 w10 →
  (V.sel (decide (t9_8 < n3))
  (Calls Try.prog 59 #[(Value.pointer a_1), (Value.int .i64 t9_8)] w10 fun e12 w13 =>
  ∃ n11, e12 = Ending.returned (Value.int .u64 n11) ∧
  Calls Try.prog 59 #[(Value.pointer b_2), (Value.int .i64 t9_8)] w13 fun e15 w16 =>
  ∃ n14, e15 = Ending.returned (Value.int .u64 n14) ∧
  V.sel ((IntKind.wrap .u64 ((BitVec.toNat (BitVec.ofInt 64 n11 &&& ~~~(BitVec.ofInt 64 n14)) : Nat) : Int)) != 0)
  (R (Ending.returned (Value.bool false)) w16)
  (I6 (IntKind.wrap .i64 (t9_8 + 1)) w16 ∧ μ7 (IntKind.wrap .i64 (t9_8 + 1)) w16 < μ7 t9_8 w10))
  (R (Ending.returned (Value.bool true)) w10))) :
  Calls Try.prog 38 #[(Value.pointer a_1), (Value.pointer b_2)] w R :=
  V.calls_of_R ⟨V.assoc [(0, [9])], V.assocP [], V.assocC [], V.assocS [], ⟨[], false⟩⟩ Try.func38 rfl (Eq.mp (by kernel_rfl) h)

theorem berthlaw01_counted_nf (x_1 : Int) (x_2 : Option Addr) (x_2l : Nat) (x_2c : Nat) (x_3 : Option Addr) (x_3l : Nat) (x_3c : Nat) (x_4 : Option Addr) (x_4l : Nat) (x_4c : Nat) (a_5 : Option Addr) (w : World) (R : Ending → World → Prop) (h :
  ∃ I6 : Int → Int → World → Prop, ∃ μ7 : Int → Int → World → Nat, I6 0 0 (World.alloc w (.cells #[(Value.int .i64 x_1), (Value.slice x_2 x_2l x_2c), (Value.slice x_3 x_3l x_3c), (Value.slice x_4 x_4l x_4c)] 27)) ∧
  ∀ n_8 i_9 (j10 : Nat → Value) (w11 : World), I6 n_8 i_9 w11 →
  (∃ A12, ∃ A12l, ∃ A12c, World.cell? w11 (Addr.add ⟨Array.size (World.heap w), 0, none⟩ 1) = some (Value.slice A12 A12l A12c) ∧
  V.sel (decide (i_9 < ((A12l : Nat) : Int)))
  (V.sel (decide (i_9 < 300))
  (∃ A13, ∃ A13l, ∃ A13c, World.cell? w11 (Addr.add ⟨Array.size (World.heap w), 0, none⟩ 1) = some (Value.slice A13 A13l A13c) ∧
  V.when (decide ((0 : Int) ≤ i_9 ∧ (i_9 : Int) < ((A13l : Nat) : Int))) (V.ptr A13 fun a14 =>
  ∃ n15, World.cell? w11 (Addr.add a14 ((Int.toNat i_9) * 1)) = some (Value.int .i64 n15) ∧
  V.sel (decide (n15 < 0))
  (∃ I16 : Bool → Int → World → Prop, ∃ μ17 : Bool → Int → World → Nat, I16 true 0 (World.drew w11) ∧
  ∀ seen_18 j_19 (j20 : Nat → Value) (w21 : World), I16 seen_18 j_19 w21 →
  (V.sel (decide (j_19 < i_9))
  (V.sel seen_18
  (I16 true (IntKind.wrap .i64 (j_19 + 1)) (World.drew w21) ∧ μ17 true (IntKind.wrap .i64 (j_19 + 1)) (World.drew w21) < μ17 seen_18 j_19 w21)
  (∃ A22, ∃ A22l, ∃ A22c, World.cell? w21 (Addr.add ⟨Array.size (World.heap w), 0, none⟩ 1) = some (Value.slice A22 A22l A22c) ∧
  V.when (decide ((0 : Int) ≤ j_19 ∧ (j_19 : Int) < ((A22l : Nat) : Int))) (V.ptr A22 fun a23 =>
  ∃ n24, World.cell? w21 (Addr.add a23 ((Int.toNat j_19) * 1)) = some (Value.int .i64 n24) ∧
  ∃ A25, ∃ A25l, ∃ A25c, World.cell? w21 (Addr.add ⟨Array.size (World.heap w), 0, none⟩ 1) = some (Value.slice A25 A25l A25c) ∧
  V.when (decide ((0 : Int) ≤ i_9 ∧ (i_9 : Int) < ((A25l : Nat) : Int))) (V.ptr A25 fun a26 =>
  ∃ n27, World.cell? w21 (Addr.add a26 ((Int.toNat i_9) * 1)) = some (Value.int .i64 n27) ∧
  I16 (n24 == n27) (IntKind.wrap .i64 (j_19 + 1)) (World.drew w21) ∧ μ17 (n24 == n27) (IntKind.wrap .i64 (j_19 + 1)) (World.drew w21) < μ17 seen_18 j_19 w21))))
  (V.sel (!seen_18)
  (∃ A28, ∃ A28l, ∃ A28c, World.cell? w21 (Addr.add ⟨Array.size (World.heap w), 0, none⟩ 1) = some (Value.slice A28 A28l A28c) ∧
  V.when (decide ((0 : Int) ≤ i_9 ∧ (i_9 : Int) < ((A28l : Nat) : Int))) (V.ptr A28 fun a29 =>
  ∃ n30, World.cell? w21 (Addr.add a29 ((Int.toNat i_9) * 1)) = some (Value.int .i64 n30) ∧
  Calls Try.prog 47 #[(Value.pointer a_5), (Value.int .i64 n30)] w21 fun e32 w33 =>
  ∃ b31, e32 = Ending.returned (Value.bool b31) ∧
  V.sel (!b31)
  (R (Ending.returned (Value.bool false)) w33)
  (I6 (IntKind.wrap .i64 (n_8 + 1)) (IntKind.wrap .i64 (i_9 + 1)) w33 ∧ μ7 (IntKind.wrap .i64 (n_8 + 1)) (IntKind.wrap .i64 (i_9 + 1)) w33 < μ7 n_8 i_9 w11)))
  (I6 n_8 (IntKind.wrap .i64 (i_9 + 1)) w21 ∧ μ7 n_8 (IntKind.wrap .i64 (i_9 + 1)) w21 < μ7 n_8 i_9 w11))))
  (∃ A34, ∃ A34l, ∃ A34c, World.cell? w11 (Addr.add ⟨Array.size (World.heap w), 0, none⟩ 1) = some (Value.slice A34 A34l A34c) ∧
  V.when (decide ((0 : Int) ≤ i_9 ∧ (i_9 : Int) < ((A34l : Nat) : Int))) (V.ptr A34 fun a35 =>
  ∃ n36, World.cell? w11 (Addr.add a35 ((Int.toNat i_9) * 1)) = some (Value.int .i64 n36) ∧
  ∃ n37, World.cell? w11 (Addr.add ⟨Array.size (World.heap w), 0, none⟩ 0) = some (Value.int .i64 n37) ∧
  ∃ I38 : Bool → Int → World → Prop, ∃ μ39 : Bool → Int → World → Nat, I38 (decide (n36 ≥ n37)) 0 (World.drew w11) ∧
  ∀ seen_40 j_41 (j42 : Nat → Value) (w43 : World), I38 seen_40 j_41 w43 →
  (V.sel (decide (j_41 < i_9))
  (V.sel seen_40
  (I38 true (IntKind.wrap .i64 (j_41 + 1)) (World.drew w43) ∧ μ39 true (IntKind.wrap .i64 (j_41 + 1)) (World.drew w43) < μ39 seen_40 j_41 w43)
  (∃ A44, ∃ A44l, ∃ A44c, World.cell? w43 (Addr.add ⟨Array.size (World.heap w), 0, none⟩ 1) = some (Value.slice A44 A44l A44c) ∧
  V.when (decide ((0 : Int) ≤ j_41 ∧ (j_41 : Int) < ((A44l : Nat) : Int))) (V.ptr A44 fun a45 =>
  ∃ n46, World.cell? w43 (Addr.add a45 ((Int.toNat j_41) * 1)) = some (Value.int .i64 n46) ∧
  ∃ A47, ∃ A47l, ∃ A47c, World.cell? w43 (Addr.add ⟨Array.size (World.heap w), 0, none⟩ 1) = some (Value.slice A47 A47l A47c) ∧
  V.when (decide ((0 : Int) ≤ i_9 ∧ (i_9 : Int) < ((A47l : Nat) : Int))) (V.ptr A47 fun a48 =>
  ∃ n49, World.cell? w43 (Addr.add a48 ((Int.toNat i_9) * 1)) = some (Value.int .i64 n49) ∧
  I38 (n46 == n49) (IntKind.wrap .i64 (j_41 + 1)) (World.drew w43) ∧ μ39 (n46 == n49) (IntKind.wrap .i64 (j_41 + 1)) (World.drew w43) < μ39 seen_40 j_41 w43))))
  (V.sel (!seen_40)
  (∃ A50, ∃ A50l, ∃ A50c, World.cell? w43 (Addr.add ⟨Array.size (World.heap w), 0, none⟩ 1) = some (Value.slice A50 A50l A50c) ∧
  V.when (decide ((0 : Int) ≤ i_9 ∧ (i_9 : Int) < ((A50l : Nat) : Int))) (V.ptr A50 fun a51 =>
  ∃ n52, World.cell? w43 (Addr.add a51 ((Int.toNat i_9) * 1)) = some (Value.int .i64 n52) ∧
  Calls Try.prog 47 #[(Value.pointer a_5), (Value.int .i64 n52)] w43 fun e54 w55 =>
  ∃ b53, e54 = Ending.returned (Value.bool b53) ∧
  V.sel (!b53)
  (R (Ending.returned (Value.bool false)) w55)
  (I6 (IntKind.wrap .i64 (n_8 + 1)) (IntKind.wrap .i64 (i_9 + 1)) w55 ∧ μ7 (IntKind.wrap .i64 (n_8 + 1)) (IntKind.wrap .i64 (i_9 + 1)) w55 < μ7 n_8 i_9 w11)))
  (I6 n_8 (IntKind.wrap .i64 (i_9 + 1)) w43 ∧ μ7 n_8 (IntKind.wrap .i64 (i_9 + 1)) w43 < μ7 n_8 i_9 w11)))))))
  (∃ A56, ∃ A56l, ∃ A56c, World.cell? w11 (Addr.add ⟨Array.size (World.heap w), 0, none⟩ 1) = some (Value.slice A56 A56l A56c) ∧
  V.sel (decide (((A56l : Nat) : Int) > 300))
  (R (Ending.returned (Value.bool true)) w11)
  (Calls Try.prog 29 #[(Value.pointer a_5)] w11 fun e58 w59 =>
  ∃ n57, e58 = Ending.returned (Value.int .i64 n57) ∧
  R (Ending.returned (Value.bool (n57 == n_8))) w59)))
  (∃ A60, ∃ A60l, ∃ A60c, World.cell? w11 (Addr.add ⟨Array.size (World.heap w), 0, none⟩ 1) = some (Value.slice A60 A60l A60c) ∧
  V.sel (decide (((A60l : Nat) : Int) > 300))
  (R (Ending.returned (Value.bool true)) w11)
  (Calls Try.prog 29 #[(Value.pointer a_5)] w11 fun e62 w63 =>
  ∃ n61, e62 = Ending.returned (Value.int .i64 n61) ∧
  R (Ending.returned (Value.bool (n61 == n_8))) w63)))) :
  Calls Try.prog 39 #[(Value.agg #[(Value.int .i64 x_1), (Value.slice x_2 x_2l x_2c), (Value.slice x_3 x_3l x_3c), (Value.slice x_4 x_4l x_4c)]), (Value.pointer a_5)] w R :=
  V.calls_of_R ⟨V.assoc [(0, [5, 6]), (1, [7, 8])], V.assocP [(5, V.line [0, 1, 2, 3, 4, 5, 6, 7, 8, 9, 10, 11, 12, 13, 14, 15, 16]), (9, V.line [0, 1, 2, 3, 4, 5, 6, 7, 8, 9, 10, 11, 12, 13, 14])], V.assocC [], V.assocS [], ⟨[], false⟩⟩ Try.func39 rfl (Eq.mp (by kernel_rfl) h)

theorem bitset_Set_Add_nf (s_1 : Option Addr) (i_2 : Int) (w : World) (R : Ending → World → Prop) (h :
  Calls Try.prog 68 #[(Value.pointer s_1), (Value.int .i64 i_2)] w fun e4 w5 =>
  ∃ b3, e4 = Ending.returned (Value.bool b3) ∧
  V.sel (!b3)
  (R (Ending.returned (Value.bool false)) w5)
  (Calls Try.prog 47 #[(Value.pointer s_1), (Value.int .i64 i_2)] w5 fun e7 w8 =>
  ∃ b6, e7 = Ending.returned (Value.bool b6) ∧
  V.sel b6
  (R (Ending.returned (Value.bool false)) w8)
  (V.ptr s_1 fun a9 =>
  ∃ A10, ∃ A10l, ∃ A10c, World.cell? w8 (Addr.add a9 1) = some (Value.slice A10 A10l A10c) ∧
  V.when (decide ((0 : Int) ≤ (IntKind.wrap .i64 (Int.tdiv i_2 64)) ∧ ((IntKind.wrap .i64 (Int.tdiv i_2 64)) : Int) < ((A10l : Nat) : Int))) (V.ptr A10 fun a11 =>
  ∃ n12, World.cell? w8 (Addr.add a11 ((Int.toNat (IntKind.wrap .i64 (Int.tdiv i_2 64))) * 1)) = some (Value.int .u64 n12) ∧
  V.when (decide (0 ≤ (Int.tmod i_2 64))) (V.when (decide ((0 : Int) ≤ (IntKind.wrap .i64 (Int.tdiv i_2 64)) ∧ ((IntKind.wrap .i64 (Int.tdiv i_2 64)) : Int) < ((A10l : Nat) : Int))) (V.ptr A10 fun a13 =>
  (∃ u14, World.cell? (World.drew w8) (Addr.add (Addr.add a13 ((Int.toNat (IntKind.wrap .i64 (Int.tdiv i_2 64))) * 1)) 0) = some u14) ∧ World.frozen? (World.drew w8) (Addr.add (Addr.add a13 ((Int.toNat (IntKind.wrap .i64 (Int.tdiv i_2 64))) * 1)) 0) = false ∧
  R (Ending.returned (Value.bool true)) (World.setCell (World.drew w8) (Addr.add (Addr.add a13 ((Int.toNat (IntKind.wrap .i64 (Int.tdiv i_2 64))) * 1)) 0) (Value.int .u64 (IntKind.wrap .u64 ((BitVec.toNat (BitVec.ofInt 64 n12 ||| BitVec.ofInt 64 (IntKind.wrap .u64 (1 * 2 ^ (min (Int.toNat (Int.tmod i_2 64)) 64)))) : Nat) : Int)))))))))) :
  Calls Try.prog 41 #[(Value.pointer s_1), (Value.int .i64 i_2)] w R :=
  V.calls_of_R ⟨V.assoc [], V.assocP [(3, V.line [0, 1, 2, 3, 4, 5, 6, 7, 8, 9, 10, 11, 12, 13])], V.assocC [], V.assocS [], ⟨[], false⟩⟩ Try.func41 rfl (Eq.mp (by kernel_rfl) h)

theorem bitset_Set_Remove_nf (s_1 : Option Addr) (i_2 : Int) (w : World) (R : Ending → World → Prop) (h :
  Calls Try.prog 47 #[(Value.pointer s_1), (Value.int .i64 i_2)] w fun e4 w5 =>
  ∃ b3, e4 = Ending.returned (Value.bool b3) ∧
  V.sel (!b3)
  (R (Ending.returned (Value.bool false)) w5)
  (V.ptr s_1 fun a6 =>
  ∃ A7, ∃ A7l, ∃ A7c, World.cell? w5 (Addr.add a6 1) = some (Value.slice A7 A7l A7c) ∧
  V.when (decide ((0 : Int) ≤ (IntKind.wrap .i64 (Int.tdiv i_2 64)) ∧ ((IntKind.wrap .i64 (Int.tdiv i_2 64)) : Int) < ((A7l : Nat) : Int))) (V.ptr A7 fun a8 =>
  ∃ n9, World.cell? w5 (Addr.add a8 ((Int.toNat (IntKind.wrap .i64 (Int.tdiv i_2 64))) * 1)) = some (Value.int .u64 n9) ∧
  V.when (decide (0 ≤ (Int.tmod i_2 64))) (V.when (decide ((0 : Int) ≤ (IntKind.wrap .i64 (Int.tdiv i_2 64)) ∧ ((IntKind.wrap .i64 (Int.tdiv i_2 64)) : Int) < ((A7l : Nat) : Int))) (V.ptr A7 fun a10 =>
  (∃ u11, World.cell? (World.drew w5) (Addr.add (Addr.add a10 ((Int.toNat (IntKind.wrap .i64 (Int.tdiv i_2 64))) * 1)) 0) = some u11) ∧ World.frozen? (World.drew w5) (Addr.add (Addr.add a10 ((Int.toNat (IntKind.wrap .i64 (Int.tdiv i_2 64))) * 1)) 0) = false ∧
  R (Ending.returned (Value.bool true)) (World.setCell (World.drew w5) (Addr.add (Addr.add a10 ((Int.toNat (IntKind.wrap .i64 (Int.tdiv i_2 64))) * 1)) 0) (Value.int .u64 (IntKind.wrap .u64 ((BitVec.toNat (BitVec.ofInt 64 n9 &&& ~~~(BitVec.ofInt 64 (IntKind.wrap .u64 (1 * 2 ^ (min (Int.toNat (Int.tmod i_2 64)) 64))))) : Nat) : Int))))))))) :
  Calls Try.prog 42 #[(Value.pointer s_1), (Value.int .i64 i_2)] w R :=
  V.calls_of_R ⟨V.assoc [], V.assocP [(3, V.line [0, 1, 2, 3, 4, 5, 6, 7, 8, 9, 10, 11, 12, 13])], V.assocC [], V.assocS [], ⟨[], false⟩⟩ Try.func42 rfl (Eq.mp (by kernel_rfl) h)

theorem bitset_Set_AndNotWith_nf (s_1 : Option Addr) (t_2 : Option Addr) (w : World) (R : Ending → World → Prop) (h :
  V.sel (Option.isNone s_1)
  (R (Ending.returned undef) w)
  (V.ptr s_1 fun a3 =>
  ∃ A4, ∃ A4l, ∃ A4c, World.cell? w (Addr.add a3 1) = some (Value.slice A4 A4l A4c) ∧
  ∃ I5 : Int → World → Prop, ∃ μ6 : Int → World → Nat, I5 0 w ∧
  ∀ t12_7 (j8 : Nat → Value) (w9 : World), I5 t12_7 w9 →
  (V.sel (decide (t12_7 < ((A4l : Nat) : Int)))
  (∃ S10 : World → Prop, S10 (World.drew w9) ∧
  V.ptr s_1 fun a12 =>
  ∃ A13, ∃ A13l, ∃ A13c, (∀ w11, S10 w11 → World.cell? w11 (Addr.add a12 1) = some (Value.slice A13 A13l A13c)) ∧
  V.when (decide ((0 : Int) ≤ t12_7 ∧ (t12_7 : Int) < ((A13l : Nat) : Int))) (V.ptr A13 fun a14 =>
  ∃ n15, (∀ w11, S10 w11 → World.cell? w11 (Addr.add a14 ((Int.toNat t12_7) * 1)) = some (Value.int .u64 n15)) ∧
  Calls Try.prog 59 #[(Value.pointer t_2), (Value.int .i64 t12_7)] (World.drew w9) fun e17 w18 =>
  ∃ n16, e17 = Ending.returned (Value.int .u64 n16) ∧
  S10 w18 ∧
  V.when (decide ((0 : Int) ≤ t12_7 ∧ (t12_7 : Int) < ((A13l : Nat) : Int))) (V.ptr A13 fun a19 =>
  (∃ u20, World.cell? w18 (Addr.add (Addr.add a19 ((Int.toNat t12_7) * 1)) 0) = some u20) ∧ World.frozen? w18 (Addr.add (Addr.add a19 ((Int.toNat t12_7) * 1)) 0) = false ∧
  I5 (IntKind.wrap .i64 (t12_7 + 1)) (World.setCell w18 (Addr.add (Addr.add a19 ((Int.toNat t12_7) * 1)) 0) (Value.int .u64 (IntKind.wrap .u64 ((BitVec.toNat (BitVec.ofInt 64 n15 &&& ~~~(BitVec.ofInt 64 n16)) : Nat) : Int)))) ∧ μ6 (IntKind.wrap .i64 (t12_7 + 1)) (World.setCell w18 (Addr.add (Addr.add a19 ((Int.toNat t12_7) * 1)) 0) (Value.int .u64 (IntKind.wrap .u64 ((BitVec.toNat (BitVec.ofInt 64 n15 &&& ~~~(BitVec.ofInt 64 n16)) : Nat) : Int)))) < μ6 t12_7 w9)))
  (R (Ending.returned undef) w9)))) :
  Calls Try.prog 43 #[(Value.pointer s_1), (Value.pointer t_2)] w R :=
  V.calls_of_R ⟨V.assoc [(0, [12])], V.assocP [(4, V.line [0, 1, 2, 3, 4, 5, 6, 7, 8, 9, 10, 11, 12])], V.assocC [], V.assocS [], ⟨[], false⟩⟩ Try.func43 rfl (Eq.mp (by kernel_rfl) h)

theorem bitset_Set_Clone_nf (s_1 : Option Addr) (w : World) (R : Ending → World → Prop) (h :
  Calls Try.prog 28 #[(Value.pointer s_1)] w fun e3 w4 =>
  ∃ n2, e3 = Ending.returned (Value.int .i64 n2) ∧
  Calls Try.prog 61 #[(Value.int .i64 n2)] w4 fun e6 w7 =>
  ∃ p5, e6 = Ending.returned (Value.pointer p5) ∧
  V.ptr p5 fun a8 =>
  ∃ A9, ∃ A9l, ∃ A9c, World.cell? w7 (Addr.add a8 1) = some (Value.slice A9 A9l A9c) ∧
  ∃ I10 : Int → World → Prop, ∃ μ11 : Int → World → Nat, I10 0 w7 ∧
  ∀ t13_12 (j13 : Nat → Value) (w14 : World), I10 t13_12 w14 →
  (V.sel (decide (t13_12 < ((A9l : Nat) : Int)))
  (V.ptr p5 fun a15 =>
  ∃ A16, ∃ A16l, ∃ A16c, World.cell? w14 (Addr.add a15 1) = some (Value.slice A16 A16l A16c) ∧
  V.ptr s_1 fun a17 =>
  ∃ A18, ∃ A18l, ∃ A18c, World.cell? w14 (Addr.add a17 1) = some (Value.slice A18 A18l A18c) ∧
  V.when (decide ((0 : Int) ≤ t13_12 ∧ (t13_12 : Int) < ((A18l : Nat) : Int))) (V.ptr A18 fun a19 =>
  ∃ n20, World.cell? w14 (Addr.add a19 ((Int.toNat t13_12) * 1)) = some (Value.int .u64 n20) ∧
  V.when (decide ((0 : Int) ≤ t13_12 ∧ (t13_12 : Int) < ((A16l : Nat) : Int))) (V.ptr A16 fun a21 =>
  (∃ u22, World.cell? (World.drew w14) (Addr.add (Addr.add a21 ((Int.toNat t13_12) * 1)) 0) = some u22) ∧ World.frozen? (World.drew w14) (Addr.add (Addr.add a21 ((Int.toNat t13_12) * 1)) 0) = false ∧
  I10 (IntKind.wrap .i64 (t13_12 + 1)) (World.setCell (World.drew w14) (Addr.add (Addr.add a21 ((Int.toNat t13_12) * 1)) 0) (Value.int .u64 n20)) ∧ μ11 (IntKind.wrap .i64 (t13_12 + 1)) (World.setCell (World.drew w14) (Addr.add (Addr.add a21 ((Int.toNat t13_12) * 1)) 0) (Value.int .u64 n20)) < μ11 t13_12 w14)))
  (R (Ending.returned (Value.pointer p5)) w14))) :
  Calls Try.prog 44 #[(Value.pointer s_1)] w R :=
  V.calls_of_R ⟨V.assoc [(0, [13])], V.assocP [(5, V.line [0, 1, 2, 3, 4, 5, 6, 7, 8, 9, 10, 11, 12, 13])], V.assocC [], V.assocS [], ⟨[], false⟩⟩ Try.func44 rfl (Eq.mp (by kernel_rfl) h)

theorem bitset_Set_Grow_nf (s_1 : Option Addr) (n_2 : Int) (w : World) (R : Ending → World → Prop) (h :
  V.sel (Option.isNone s_1)
  (R (Ending.returned (Value.int .i64 1)) w)
  (V.sel (decide (n_2 < 0))
  (R (Ending.returned (Value.int .i64 11)) w)
  (V.sel (decide (n_2 > 65536))
  (R (Ending.returned (Value.int .i64 11)) w)
  (V.ptr s_1 fun a3 =>
  ∃ n4, World.cell? w (Addr.add a3 0) = some (Value.int .i64 n4) ∧
  V.sel (decide (n_2 < n4))
  (R (Ending.returned (Value.int .i64 13)) w)
  (Calls Try.prog 69 #[(Value.int .i64 n_2)] w fun e6 w7 =>
  ∃ n5, e6 = Ending.returned (Value.int .i64 n5) ∧
  V.when (decide ((0 : Int) ≤ n5 ∧ (n5 : Int) ≤ n5 ∧ (n5 : Int) ≤ 281474976710656 ∧ (8 : Int) * n5 ≤ 281474976710656)) (V.ptr s_1 fun a8 =>
  ∃ A9, ∃ A9l, ∃ A9c, World.cell? (World.alloc w7 (.cells ⟨V.rep (Int.toNat n5) [(Value.int .u64 0)]⟩ 51)) (Addr.add a8 1) = some (Value.slice A9 A9l A9c) ∧
  ∃ n10, ∃ w11, Sem.run Try.prog (Builtin.copy_ #[46, 46] 3 #[(Value.slice (some ⟨Array.size (World.heap w7), 0, none⟩) (Int.toNat n5) (Int.toNat n5)), (Value.slice A9 A9l A9c)]) (World.alloc w7 (.cells ⟨V.rep (Int.toNat n5) [(Value.int .u64 0)]⟩ 51)) = .ok (Value.int .i64 n10) w11 ∧
  V.ptr s_1 fun a12 =>
  (∃ u13, World.cell? w11 (Addr.add (Addr.add a12 1) 0) = some u13) ∧ World.frozen? w11 (Addr.add (Addr.add a12 1) 0) = false ∧
  V.ptr s_1 fun a14 =>
  (∃ u15, World.cell? (World.setCell w11 (Addr.add (Addr.add a12 1) 0) (Value.slice (some ⟨Array.size (World.heap w7), 0, none⟩) (Int.toNat n5) (Int.toNat n5))) (Addr.add (Addr.add a14 0) 0) = some u15) ∧ World.frozen? (World.setCell w11 (Addr.add (Addr.add a12 1) 0) (Value.slice (some ⟨Array.size (World.heap w7), 0, none⟩) (Int.toNat n5) (Int.toNat n5))) (Addr.add (Addr.add a14 0) 0) = false ∧
  R (Ending.returned (Value.int .i64 0)) (World.setCell (World.setCell w11 (Addr.add (Addr.add a12 1) 0) (Value.slice (some ⟨Array.size (World.heap w7), 0, none⟩) (Int.toNat n5) (Int.toNat n5))) (Addr.add (Addr.add a14 0) 0) (Value.int .i64 n_2)))))))) :
  Calls Try.prog 45 #[(Value.pointer s_1), (Value.int .i64 n_2)] w R :=
  V.calls_of_R ⟨V.assoc [], V.assocP [], V.assocC [], V.assocS [], ⟨[], false⟩⟩ Try.func45 rfl (Eq.mp (by kernel_rfl) h)

end Go.Proofs.Ytbaglnffgbnekaa
