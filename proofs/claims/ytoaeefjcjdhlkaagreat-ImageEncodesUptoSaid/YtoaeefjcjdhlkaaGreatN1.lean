/- Normal forms of the program's functions, printed by a program of mine; the kernel checks each. -/
import Derived.Test.YtoaeefjcjdhlkaaGreatProg
import Derived.Test.YtoaeefjcjdhlkaaGreatV4
set_option linter.unusedVariables false
set_option maxRecDepth 100000
namespace Go.Proofs.YtoaeefjcjdhlkaaGreat
open Go

theorem berthref26_Flat_nf (s_1 : Int) (s_2 : Int) (s_3 : Option Addr) (s_3l : Nat) (s_3c : Nat) (s_4 : Option Addr) (s_4l : Nat) (s_4c : Nat) (s_5 : Option Addr) (s_5l : Nat) (s_5c : Nat) (w : World) (R : Ending → World → Prop) (h :
  ∀ w6, w6 = (World.alloc w (.cells #[(Value.int .i64 s_1), (Value.int .i64 s_2), (Value.slice s_3 s_3l s_3c), (Value.slice s_4 s_4l s_4c), (Value.slice s_5 s_5l s_5c)] 26)) →
  ∃ n7, World.cell? w6 (Addr.add ⟨Array.size (World.heap w), 0, none⟩ 0) = some (Value.int .i64 n7) ∧
  Calls Tryz.prog 43 #[(Value.slice none 0 0), (Value.int .i64 n7)] w6 fun e9 w10 =>
  ∃ A8, ∃ A8l, ∃ A8c, e9 = Ending.returned (Value.slice A8 A8l A8c) ∧
  ∃ n11, World.cell? w10 (Addr.add ⟨Array.size (World.heap w), 0, none⟩ 1) = some (Value.int .i64 n11) ∧
  Calls Tryz.prog 43 #[(Value.slice A8 A8l A8c), (Value.int .i64 n11)] w10 fun e13 w14 =>
  ∃ A12, ∃ A12l, ∃ A12c, e13 = Ending.returned (Value.slice A12 A12l A12c) ∧
  ∃ A15, ∃ A15l, ∃ A15c, World.cell? w14 (Addr.add ⟨Array.size (World.heap w), 0, none⟩ 2) = some (Value.slice A15 A15l A15c) ∧
  Calls Tryz.prog 44 #[(Value.slice A12 A12l A12c), (Value.int .i64 ((A15l : Nat) : Int))] w14 fun e17 w18 =>
  ∃ A16, ∃ A16l, ∃ A16c, e17 = Ending.returned (Value.slice A16 A16l A16c) ∧
  ∃ I19 : Option Addr → Nat → Nat → Int → World → Prop, ∃ μ20 : Option Addr → Nat → Nat → Int → World → Nat, I19 A16 A16l A16c 0 w18 ∧
  ∀ l_21 l_21l l_21c i_22 (j23 : Nat → Value) (w24 : World), I19 l_21 l_21l l_21c i_22 w24 →
  (∃ A25, ∃ A25l, ∃ A25c, World.cell? w24 (Addr.add ⟨Array.size (World.heap w), 0, none⟩ 2) = some (Value.slice A25 A25l A25c) ∧
  V.sel (decide (i_22 < ((A25l : Nat) : Int)))
  (∃ A26, ∃ A26l, ∃ A26c, World.cell? w24 (Addr.add ⟨Array.size (World.heap w), 0, none⟩ 2) = some (Value.slice A26 A26l A26c) ∧
  V.when (decide ((0 : Int) ≤ i_22 ∧ (i_22 : Int) < ((A26l : Nat) : Int))) (V.ptr A26 fun a27 =>
  ∃ s28, ∃ A29, ∃ A29l, ∃ A29c, ∃ A30, ∃ A30l, ∃ A30c, ∃ A31, ∃ A31l, ∃ A31c, ∃ b32, V.cellsC (fun a_ x_ => World.cell? w24 a_ = some x_) (Addr.add a27 ((Int.toNat i_22) * 5)) [(Value.string s28), (Value.slice A29 A29l A29c), (Value.slice A30 A30l A30c), (Value.slice A31 A31l A31c), (Value.bool b32)] ∧
  Calls Tryz.prog 45 #[(Value.slice l_21 l_21l l_21c), (Value.agg #[(Value.string s28), (Value.slice A29 A29l A29c), (Value.slice A30 A30l A30c), (Value.slice A31 A31l A31c), (Value.bool b32)])] w24 fun e34 w35 =>
  ∃ A33, ∃ A33l, ∃ A33c, e34 = Ending.returned (Value.slice A33 A33l A33c) ∧
  I19 A33 A33l A33c (IntKind.wrap .i64 (i_22 + 1)) w35 ∧ μ20 A33 A33l A33c (IntKind.wrap .i64 (i_22 + 1)) w35 < μ20 l_21 l_21l l_21c i_22 w24))
  (∃ A36, ∃ A36l, ∃ A36c, World.cell? w24 (Addr.add ⟨Array.size (World.heap w), 0, none⟩ 3) = some (Value.slice A36 A36l A36c) ∧
  Calls Tryz.prog 44 #[(Value.slice l_21 l_21l l_21c), (Value.int .i64 ((A36l : Nat) : Int))] w24 fun e38 w39 =>
  ∃ A37, ∃ A37l, ∃ A37c, e38 = Ending.returned (Value.slice A37 A37l A37c) ∧
  ∃ I40 : Option Addr → Nat → Nat → Int → World → Prop, ∃ μ41 : Option Addr → Nat → Nat → Int → World → Nat, I40 A37 A37l A37c 0 w39 ∧
  ∀ l_42 l_42l l_42c i_43 (j44 : Nat → Value) (w45 : World), I40 l_42 l_42l l_42c i_43 w45 →
  (∃ A46, ∃ A46l, ∃ A46c, World.cell? w45 (Addr.add ⟨Array.size (World.heap w), 0, none⟩ 3) = some (Value.slice A46 A46l A46c) ∧
  V.sel (decide (i_43 < ((A46l : Nat) : Int)))
  (∃ A47, ∃ A47l, ∃ A47c, World.cell? w45 (Addr.add ⟨Array.size (World.heap w), 0, none⟩ 3) = some (Value.slice A47 A47l A47c) ∧
  V.when (decide ((0 : Int) ≤ i_43 ∧ (i_43 : Int) < ((A47l : Nat) : Int))) (V.ptr A47 fun a48 =>
  ∃ s49, ∃ A50, ∃ A50l, ∃ A50c, ∃ A51, ∃ A51l, ∃ A51c, ∃ A52, ∃ A52l, ∃ A52c, ∃ s53, ∃ A54, ∃ A54l, ∃ A54c, ∃ A55, ∃ A55l, ∃ A55c, ∃ n56, V.cellsC (fun a_ x_ => World.cell? w45 a_ = some x_) (Addr.add (Addr.add a48 ((Int.toNat i_43) * 9)) 0) [(Value.string s49), (Value.slice A50 A50l A50c), (Value.slice A51 A51l A51c), (Value.slice A52 A52l A52c), (Value.string s53), (Value.slice A54 A54l A54c), (Value.slice A55 A55l A55c), (Value.int .i64 n56)] ∧
  Calls Tryz.prog 46 #[(Value.slice l_42 l_42l l_42c), (Value.agg #[(Value.string s49), (Value.slice A50 A50l A50c), (Value.slice A51 A51l A51c), (Value.slice A52 A52l A52c), (Value.string s53), (Value.slice A54 A54l A54c), (Value.slice A55 A55l A55c), (Value.int .i64 n56)])] w45 fun e58 w59 =>
  ∃ A57, ∃ A57l, ∃ A57c, e58 = Ending.returned (Value.slice A57 A57l A57c) ∧
  ∃ A60, ∃ A60l, ∃ A60c, World.cell? w59 (Addr.add ⟨Array.size (World.heap w), 0, none⟩ 3) = some (Value.slice A60 A60l A60c) ∧
  V.when (decide ((0 : Int) ≤ i_43 ∧ (i_43 : Int) < ((A60l : Nat) : Int))) (V.ptr A60 fun a61 =>
  ∃ s62, World.cell? w59 (Addr.add (Addr.add a61 ((Int.toNat i_43) * 9)) 8) = some (Value.string s62) ∧
  Calls Tryz.prog 47 #[(Value.slice A57 A57l A57c), (Value.string s62)] w59 fun e64 w65 =>
  ∃ A63, ∃ A63l, ∃ A63c, e64 = Ending.returned (Value.slice A63 A63l A63c) ∧
  I40 A63 A63l A63c (IntKind.wrap .i64 (i_43 + 1)) w65 ∧ μ41 A63 A63l A63c (IntKind.wrap .i64 (i_43 + 1)) w65 < μ41 l_42 l_42l l_42c i_43 w45)))
  (∃ A66, ∃ A66l, ∃ A66c, World.cell? w45 (Addr.add ⟨Array.size (World.heap w), 0, none⟩ 4) = some (Value.slice A66 A66l A66c) ∧
  Calls Tryz.prog 44 #[(Value.slice l_42 l_42l l_42c), (Value.int .i64 ((A66l : Nat) : Int))] w45 fun e68 w69 =>
  ∃ A67, ∃ A67l, ∃ A67c, e68 = Ending.returned (Value.slice A67 A67l A67c) ∧
  ∃ I70 : Option Addr → Nat → Nat → Int → World → Prop, ∃ μ71 : Option Addr → Nat → Nat → Int → World → Nat, I70 A67 A67l A67c 0 w69 ∧
  ∀ l_72 l_72l l_72c i_73 (j74 : Nat → Value) (w75 : World), I70 l_72 l_72l l_72c i_73 w75 →
  (∃ A76, ∃ A76l, ∃ A76c, World.cell? w75 (Addr.add ⟨Array.size (World.heap w), 0, none⟩ 4) = some (Value.slice A76 A76l A76c) ∧
  V.sel (decide (i_73 < ((A76l : Nat) : Int)))
  (∃ A77, ∃ A77l, ∃ A77c, World.cell? w75 (Addr.add ⟨Array.size (World.heap w), 0, none⟩ 4) = some (Value.slice A77 A77l A77c) ∧
  V.when (decide ((0 : Int) ≤ i_73 ∧ (i_73 : Int) < ((A77l : Nat) : Int))) (V.ptr A77 fun a78 =>
  ∃ s79, ∃ A80, ∃ A80l, ∃ A80c, ∃ A81, ∃ A81l, ∃ A81c, ∃ A82, ∃ A82l, ∃ A82c, ∃ s83, ∃ A84, ∃ A84l, ∃ A84c, ∃ A85, ∃ A85l, ∃ A85c, ∃ n86, ∃ n87, ∃ n88, ∃ n89, ∃ b90, V.cellsC (fun a_ x_ => World.cell? w75 a_ = some x_) (Addr.add a78 ((Int.toNat i_73) * 12)) [(Value.string s79), (Value.slice A80 A80l A80c), (Value.slice A81 A81l A81c), (Value.slice A82 A82l A82c), (Value.string s83), (Value.slice A84 A84l A84c), (Value.slice A85 A85l A85c), (Value.int .i64 n86), (Value.int .i64 n87), (Value.int .i64 n88), (Value.int .i64 n89), (Value.bool b90)] ∧
  ∀ w91, w91 = (World.alloc w75 (.cells #[(Value.string ByteArray.empty), (Value.slice none 0 0), (Value.slice none 0 0), (Value.slice none 0 0), (Value.string ByteArray.empty), (Value.slice none 0 0), (Value.slice none 0 0), (Value.int .i64 0), (Value.int .i64 0), (Value.int .i64 0), (Value.int .i64 0), (Value.bool false)] 73)) →
  ∃ w92, Sem.run Tryz.prog (Instr.storeAt 73 (Value.pointer (some ⟨Array.size (World.heap w75), 0, none⟩)) (Value.agg #[(Value.string s79), (Value.slice A80 A80l A80c), (Value.slice A81 A81l A81c), (Value.slice A82 A82l A82c), (Value.string s83), (Value.slice A84 A84l A84c), (Value.slice A85 A85l A85c), (Value.int .i64 n86), (Value.int .i64 n87), (Value.int .i64 n88), (Value.int .i64 n89), (Value.bool b90)])) w91 = .ok () w92 ∧
  ∃ s93, ∃ A94, ∃ A94l, ∃ A94c, ∃ A95, ∃ A95l, ∃ A95c, ∃ A96, ∃ A96l, ∃ A96c, ∃ s97, ∃ A98, ∃ A98l, ∃ A98c, ∃ A99, ∃ A99l, ∃ A99c, ∃ n100, V.cellsC (fun a_ x_ => World.cell? w92 a_ = some x_) (Addr.add ⟨Array.size (World.heap w75), 0, none⟩ 0) [(Value.string s93), (Value.slice A94 A94l A94c), (Value.slice A95 A95l A95c), (Value.slice A96 A96l A96c), (Value.string s97), (Value.slice A98 A98l A98c), (Value.slice A99 A99l A99c), (Value.int .i64 n100)] ∧
  Calls Tryz.prog 46 #[(Value.slice l_72 l_72l l_72c), (Value.agg #[(Value.string s93), (Value.slice A94 A94l A94c), (Value.slice A95 A95l A95c), (Value.slice A96 A96l A96c), (Value.string s97), (Value.slice A98 A98l A98c), (Value.slice A99 A99l A99c), (Value.int .i64 n100)])] w92 fun e102 w103 =>
  ∃ A101, ∃ A101l, ∃ A101c, e102 = Ending.returned (Value.slice A101 A101l A101c) ∧
  ∃ n104, World.cell? w103 (Addr.add ⟨Array.size (World.heap w75), 0, none⟩ 8) = some (Value.int .i64 n104) ∧
  Calls Tryz.prog 43 #[(Value.slice A101 A101l A101c), (Value.int .i64 n104)] w103 fun e106 w107 =>
  ∃ A105, ∃ A105l, ∃ A105c, e106 = Ending.returned (Value.slice A105 A105l A105c) ∧
  ∃ n108, World.cell? w107 (Addr.add ⟨Array.size (World.heap w75), 0, none⟩ 9) = some (Value.int .i64 n108) ∧
  Calls Tryz.prog 43 #[(Value.slice A105 A105l A105c), (Value.int .i64 n108)] w107 fun e110 w111 =>
  ∃ A109, ∃ A109l, ∃ A109c, e110 = Ending.returned (Value.slice A109 A109l A109c) ∧
  ∃ n112, World.cell? w111 (Addr.add ⟨Array.size (World.heap w75), 0, none⟩ 10) = some (Value.int .i64 n112) ∧
  Calls Tryz.prog 43 #[(Value.slice A109 A109l A109c), (Value.int .i64 n112)] w111 fun e114 w115 =>
  ∃ A113, ∃ A113l, ∃ A113c, e114 = Ending.returned (Value.slice A113 A113l A113c) ∧
  ∃ b116, World.cell? w115 (Addr.add ⟨Array.size (World.heap w75), 0, none⟩ 11) = some (Value.bool b116) ∧
  Calls Tryz.prog 48 #[(Value.slice A113 A113l A113c), (Value.bool b116)] w115 fun e118 w119 =>
  ∃ A117, ∃ A117l, ∃ A117c, e118 = Ending.returned (Value.slice A117 A117l A117c) ∧
  I70 A117 A117l A117c (IntKind.wrap .i64 (i_73 + 1)) w119 ∧ μ71 A117 A117l A117c (IntKind.wrap .i64 (i_73 + 1)) w119 < μ71 l_72 l_72l l_72c i_73 w75))
  (R (Ending.returned (Value.slice l_72 l_72l l_72c)) w75))))))) :
  Calls Tryz.prog 23 #[(Value.agg #[(Value.int .i64 s_1), (Value.int .i64 s_2), (Value.slice s_3 s_3l s_3c), (Value.slice s_4 s_4l s_4c), (Value.slice s_5 s_5l s_5c)])] w R :=
  V.Z.calls_of_N ⟨V.assoc [(0, [3, 4]), (1, [3, 5]), (2, [3, 6])], V.assocP [], V.assocC [], V.assocS [], ⟨[], true⟩⟩ Tryz.func23 rfl (Eq.mp (by kernel_rfl) h)

theorem berthref26_Table_nf (l_1 : Option Addr) (l_1l : Nat) (l_1c : Nat) (w : World) (R : Ending → World → Prop) (h :
  ∃ I2 : Option Addr → Nat → Nat → Int → World → Prop, ∃ μ3 : Option Addr → Nat → Nat → Int → World → Nat, I2 none 0 0 0 w ∧
  ∀ table_4 table_4l table_4c i_5 (j6 : Nat → Value) (w7 : World), I2 table_4 table_4l table_4c i_5 w7 →
  (V.sel (decide (i_5 < ((l_1l : Nat) : Int)))
  (V.when (decide ((0 : Int) ≤ i_5 ∧ (i_5 : Int) < ((l_1l : Nat) : Int))) (V.ptr l_1 fun a8 =>
  ∃ n9, World.cell? w7 (Addr.add (Addr.add a8 ((Int.toNat i_5) * 3)) 0) = some (Value.int .i64 n9) ∧
  V.sel (n9 != 4)
  (I2 table_4 table_4l table_4c (IntKind.wrap .i64 (i_5 + 1)) w7 ∧ μ3 table_4 table_4l table_4c (IntKind.wrap .i64 (i_5 + 1)) w7 < μ3 table_4 table_4l table_4c i_5 w7)
  (V.when (decide ((0 : Int) ≤ i_5 ∧ (i_5 : Int) < ((l_1l : Nat) : Int))) (V.ptr l_1 fun a10 =>
  ∃ s11, World.cell? w7 (Addr.add (Addr.add a10 ((Int.toNat i_5) * 3)) 2) = some (Value.string s11) ∧
  Calls Tryz.prog 26 #[(Value.slice table_4 table_4l table_4c), (Value.string s11)] w7 fun e13 w14 =>
  ∃ n12, e13 = Ending.returned (Value.int .i64 n12) ∧
  ∃ J15 : World → Prop, (V.sel (decide (n12 < ((table_4l : Nat) : Int)))
  (V.when (decide ((0 : Int) ≤ n12 ∧ (n12 : Int) < ((table_4l : Nat) : Int))) (V.ptr table_4 fun a16 =>
  ∃ s17, World.cell? w14 (Addr.add a16 ((Int.toNat n12) * 1)) = some (Value.string s17) ∧
  V.when (decide ((0 : Int) ≤ i_5 ∧ (i_5 : Int) < ((l_1l : Nat) : Int))) (V.ptr l_1 fun a18 =>
  ∃ s19, World.cell? w14 (Addr.add (Addr.add a18 ((Int.toNat i_5) * 3)) 2) = some (Value.string s19) ∧
  V.sel (ByteArray.toList s17 == ByteArray.toList s19)
  (I2 table_4 table_4l table_4c (IntKind.wrap .i64 (i_5 + 1)) (World.drew w14) ∧ μ3 table_4 table_4l table_4c (IntKind.wrap .i64 (i_5 + 1)) (World.drew w14) < μ3 table_4 table_4l table_4c i_5 w7)
  (J15  (World.drew w14)))))
  (J15  (World.drew w14))) ∧
  ∀ (j20 : Nat → Value) (w21 : World), J15  w21 →
  ∀ w22, w22 = (World.alloc w21 (.cells #[(Value.string ByteArray.empty)] 9)) →
  ∃ A23, ∃ A23l, ∃ A23c, ∃ w24, Sem.run Tryz.prog (Builtin.append_ #[56, 56] 56 #[(Value.slice table_4 table_4l table_4c), (Value.slice (some ⟨Array.size (World.heap w21), 0, none⟩) 1 1)]) w22 = .ok (Value.slice A23 A23l A23c) w24 ∧
  V.lt (IntKind.wrap .i64 (((A23l : Nat) : Int) - 1)) fun x25 =>
  ∃ I26 : Int → World → Prop, ∃ μ27 : Int → World → Nat, I26 x25 w24 ∧
  ∀ j_28 (j29 : Nat → Value) (w30 : World), I26 j_28 w30 →
  (V.sel (decide (j_28 > n12))
  (V.when (decide ((0 : Int) ≤ (IntKind.wrap .i64 (j_28 - 1)) ∧ ((IntKind.wrap .i64 (j_28 - 1)) : Int) < ((A23l : Nat) : Int))) (V.ptr A23 fun a31 =>
  ∃ s32, World.cell? w30 (Addr.add a31 ((Int.toNat (IntKind.wrap .i64 (j_28 - 1))) * 1)) = some (Value.string s32) ∧
  V.when (decide ((0 : Int) ≤ j_28 ∧ (j_28 : Int) < ((A23l : Nat) : Int))) (V.ptr A23 fun a33 =>
  ∃ w34, Sem.run Tryz.prog (Instr.storeAt 9 (Value.pointer (some (Addr.add a33 ((Int.toNat j_28) * 1)))) (Value.string s32)) w30 = .ok () w34 ∧
  I26 (IntKind.wrap .i64 (j_28 - 1)) w34 ∧ μ27 (IntKind.wrap .i64 (j_28 - 1)) w34 < μ27 j_28 w30)))
  (V.when (decide ((0 : Int) ≤ i_5 ∧ (i_5 : Int) < ((l_1l : Nat) : Int))) (V.ptr l_1 fun a35 =>
  ∃ s36, World.cell? w30 (Addr.add (Addr.add a35 ((Int.toNat i_5) * 3)) 2) = some (Value.string s36) ∧
  V.when (decide ((0 : Int) ≤ n12 ∧ (n12 : Int) < ((A23l : Nat) : Int))) (V.ptr A23 fun a37 =>
  ∃ w38, Sem.run Tryz.prog (Instr.storeAt 9 (Value.pointer (some (Addr.add a37 ((Int.toNat n12) * 1)))) (Value.string s36)) w30 = .ok () w38 ∧
  I2 A23 A23l A23c (IntKind.wrap .i64 (i_5 + 1)) w38 ∧ μ3 A23 A23l A23c (IntKind.wrap .i64 (i_5 + 1)) w38 < μ3 table_4 table_4l table_4c i_5 w7))))))))
  (R (Ending.returned (Value.slice table_4 table_4l table_4c)) w7))) :
  Calls Tryz.prog 24 #[(Value.slice l_1 l_1l l_1c)] w R :=
  V.Z.calls_of_N ⟨V.assoc [(0, [3, 4]), (1, [6])], V.assocP [(7, V.line [0, 1, 2, 3, 4, 5, 6, 7, 8, 9, 10, 11, 12, 13, 14, 15])], V.assocC [(1000009, ([], []))], V.assocS [], ⟨[], true⟩⟩ Tryz.func24 rfl (Eq.mp (by kernel_rfl) h)

theorem berthref26_sevens_nf (b_1 : Option Addr) (b_1l : Nat) (b_1c : Nat) (n_2 : Int) (w : World) (R : Ending → World → Prop) (h :
  ∃ I3 : Option Addr → Nat → Nat → Int → World → Prop, ∃ μ4 : Option Addr → Nat → Nat → Int → World → Nat, I3 b_1 b_1l b_1c n_2 w ∧
  ∀ b_5 b_5l b_5c n_6 (j7 : Nat → Value) (w8 : World), I3 b_5 b_5l b_5c n_6 w8 →
  (V.sel (decide (n_6 ≥ 128))
  (∀ w9, w9 = (World.alloc w8 (.cells #[(Value.int .u8 (IntKind.wrap .u8 ((IntKind.wrap .u64 ((Int.tmod n_6 128) + 128)))))] 5)) →
  ∃ A10, ∃ A10l, ∃ A10c, ∃ w11, Sem.run Tryz.prog (Builtin.append_ #[28, 28] 28 #[(Value.slice b_5 b_5l b_5c), (Value.slice (some ⟨Array.size (World.heap w8), 0, none⟩) 1 1)]) w9 = .ok (Value.slice A10 A10l A10c) w11 ∧
  I3 A10 A10l A10c (IntKind.wrap .u64 (Int.tdiv n_6 128)) w11 ∧ μ4 A10 A10l A10c (IntKind.wrap .u64 (Int.tdiv n_6 128)) w11 < μ4 b_5 b_5l b_5c n_6 w8)
  (∀ w12, w12 = (World.alloc w8 (.cells #[(Value.int .u8 (IntKind.wrap .u8 (n_6)))] 5)) →
  ∃ A13, ∃ A13l, ∃ A13c, ∃ w14, Sem.run Tryz.prog (Builtin.append_ #[28, 28] 28 #[(Value.slice b_5 b_5l b_5c), (Value.slice (some ⟨Array.size (World.heap w8), 0, none⟩) 1 1)]) w12 = .ok (Value.slice A13 A13l A13c) w14 ∧
  R (Ending.returned (Value.slice A13 A13l A13c)) w14))) :
  Calls Tryz.prog 25 #[(Value.slice b_1 b_1l b_1c), (Value.int .u64 n_2)] w R :=
  V.Z.calls_of_N ⟨V.assoc [(0, [0, 1])], V.assocP [], V.assocC [], V.assocS [], ⟨[], true⟩⟩ Tryz.func25 rfl (Eq.mp (by kernel_rfl) h)

theorem berthref26_place_nf (table_1 : Option Addr) (table_1l : Nat) (table_1c : Nat) (s_2 : ByteArray) (w : World) (R : Ending → World → Prop) (h :
  ∃ I3 : Int → Int → World → Prop, ∃ μ4 : Int → Int → World → Nat, I3 0 ((table_1l : Nat) : Int) w ∧
  ∀ lo_5 hi_6 (j7 : Nat → Value) (w8 : World), I3 lo_5 hi_6 w8 →
  (V.sel (decide (lo_5 < hi_6))
  (V.lt (IntKind.wrap .i64 (Int.tdiv (IntKind.wrap .i64 (lo_5 + hi_6)) 2)) fun x9 =>
  V.when (decide ((0 : Int) ≤ x9 ∧ (x9 : Int) < ((table_1l : Nat) : Int))) (V.ptr table_1 fun a10 =>
  ∃ s11, World.cell? w8 (Addr.add a10 ((Int.toNat x9) * 1)) = some (Value.string s11) ∧
  V.sel (Op.bytesLess (ByteArray.toList s11) (ByteArray.toList s_2))
  (I3 (IntKind.wrap .i64 (x9 + 1)) hi_6 w8 ∧ μ4 (IntKind.wrap .i64 (x9 + 1)) hi_6 w8 < μ4 lo_5 hi_6 w8)
  (I3 lo_5 x9 w8 ∧ μ4 lo_5 x9 w8 < μ4 lo_5 hi_6 w8)))
  (R (Ending.returned (Value.int .i64 lo_5)) w8))) :
  Calls Tryz.prog 26 #[(Value.slice table_1 table_1l table_1c), (Value.string s_2)] w R :=
  V.Z.calls_of_N ⟨V.assoc [(0, [5, 6])], V.assocP [], V.assocC [], V.assocS [], ⟨[], true⟩⟩ Tryz.func26 rfl (Eq.mp (by kernel_rfl) h)

theorem berthlaw26_CopyNode_nf (n_1 : ByteArray) (n_2 : Option Addr) (n_2l : Nat) (n_2c : Nat) (n_3 : Option Addr) (n_3l : Nat) (n_3c : Nat) (n_4 : Option Addr) (n_4l : Nat) (n_4c : Nat) (n_5 : Bool) (w : World) (R : Ending → World → Prop) (h :
  ∀ w6, w6 = (World.alloc w (.cells #[(Value.string n_1), (Value.slice n_2 n_2l n_2c), (Value.slice n_3 n_3l n_3c), (Value.slice n_4 n_4l n_4c), (Value.bool n_5)] 53)) →
  ∀ w7, w7 = (World.alloc w6 (.cells #[(Value.string ByteArray.empty), (Value.slice none 0 0), (Value.slice none 0 0), (Value.slice none 0 0), (Value.bool false)] 53)) →
  ∀ w8, w8 = (World.alloc w7 (.cells #[] 87)) →
  ∃ A9, ∃ A9l, ∃ A9c, World.cell? w8 (Addr.add ⟨Array.size (World.heap w), 0, none⟩ 1) = some (Value.slice A9 A9l A9c) ∧
  ∃ A10, ∃ A10l, ∃ A10c, ∃ w11, Sem.run Tryz.prog (Builtin.append_ #[49, 49] 49 #[(Value.slice (some ⟨Array.size (World.heap w7), 0, none⟩) 0 0), (Value.slice A9 A9l A9c)]) w8 = .ok (Value.slice A10 A10l A10c) w11 ∧
  ∃ w12, Sem.run Tryz.prog (Instr.storeAt 49 (Value.pointer (some (Addr.add ⟨Array.size (World.heap w), 0, none⟩ 1))) (Value.slice A10 A10l A10c)) w11 = .ok () w12 ∧
  ∀ w13, w13 = (World.alloc w12 (.cells #[] 89)) →
  ∃ A14, ∃ A14l, ∃ A14c, World.cell? w13 (Addr.add ⟨Array.size (World.heap w), 0, none⟩ 2) = some (Value.slice A14 A14l A14c) ∧
  ∃ A15, ∃ A15l, ∃ A15c, ∃ w16, Sem.run Tryz.prog (Builtin.append_ #[50, 50] 50 #[(Value.slice (some ⟨Array.size (World.heap w12), 0, none⟩) 0 0), (Value.slice A14 A14l A14c)]) w13 = .ok (Value.slice A15 A15l A15c) w16 ∧
  ∃ w17, Sem.run Tryz.prog (Instr.storeAt 50 (Value.pointer (some (Addr.add ⟨Array.size (World.heap w), 0, none⟩ 2))) (Value.slice A15 A15l A15c)) w16 = .ok () w17 ∧
  ∀ w18, w18 = (World.alloc w17 (.cells #[] 91)) →
  ∃ A19, ∃ A19l, ∃ A19c, World.cell? w18 (Addr.add ⟨Array.size (World.heap w), 0, none⟩ 3) = some (Value.slice A19 A19l A19c) ∧
  ∃ A20, ∃ A20l, ∃ A20c, ∃ w21, Sem.run Tryz.prog (Builtin.append_ #[51, 51] 51 #[(Value.slice (some ⟨Array.size (World.heap w17), 0, none⟩) 0 0), (Value.slice A19 A19l A19c)]) w18 = .ok (Value.slice A20 A20l A20c) w21 ∧
  ∃ w22, Sem.run Tryz.prog (Instr.storeAt 51 (Value.pointer (some (Addr.add ⟨Array.size (World.heap w), 0, none⟩ 3))) (Value.slice A20 A20l A20c)) w21 = .ok () w22 ∧
  ∃ s23, ∃ A24, ∃ A24l, ∃ A24c, ∃ A25, ∃ A25l, ∃ A25c, ∃ A26, ∃ A26l, ∃ A26c, ∃ b27, V.cellsC (fun a_ x_ => World.cell? w22 a_ = some x_) ⟨Array.size (World.heap w), 0, none⟩ [(Value.string s23), (Value.slice A24 A24l A24c), (Value.slice A25 A25l A25c), (Value.slice A26 A26l A26c), (Value.bool b27)] ∧
  ∃ w28, Sem.run Tryz.prog (Instr.storeAt 53 (Value.pointer (some ⟨Array.size (World.heap w6), 0, none⟩)) (Value.agg #[(Value.string s23), (Value.slice A24 A24l A24c), (Value.slice A25 A25l A25c), (Value.slice A26 A26l A26c), (Value.bool b27)])) w22 = .ok () w28 ∧
  ∃ s29, ∃ A30, ∃ A30l, ∃ A30c, ∃ A31, ∃ A31l, ∃ A31c, ∃ A32, ∃ A32l, ∃ A32c, ∃ b33, V.cellsC (fun a_ x_ => World.cell? w28 a_ = some x_) ⟨Array.size (World.heap w6), 0, none⟩ [(Value.string s29), (Value.slice A30 A30l A30c), (Value.slice A31 A31l A31c), (Value.slice A32 A32l A32c), (Value.bool b33)] ∧
  R (Ending.returned (Value.agg #[(Value.string s29), (Value.slice A30 A30l A30c), (Value.slice A31 A31l A31c), (Value.slice A32 A32l A32c), (Value.bool b33)])) w28) :
  Calls Tryz.prog 27 #[(Value.agg #[(Value.string n_1), (Value.slice n_2 n_2l n_2c), (Value.slice n_3 n_3l n_3c), (Value.slice n_4 n_4l n_4c), (Value.bool n_5)])] w R :=
  V.Z.calls_of_N ⟨V.assoc [], V.assocP [], V.assocC [], V.assocS [], ⟨[], true⟩⟩ Tryz.func27 rfl (Eq.mp (by kernel_rfl) h)

theorem berthlaw26_CopyPod_nf (p_1 : ByteArray) (p_2 : Option Addr) (p_2l : Nat) (p_2c : Nat) (p_3 : Option Addr) (p_3l : Nat) (p_3c : Nat) (p_4 : Option Addr) (p_4l : Nat) (p_4c : Nat) (p_5 : ByteArray) (p_6 : Option Addr) (p_6l : Nat) (p_6c : Nat) (p_7 : Option Addr) (p_7l : Nat) (p_7c : Nat) (p_8 : Int) (w : World) (R : Ending → World → Prop) (h :
  ∀ w9, w9 = (World.alloc w (.cells #[(Value.string p_1), (Value.slice p_2 p_2l p_2c), (Value.slice p_3 p_3l p_3c), (Value.slice p_4 p_4l p_4c), (Value.string p_5), (Value.slice p_6 p_6l p_6c), (Value.slice p_7 p_7l p_7c), (Value.int .i64 p_8)] 68)) →
  ∀ w10, w10 = (World.alloc w9 (.cells #[(Value.string ByteArray.empty), (Value.slice none 0 0), (Value.slice none 0 0), (Value.slice none 0 0), (Value.string ByteArray.empty), (Value.slice none 0 0), (Value.slice none 0 0), (Value.int .i64 0)] 68)) →
  ∀ w11, w11 = (World.alloc w10 (.cells #[] 87)) →
  ∃ A12, ∃ A12l, ∃ A12c, World.cell? w11 (Addr.add ⟨Array.size (World.heap w), 0, none⟩ 1) = some (Value.slice A12 A12l A12c) ∧
  ∃ A13, ∃ A13l, ∃ A13c, ∃ w14, Sem.run Tryz.prog (Builtin.append_ #[49, 49] 49 #[(Value.slice (some ⟨Array.size (World.heap w10), 0, none⟩) 0 0), (Value.slice A12 A12l A12c)]) w11 = .ok (Value.slice A13 A13l A13c) w14 ∧
  ∃ w15, Sem.run Tryz.prog (Instr.storeAt 49 (Value.pointer (some (Addr.add ⟨Array.size (World.heap w), 0, none⟩ 1))) (Value.slice A13 A13l A13c)) w14 = .ok () w15 ∧
  ∀ w16, w16 = (World.alloc w15 (.cells #[] 91)) →
  ∃ A17, ∃ A17l, ∃ A17c, World.cell? w16 (Addr.add ⟨Array.size (World.heap w), 0, none⟩ 2) = some (Value.slice A17 A17l A17c) ∧
  ∃ A18, ∃ A18l, ∃ A18c, ∃ w19, Sem.run Tryz.prog (Builtin.append_ #[51, 51] 51 #[(Value.slice (some ⟨Array.size (World.heap w15), 0, none⟩) 0 0), (Value.slice A17 A17l A17c)]) w16 = .ok (Value.slice A18 A18l A18c) w19 ∧
  ∃ w20, Sem.run Tryz.prog (Instr.storeAt 51 (Value.pointer (some (Addr.add ⟨Array.size (World.heap w), 0, none⟩ 2))) (Value.slice A18 A18l A18c)) w19 = .ok () w20 ∧
  ∀ w21, w21 = (World.alloc w20 (.cells #[] 123)) →
  ∃ A22, ∃ A22l, ∃ A22c, World.cell? w21 (Addr.add ⟨Array.size (World.heap w), 0, none⟩ 3) = some (Value.slice A22 A22l A22c) ∧
  ∃ A23, ∃ A23l, ∃ A23c, ∃ w24, Sem.run Tryz.prog (Builtin.append_ #[64, 64] 64 #[(Value.slice (some ⟨Array.size (World.heap w20), 0, none⟩) 0 0), (Value.slice A22 A22l A22c)]) w21 = .ok (Value.slice A23 A23l A23c) w24 ∧
  ∃ w25, Sem.run Tryz.prog (Instr.storeAt 64 (Value.pointer (some (Addr.add ⟨Array.size (World.heap w), 0, none⟩ 3))) (Value.slice A23 A23l A23c)) w24 = .ok () w25 ∧
  ∀ w26, w26 = (World.alloc w25 (.cells #[] 125)) →
  ∃ A27, ∃ A27l, ∃ A27c, World.cell? w26 (Addr.add ⟨Array.size (World.heap w), 0, none⟩ 5) = some (Value.slice A27 A27l A27c) ∧
  ∃ A28, ∃ A28l, ∃ A28c, ∃ w29, Sem.run Tryz.prog (Builtin.append_ #[65, 65] 65 #[(Value.slice (some ⟨Array.size (World.heap w25), 0, none⟩) 0 0), (Value.slice A27 A27l A27c)]) w26 = .ok (Value.slice A28 A28l A28c) w29 ∧
  ∃ w30, Sem.run Tryz.prog (Instr.storeAt 65 (Value.pointer (some (Addr.add ⟨Array.size (World.heap w), 0, none⟩ 5))) (Value.slice A28 A28l A28c)) w29 = .ok () w30 ∧
  ∀ w31, w31 = (World.alloc w30 (.cells #[] 127)) →
  ∃ A32, ∃ A32l, ∃ A32c, World.cell? w31 (Addr.add ⟨Array.size (World.heap w), 0, none⟩ 6) = some (Value.slice A32 A32l A32c) ∧
  ∃ A33, ∃ A33l, ∃ A33c, ∃ w34, Sem.run Tryz.prog (Builtin.append_ #[66, 66] 66 #[(Value.slice (some ⟨Array.size (World.heap w30), 0, none⟩) 0 0), (Value.slice A32 A32l A32c)]) w31 = .ok (Value.slice A33 A33l A33c) w34 ∧
  ∃ w35, Sem.run Tryz.prog (Instr.storeAt 66 (Value.pointer (some (Addr.add ⟨Array.size (World.heap w), 0, none⟩ 6))) (Value.slice A33 A33l A33c)) w34 = .ok () w35 ∧
  ∃ s36, ∃ A37, ∃ A37l, ∃ A37c, ∃ A38, ∃ A38l, ∃ A38c, ∃ A39, ∃ A39l, ∃ A39c, ∃ s40, ∃ A41, ∃ A41l, ∃ A41c, ∃ A42, ∃ A42l, ∃ A42c, ∃ n43, V.cellsC (fun a_ x_ => World.cell? w35 a_ = some x_) ⟨Array.size (World.heap w), 0, none⟩ [(Value.string s36), (Value.slice A37 A37l A37c), (Value.slice A38 A38l A38c), (Value.slice A39 A39l A39c), (Value.string s40), (Value.slice A41 A41l A41c), (Value.slice A42 A42l A42c), (Value.int .i64 n43)] ∧
  ∃ w44, Sem.run Tryz.prog (Instr.storeAt 68 (Value.pointer (some ⟨Array.size (World.heap w9), 0, none⟩)) (Value.agg #[(Value.string s36), (Value.slice A37 A37l A37c), (Value.slice A38 A38l A38c), (Value.slice A39 A39l A39c), (Value.string s40), (Value.slice A41 A41l A41c), (Value.slice A42 A42l A42c), (Value.int .i64 n43)])) w35 = .ok () w44 ∧
  ∃ s45, ∃ A46, ∃ A46l, ∃ A46c, ∃ A47, ∃ A47l, ∃ A47c, ∃ A48, ∃ A48l, ∃ A48c, ∃ s49, ∃ A50, ∃ A50l, ∃ A50c, ∃ A51, ∃ A51l, ∃ A51c, ∃ n52, V.cellsC (fun a_ x_ => World.cell? w44 a_ = some x_) ⟨Array.size (World.heap w9), 0, none⟩ [(Value.string s45), (Value.slice A46 A46l A46c), (Value.slice A47 A47l A47c), (Value.slice A48 A48l A48c), (Value.string s49), (Value.slice A50 A50l A50c), (Value.slice A51 A51l A51c), (Value.int .i64 n52)] ∧
  R (Ending.returned (Value.agg #[(Value.string s45), (Value.slice A46 A46l A46c), (Value.slice A47 A47l A47c), (Value.slice A48 A48l A48c), (Value.string s49), (Value.slice A50 A50l A50c), (Value.slice A51 A51l A51c), (Value.int .i64 n52)])) w44) :
  Calls Tryz.prog 28 #[(Value.agg #[(Value.string p_1), (Value.slice p_2 p_2l p_2c), (Value.slice p_3 p_3l p_3c), (Value.slice p_4 p_4l p_4c), (Value.string p_5), (Value.slice p_6 p_6l p_6c), (Value.slice p_7 p_7l p_7c), (Value.int .i64 p_8)])] w R :=
  V.Z.calls_of_N ⟨V.assoc [], V.assocP [], V.assocC [], V.assocS [], ⟨[], true⟩⟩ Tryz.func28 rfl (Eq.mp (by kernel_rfl) h)

theorem image_writer_state_nf (w_1 : Option Addr) (s_2 : Int) (s_3 : Int) (s_4 : Option Addr) (s_4l : Nat) (s_4c : Nat) (s_5 : Option Addr) (s_5l : Nat) (s_5c : Nat) (s_6 : Option Addr) (s_6l : Nat) (s_6c : Nat) (w : World) (R : Ending → World → Prop) (h :
  ∀ w7, w7 = (World.alloc w (.cells #[(Value.int .i64 s_2), (Value.int .i64 s_3), (Value.slice s_4 s_4l s_4c), (Value.slice s_5 s_5l s_5c), (Value.slice s_6 s_6l s_6c)] 26)) →
  ∃ n8, World.cell? w7 (Addr.add ⟨Array.size (World.heap w), 0, none⟩ 0) = some (Value.int .i64 n8) ∧
  Calls Tryz.prog 49 #[(Value.pointer w_1), (Value.int .i64 n8)] w7 fun e9 w10 =>
  e9 = Ending.returned undef ∧
  ∃ n11, World.cell? w10 (Addr.add ⟨Array.size (World.heap w), 0, none⟩ 1) = some (Value.int .i64 n11) ∧
  Calls Tryz.prog 49 #[(Value.pointer w_1), (Value.int .i64 n11)] w10 fun e12 w13 =>
  e12 = Ending.returned undef ∧
  ∃ A14, ∃ A14l, ∃ A14c, World.cell? w13 (Addr.add ⟨Array.size (World.heap w), 0, none⟩ 2) = some (Value.slice A14 A14l A14c) ∧
  Calls Tryz.prog 50 #[(Value.pointer w_1), (Value.slice A14 A14l A14c), (Value.func (.func 51) #[(Value.pointer w_1)] #[])] w13 fun e15 w16 =>
  e15 = Ending.returned undef ∧
  ∃ A17, ∃ A17l, ∃ A17c, World.cell? w16 (Addr.add ⟨Array.size (World.heap w), 0, none⟩ 3) = some (Value.slice A17 A17l A17c) ∧
  Calls Tryz.prog 52 #[(Value.pointer w_1), (Value.slice A17 A17l A17c), (Value.func (.func 53) #[(Value.pointer w_1)] #[])] w16 fun e18 w19 =>
  e18 = Ending.returned undef ∧
  ∃ A20, ∃ A20l, ∃ A20c, World.cell? w19 (Addr.add ⟨Array.size (World.heap w), 0, none⟩ 4) = some (Value.slice A20 A20l A20c) ∧
  Calls Tryz.prog 54 #[(Value.pointer w_1), (Value.slice A20 A20l A20c), (Value.func (.func 55) #[(Value.pointer w_1)] #[])] w19 fun e21 w22 =>
  e21 = Ending.returned undef ∧
  R (Ending.returned undef) w22) :
  Calls Tryz.prog 29 #[(Value.pointer w_1), (Value.agg #[(Value.int .i64 s_2), (Value.int .i64 s_3), (Value.slice s_4 s_4l s_4c), (Value.slice s_5 s_5l s_5c), (Value.slice s_6 s_6l s_6c)])] w R :=
  V.Z.calls_of_N ⟨V.assoc [], V.assocP [], V.assocC [], V.assocS [], ⟨[], true⟩⟩ Tryz.func29 rfl (Eq.mp (by kernel_rfl) h)

theorem image_writer_count_nf (w_1 : Option Addr) (n_2 : Int) (w : World) (R : Ending → World → Prop) (h :
  V.ptr w_1 fun a3 =>
  ∃ b4, World.cell? w (Addr.add a3 1) = some (Value.bool b4) ∧
  V.sel b4
  (R (Ending.returned undef) w)
  (∃ I5 : Int → World → Prop, ∃ μ6 : Int → World → Nat, I5 n_2 w ∧
  ∀ n_7 (j8 : Nat → Value) (w9 : World), I5 n_7 w9 →
  (V.sel (decide (n_7 > 127))
  (V.ptr w_1 fun a10 =>
  ∃ A11, ∃ A11l, ∃ A11c, World.cell? w9 (Addr.add a10 2) = some (Value.slice A11 A11l A11c) ∧
  ∀ w12, w12 = (World.alloc w9 (.cells #[(Value.int .u8 (IntKind.wrap .u8 ((BitVec.toNat (BitVec.ofInt 8 (IntKind.wrap .u8 (n_7)) ||| BitVec.ofInt 8 128) : Nat) : Int)))] 5)) →
  ∃ A13, ∃ A13l, ∃ A13c, ∃ w14, Sem.run Tryz.prog (Builtin.append_ #[28, 28] 28 #[(Value.slice A11 A11l A11c), (Value.slice (some ⟨Array.size (World.heap w9), 0, none⟩) 1 1)]) w12 = .ok (Value.slice A13 A13l A13c) w14 ∧
  V.ptr w_1 fun a15 =>
  ∃ w16, Sem.run Tryz.prog (Instr.storeAt 28 (Value.pointer (some (Addr.add a15 2))) (Value.slice A13 A13l A13c)) w14 = .ok () w16 ∧
  I5 (Int.fdiv n_7 (2 ^ 7)) w16 ∧ μ6 (Int.fdiv n_7 (2 ^ 7)) w16 < μ6 n_7 w9)
  (V.ptr w_1 fun a17 =>
  ∃ A18, ∃ A18l, ∃ A18c, World.cell? w9 (Addr.add a17 2) = some (Value.slice A18 A18l A18c) ∧
  ∀ w19, w19 = (World.alloc w9 (.cells #[(Value.int .u8 (IntKind.wrap .u8 (n_7)))] 5)) →
  ∃ A20, ∃ A20l, ∃ A20c, ∃ w21, Sem.run Tryz.prog (Builtin.append_ #[28, 28] 28 #[(Value.slice A18 A18l A18c), (Value.slice (some ⟨Array.size (World.heap w9), 0, none⟩) 1 1)]) w19 = .ok (Value.slice A20 A20l A20c) w21 ∧
  V.ptr w_1 fun a22 =>
  ∃ w23, Sem.run Tryz.prog (Instr.storeAt 28 (Value.pointer (some (Addr.add a22 2))) (Value.slice A20 A20l A20c)) w21 = .ok () w23 ∧
  R (Ending.returned undef) w23)))) :
  Calls Tryz.prog 32 #[(Value.pointer w_1), (Value.int .u64 n_2)] w R :=
  V.Z.calls_of_N ⟨V.assoc [(0, [1])], V.assocP [], V.assocC [], V.assocS [], ⟨[], true⟩⟩ Tryz.func32 rfl (Eq.mp (by kernel_rfl) h)

theorem image_sum_nf (b_1 : Option Addr) (b_1l : Nat) (b_1c : Nat) (w : World) (R : Ending → World → Prop) (h :
  ∃ I2 : Int → Int → World → Prop, ∃ μ3 : Int → Int → World → Nat, I2 14695981039346656037 0 w ∧
  ∀ h_4 t8_5 (j6 : Nat → Value) (w7 : World), I2 h_4 t8_5 w7 →
  (V.sel (decide (t8_5 < ((b_1l : Nat) : Int)))
  (V.when (decide ((0 : Int) ≤ t8_5 ∧ (t8_5 : Int) < ((b_1l : Nat) : Int))) (V.ptr b_1 fun a8 =>
  ∃ n9, World.cell? w7 (Addr.add a8 ((Int.toNat t8_5) * 1)) = some (Value.int .u8 n9) ∧
  V.lt (IntKind.wrap .u64 ((BitVec.toNat (BitVec.ofInt 64 h_4 ^^^ BitVec.ofInt 64 (IntKind.wrap .u64 (n9))) : Nat) : Int)) fun x10 =>
  V.lt (IntKind.wrap .u64 (x10 * 1099511628211)) fun x11 =>
  I2 x11 (IntKind.wrap .i64 (t8_5 + 1)) w7 ∧ μ3 x11 (IntKind.wrap .i64 (t8_5 + 1)) w7 < μ3 h_4 t8_5 w7))
  (R (Ending.returned (Value.int .u64 h_4)) w7))) :
  Calls Tryz.prog 33 #[(Value.slice b_1 b_1l b_1c)] w R :=
  V.Z.calls_of_N ⟨V.assoc [(0, [3, 8])], V.assocP [], V.assocC [], V.assocS [], ⟨[], true⟩⟩ Tryz.func33 rfl (Eq.mp (by kernel_rfl) h)

theorem berthlaw26_sizePod_nf (p_1 : ByteArray) (p_2 : Option Addr) (p_2l : Nat) (p_2c : Nat) (p_3 : Option Addr) (p_3l : Nat) (p_3c : Nat) (p_4 : Option Addr) (p_4l : Nat) (p_4c : Nat) (p_5 : ByteArray) (p_6 : Option Addr) (p_6l : Nat) (p_6c : Nat) (p_7 : Option Addr) (p_7l : Nat) (p_7c : Nat) (p_8 : Int) (w : World) (R : Ending → World → Prop) (h :
  ∀ w9, w9 = (World.alloc w (.cells #[(Value.string p_1), (Value.slice p_2 p_2l p_2c), (Value.slice p_3 p_3l p_3c), (Value.slice p_4 p_4l p_4c), (Value.string p_5), (Value.slice p_6 p_6l p_6c), (Value.slice p_7 p_7l p_7c), (Value.int .i64 p_8)] 68)) →
  ∃ s10, World.cell? w9 (Addr.add ⟨Array.size (World.heap w), 0, none⟩ 0) = some (Value.string s10) ∧
  ∃ s11, World.cell? w9 (Addr.add ⟨Array.size (World.heap w), 0, none⟩ 4) = some (Value.string s11) ∧
  V.lt (IntKind.wrap .i64 ((IntKind.wrap .i64 (120 + ((ByteArray.size s10 : Nat) : Int))) + ((ByteArray.size s11 : Nat) : Int))) fun x12 =>
  ∃ I13 : Int → Int → World → Prop, ∃ μ14 : Int → Int → World → Nat, I13 x12 0 w9 ∧
  ∀ n_15 j_16 (j17 : Nat → Value) (w18 : World), I13 n_15 j_16 w18 →
  (∃ A19, ∃ A19l, ∃ A19c, World.cell? w18 (Addr.add ⟨Array.size (World.heap w), 0, none⟩ 1) = some (Value.slice A19 A19l A19c) ∧
  V.sel (decide (j_16 < ((A19l : Nat) : Int)))
  (∃ A20, ∃ A20l, ∃ A20c, World.cell? w18 (Addr.add ⟨Array.size (World.heap w), 0, none⟩ 1) = some (Value.slice A20 A20l A20c) ∧
  V.when (decide ((0 : Int) ≤ j_16 ∧ (j_16 : Int) < ((A20l : Nat) : Int))) (V.ptr A20 fun a21 =>
  ∃ s22, World.cell? w18 (Addr.add (Addr.add a21 ((Int.toNat j_16) * 2)) 0) = some (Value.string s22) ∧
  ∃ A23, ∃ A23l, ∃ A23c, World.cell? w18 (Addr.add ⟨Array.size (World.heap w), 0, none⟩ 1) = some (Value.slice A23 A23l A23c) ∧
  V.when (decide ((0 : Int) ≤ j_16 ∧ (j_16 : Int) < ((A23l : Nat) : Int))) (V.ptr A23 fun a24 =>
  ∃ s25, World.cell? w18 (Addr.add (Addr.add a24 ((Int.toNat j_16) * 2)) 1) = some (Value.string s25) ∧
  V.lt (IntKind.wrap .i64 (n_15 + (IntKind.wrap .i64 ((IntKind.wrap .i64 (40 + ((ByteArray.size s22 : Nat) : Int))) + ((ByteArray.size s25 : Nat) : Int))))) fun x26 =>
  I13 x26 (IntKind.wrap .i64 (j_16 + 1)) (World.drew w18) ∧ μ14 x26 (IntKind.wrap .i64 (j_16 + 1)) (World.drew w18) < μ14 n_15 j_16 w18)))
  (∃ I27 : Int → Int → World → Prop, ∃ μ28 : Int → Int → World → Nat, I27 n_15 0 w18 ∧
  ∀ n_29 j_30 (j31 : Nat → Value) (w32 : World), I27 n_29 j_30 w32 →
  (∃ A33, ∃ A33l, ∃ A33c, World.cell? w32 (Addr.add ⟨Array.size (World.heap w), 0, none⟩ 2) = some (Value.slice A33 A33l A33c) ∧
  V.sel (decide (j_30 < ((A33l : Nat) : Int)))
  (∃ A34, ∃ A34l, ∃ A34c, World.cell? w32 (Addr.add ⟨Array.size (World.heap w), 0, none⟩ 2) = some (Value.slice A34 A34l A34c) ∧
  V.when (decide ((0 : Int) ≤ j_30 ∧ (j_30 : Int) < ((A34l : Nat) : Int))) (V.ptr A34 fun a35 =>
  ∃ s36, World.cell? w32 (Addr.add (Addr.add a35 ((Int.toNat j_30) * 2)) 0) = some (Value.string s36) ∧
  V.lt (IntKind.wrap .i64 (n_29 + (IntKind.wrap .i64 (40 + ((ByteArray.size s36 : Nat) : Int))))) fun x37 =>
  I27 x37 (IntKind.wrap .i64 (j_30 + 1)) w32 ∧ μ28 x37 (IntKind.wrap .i64 (j_30 + 1)) w32 < μ28 n_29 j_30 w32))
  (∃ I38 : Int → Int → World → Prop, ∃ μ39 : Int → Int → World → Nat, I38 n_29 0 w32 ∧
  ∀ n_40 j_41 (j42 : Nat → Value) (w43 : World), I38 n_40 j_41 w43 →
  (∃ A44, ∃ A44l, ∃ A44c, World.cell? w43 (Addr.add ⟨Array.size (World.heap w), 0, none⟩ 3) = some (Value.slice A44 A44l A44c) ∧
  V.sel (decide (j_41 < ((A44l : Nat) : Int)))
  (∃ A45, ∃ A45l, ∃ A45c, World.cell? w43 (Addr.add ⟨Array.size (World.heap w), 0, none⟩ 3) = some (Value.slice A45 A45l A45c) ∧
  V.when (decide ((0 : Int) ≤ j_41 ∧ (j_41 : Int) < ((A45l : Nat) : Int))) (V.ptr A45 fun a46 =>
  ∃ s47, ∃ s48, ∃ s49, ∃ s50, V.cellsC (fun a_ x_ => World.cell? w43 a_ = some x_) (Addr.add a46 ((Int.toNat j_41) * 4)) [(Value.string s47), (Value.string s48), (Value.string s49), (Value.string s50)] ∧
  ∀ w51, w51 = (World.alloc w43 (.cells #[(Value.string ByteArray.empty), (Value.string ByteArray.empty), (Value.string ByteArray.empty), (Value.string ByteArray.empty)] 123)) →
  ∃ w52, Sem.run Tryz.prog (Instr.storeAt 123 (Value.pointer (some ⟨Array.size (World.heap w43), 0, none⟩)) (Value.agg #[(Value.string s47), (Value.string s48), (Value.string s49), (Value.string s50)])) w51 = .ok () w52 ∧
  ∃ s53, World.cell? w52 (Addr.add ⟨Array.size (World.heap w43), 0, none⟩ 0) = some (Value.string s53) ∧
  ∃ s54, World.cell? w52 (Addr.add ⟨Array.size (World.heap w43), 0, none⟩ 1) = some (Value.string s54) ∧
  ∃ s55, World.cell? w52 (Addr.add ⟨Array.size (World.heap w43), 0, none⟩ 2) = some (Value.string s55) ∧
  ∃ s56, World.cell? w52 (Addr.add ⟨Array.size (World.heap w43), 0, none⟩ 3) = some (Value.string s56) ∧
  V.lt (IntKind.wrap .i64 (n_40 + (IntKind.wrap .i64 ((IntKind.wrap .i64 ((IntKind.wrap .i64 ((IntKind.wrap .i64 (80 + ((ByteArray.size s53 : Nat) : Int))) + ((ByteArray.size s54 : Nat) : Int))) + ((ByteArray.size s55 : Nat) : Int))) + ((ByteArray.size s56 : Nat) : Int))))) fun x57 =>
  I38 x57 (IntKind.wrap .i64 (j_41 + 1)) w52 ∧ μ39 x57 (IntKind.wrap .i64 (j_41 + 1)) w52 < μ39 n_40 j_41 w43))
  (∃ I58 : Int → Int → World → Prop, ∃ μ59 : Int → Int → World → Nat, I58 n_40 0 w43 ∧
  ∀ n_60 j_61 (j62 : Nat → Value) (w63 : World), I58 n_60 j_61 w63 →
  (∃ A64, ∃ A64l, ∃ A64c, World.cell? w63 (Addr.add ⟨Array.size (World.heap w), 0, none⟩ 5) = some (Value.slice A64 A64l A64c) ∧
  V.sel (decide (j_61 < ((A64l : Nat) : Int)))
  (∃ A65, ∃ A65l, ∃ A65c, World.cell? w63 (Addr.add ⟨Array.size (World.heap w), 0, none⟩ 5) = some (Value.slice A65 A65l A65c) ∧
  V.when (decide ((0 : Int) ≤ j_61 ∧ (j_61 : Int) < ((A65l : Nat) : Int))) (V.ptr A65 fun a66 =>
  ∃ s67, World.cell? w63 (Addr.add (Addr.add a66 ((Int.toNat j_61) * 2)) 0) = some (Value.string s67) ∧
  ∃ A68, ∃ A68l, ∃ A68c, World.cell? w63 (Addr.add ⟨Array.size (World.heap w), 0, none⟩ 5) = some (Value.slice A68 A68l A68c) ∧
  V.when (decide ((0 : Int) ≤ j_61 ∧ (j_61 : Int) < ((A68l : Nat) : Int))) (V.ptr A68 fun a69 =>
  ∃ s70, World.cell? w63 (Addr.add (Addr.add a69 ((Int.toNat j_61) * 2)) 1) = some (Value.string s70) ∧
  V.lt (IntKind.wrap .i64 (n_60 + (IntKind.wrap .i64 ((IntKind.wrap .i64 (40 + ((ByteArray.size s67 : Nat) : Int))) + ((ByteArray.size s70 : Nat) : Int))))) fun x71 =>
  I58 x71 (IntKind.wrap .i64 (j_61 + 1)) (World.drew w63) ∧ μ59 x71 (IntKind.wrap .i64 (j_61 + 1)) (World.drew w63) < μ59 n_60 j_61 w63)))
  (∃ I72 : Int → Int → World → Prop, ∃ μ73 : Int → Int → World → Nat, I72 n_60 0 w63 ∧
  ∀ n_74 j_75 (j76 : Nat → Value) (w77 : World), I72 n_74 j_75 w77 →
  (∃ A78, ∃ A78l, ∃ A78c, World.cell? w77 (Addr.add ⟨Array.size (World.heap w), 0, none⟩ 6) = some (Value.slice A78 A78l A78c) ∧
  V.sel (decide (j_75 < ((A78l : Nat) : Int)))
  (∃ A79, ∃ A79l, ∃ A79c, World.cell? w77 (Addr.add ⟨Array.size (World.heap w), 0, none⟩ 6) = some (Value.slice A79 A79l A79c) ∧
  V.when (decide ((0 : Int) ≤ j_75 ∧ (j_75 : Int) < ((A79l : Nat) : Int))) (V.ptr A79 fun a80 =>
  ∃ s81, World.cell? w77 (Addr.add (Addr.add a80 ((Int.toNat j_75) * 2)) 1) = some (Value.string s81) ∧
  V.lt (IntKind.wrap .i64 (n_74 + (IntKind.wrap .i64 (40 + ((ByteArray.size s81 : Nat) : Int))))) fun x82 =>
  I72 x82 (IntKind.wrap .i64 (j_75 + 1)) w77 ∧ μ73 x82 (IntKind.wrap .i64 (j_75 + 1)) w77 < μ73 n_74 j_75 w77))
  (R (Ending.returned (Value.int .i64 n_74)) w77))))))))))) :
  Calls Tryz.prog 34 #[(Value.agg #[(Value.string p_1), (Value.slice p_2 p_2l p_2c), (Value.slice p_3 p_3l p_3c), (Value.slice p_4 p_4l p_4c), (Value.string p_5), (Value.slice p_6 p_6l p_6c), (Value.slice p_7 p_7l p_7c), (Value.int .i64 p_8)])] w R :=
  V.Z.calls_of_N ⟨V.assoc [(0, [3, 4]), (1, [3, 5]), (2, [3, 6]), (3, [3, 8]), (4, [3, 9])], V.assocP [(5, V.line [0, 1, 2, 3, 4, 5, 6, 7, 8, 9, 10, 11, 12, 13, 14, 15, 16, 17, 18]), (18, V.line [0, 1, 2, 3, 4, 5, 6, 7, 8, 9, 10, 11, 12, 13, 14, 15, 16, 17, 18])], V.assocC [], V.assocS [], ⟨[], true⟩⟩ Tryz.func34 rfl (Eq.mp (by kernel_rfl) h)

theorem image_outside_nf (b_1 : Option Addr) (b_1l : Nat) (b_1c : Nat) (w : World) (R : Ending → World → Prop) (h :
  V.sel (decide (((b_1l : Nat) : Int) > 16777216))
  (∀ w2, w2 = (World.alloc w (.cells #[(Value.int .i64 265), (Value.int .i64 (-1)), (Value.string ByteArray.empty), Value.nilIface] 129)) →
  R (Ending.returned (Value.pointer (some ⟨Array.size (World.heap w), 0, none⟩))) w2)
  (∃ J3 : Value → World → Prop, (∃ I4 : Int → World → Prop, ∃ μ5 : Int → World → Nat, I4 0 w ∧
  ∀ i_6 (j7 : Nat → Value) (w8 : World), I4 i_6 w8 →
  (∃ J9 : World → Prop, (V.sel (decide (i_6 < 6))
  (V.sel (decide (i_6 < ((b_1l : Nat) : Int)))
  (J9  w8)
  (J3 (j7 2) w8))
  (J3 (j7 2) w8)) ∧
  ∀ (j10 : Nat → Value) (w11 : World), J9  w11 →
  V.when (decide ((0 : Int) ≤ i_6 ∧ (i_6 : Int) < ((b_1l : Nat) : Int))) (V.ptr b_1 fun a12 =>
  ∃ n13, World.cell? w11 (Addr.add a12 ((Int.toNat i_6) * 1)) = some (Value.int .u8 n13) ∧
  V.when (decide ((0 : Int) ≤ i_6 ∧ (i_6 : Int) < ((ByteArray.size ⟨#[98, 101, 114, 116, 104, 1]⟩ : Nat) : Int))) (V.sel (n13 != (V.byteAt ⟨#[98, 101, 114, 116, 104, 1]⟩ i_6))
  (∀ w14, w14 = (World.alloc (World.drew w11) (.cells #[(Value.int .i64 260), (Value.int .i64 i_6), (Value.string ByteArray.empty), Value.nilIface] 129)) →
  R (Ending.returned (Value.pointer (some ⟨Array.size (World.heap (World.drew w11)), 0, none⟩))) w14)
  (I4 (IntKind.wrap .i64 (i_6 + 1)) (World.drew w11) ∧ μ5 (IntKind.wrap .i64 (i_6 + 1)) (World.drew w11) < μ5 i_6 w8))))) ∧
  ∀ t2_15 (j16 : Nat → Value) (w17 : World), J3 t2_15 w17 →
  V.sel (decide (((b_1l : Nat) : Int) < 14))
  (∀ w18, w18 = (World.alloc w17 (.cells #[(Value.int .i64 262), (Value.int .i64 ((b_1l : Nat) : Int)), (Value.string ByteArray.empty), Value.nilIface] 129)) →
  R (Ending.returned (Value.pointer (some ⟨Array.size (World.heap w17), 0, none⟩))) w18)
  (V.lt (IntKind.wrap .i64 (((b_1l : Nat) : Int) - 8)) fun x19 =>
  V.when (decide ((0 : Int) ≤ x19 ∧ (x19 : Int) ≤ ((b_1c : Nat) : Int))) (Calls Tryz.prog 33 #[(Value.slice (V.cut b_1 b_1c 0 1) ((Int.toNat x19) - 0) (b_1c - 0))] w17 fun e21 w22 =>
  ∃ n20, e21 = Ending.returned (Value.int .u64 n20) ∧
  V.when (decide ((0 : Int) ≤ x19 ∧ (x19 : Int) ≤ ((b_1l : Nat) : Int))) (∃ I23 : Int → Int → World → Prop, ∃ μ24 : Int → Int → World → Nat, I23 n20 0 w22 ∧
  ∀ h_25 t51_26 (j27 : Nat → Value) (w28 : World), I23 h_25 t51_26 w28 →
  (V.sel (decide (t51_26 < (((b_1l - (Int.toNat x19)) : Nat) : Int)))
  (V.when (decide ((0 : Int) ≤ t51_26 ∧ (t51_26 : Int) < (((b_1l - (Int.toNat x19)) : Nat) : Int))) (V.ptr (V.cut b_1 b_1c (Int.toNat x19) 1) fun a29 =>
  ∃ n30, World.cell? w28 (Addr.add a29 ((Int.toNat t51_26) * 1)) = some (Value.int .u8 n30) ∧
  V.sel (n30 != (IntKind.wrap .u8 (h_25)))
  (∀ w31, w31 = (World.alloc w28 (.cells #[(Value.int .i64 261), (Value.int .i64 x19), (Value.string ByteArray.empty), Value.nilIface] 129)) →
  R (Ending.returned (Value.pointer (some ⟨Array.size (World.heap w28), 0, none⟩))) w31)
  (I23 (Int.fdiv h_25 (2 ^ 8)) (IntKind.wrap .i64 (t51_26 + 1)) w28 ∧ μ24 (Int.fdiv h_25 (2 ^ 8)) (IntKind.wrap .i64 (t51_26 + 1)) w28 < μ24 h_25 t51_26 w28)))
  (R (Ending.returned (Value.pointer none)) w28))))))) :
  Calls Tryz.prog 35 #[(Value.slice b_1 b_1l b_1c)] w R :=
  V.Z.calls_of_N ⟨V.assoc [(0, [3]), (1, [5, 51])], V.assocP [(6, V.line [0, 1, 2, 3, 4, 5, 6])], V.assocC [(1000007, ([], [])), (1000009, ([2], [V.Sh.one .any]))], V.assocS [], ⟨[], true⟩⟩ Tryz.func35 rfl (Eq.mp (by kernel_rfl) h)

theorem berthlaw26_SameNode_nf (a_1 : ByteArray) (a_2 : Option Addr) (a_2l : Nat) (a_2c : Nat) (a_3 : Option Addr) (a_3l : Nat) (a_3c : Nat) (a_4 : Option Addr) (a_4l : Nat) (a_4c : Nat) (a_5 : Bool) (b_6 : ByteArray) (b_7 : Option Addr) (b_7l : Nat) (b_7c : Nat) (b_8 : Option Addr) (b_8l : Nat) (b_8c : Nat) (b_9 : Option Addr) (b_9l : Nat) (b_9c : Nat) (b_10 : Bool) (w : World) (R : Ending → World → Prop) (h :
  ∀ w11, w11 = (World.alloc w (.cells #[(Value.string a_1), (Value.slice a_2 a_2l a_2c), (Value.slice a_3 a_3l a_3c), (Value.slice a_4 a_4l a_4c), (Value.bool a_5)] 53)) →
  ∀ w12, w12 = (World.alloc w11 (.cells #[(Value.string b_6), (Value.slice b_7 b_7l b_7c), (Value.slice b_8 b_8l b_8c), (Value.slice b_9 b_9l b_9c), (Value.bool b_10)] 53)) →
  ∃ s13, World.cell? w12 (Addr.add ⟨Array.size (World.heap w), 0, none⟩ 0) = some (Value.string s13) ∧
  ∃ s14, World.cell? w12 (Addr.add ⟨Array.size (World.heap w11), 0, none⟩ 0) = some (Value.string s14) ∧
  V.sel (ByteArray.toList s13 == ByteArray.toList s14)
  (∃ b15, World.cell? w12 (Addr.add ⟨Array.size (World.heap w), 0, none⟩ 4) = some (Value.bool b15) ∧
  ∃ b16, World.cell? w12 (Addr.add ⟨Array.size (World.heap w11), 0, none⟩ 4) = some (Value.bool b16) ∧
  V.sel (b15 == b16)
  (∃ A17, ∃ A17l, ∃ A17c, World.cell? w12 (Addr.add ⟨Array.size (World.heap w), 0, none⟩ 1) = some (Value.slice A17 A17l A17c) ∧
  ∃ A18, ∃ A18l, ∃ A18c, World.cell? w12 (Addr.add ⟨Array.size (World.heap w11), 0, none⟩ 1) = some (Value.slice A18 A18l A18c) ∧
  Calls Tryz.prog 64 #[(Value.slice A17 A17l A17c), (Value.slice A18 A18l A18c)] w12 fun e20 w21 =>
  ∃ b19, e20 = Ending.returned (Value.bool b19) ∧
  V.sel b19
  (∃ A22, ∃ A22l, ∃ A22c, World.cell? w21 (Addr.add ⟨Array.size (World.heap w), 0, none⟩ 2) = some (Value.slice A22 A22l A22c) ∧
  ∃ A23, ∃ A23l, ∃ A23c, World.cell? w21 (Addr.add ⟨Array.size (World.heap w11), 0, none⟩ 2) = some (Value.slice A23 A23l A23c) ∧
  Calls Tryz.prog 65 #[(Value.slice A22 A22l A22c), (Value.slice A23 A23l A23c)] w21 fun e25 w26 =>
  ∃ b24, e25 = Ending.returned (Value.bool b24) ∧
  V.sel b24
  (∃ A27, ∃ A27l, ∃ A27c, World.cell? w26 (Addr.add ⟨Array.size (World.heap w), 0, none⟩ 3) = some (Value.slice A27 A27l A27c) ∧
  ∃ A28, ∃ A28l, ∃ A28c, World.cell? w26 (Addr.add ⟨Array.size (World.heap w11), 0, none⟩ 3) = some (Value.slice A28 A28l A28c) ∧
  Calls Tryz.prog 66 #[(Value.slice A27 A27l A27c), (Value.slice A28 A28l A28c)] w26 fun e30 w31 =>
  ∃ b29, e30 = Ending.returned (Value.bool b29) ∧
  R (Ending.returned (Value.bool b29)) w31)
  (R (Ending.returned (Value.bool false)) w26))
  (R (Ending.returned (Value.bool false)) w21))
  (R (Ending.returned (Value.bool false)) w12))
  (R (Ending.returned (Value.bool false)) w12)) :
  Calls Tryz.prog 37 #[(Value.agg #[(Value.string a_1), (Value.slice a_2 a_2l a_2c), (Value.slice a_3 a_3l a_3c), (Value.slice a_4 a_4l a_4c), (Value.bool a_5)]), (Value.agg #[(Value.string b_6), (Value.slice b_7 b_7l b_7c), (Value.slice b_8 b_8l b_8c), (Value.slice b_9 b_9l b_9c), (Value.bool b_10)])] w R :=
  V.Z.calls_of_N ⟨V.assoc [], V.assocP [], V.assocC [], V.assocS [], ⟨[], true⟩⟩ Tryz.func37 rfl (Eq.mp (by kernel_rfl) h)

theorem berthlaw26_SamePod_nf (a_1 : ByteArray) (a_2 : Option Addr) (a_2l : Nat) (a_2c : Nat) (a_3 : Option Addr) (a_3l : Nat) (a_3c : Nat) (a_4 : Option Addr) (a_4l : Nat) (a_4c : Nat) (a_5 : ByteArray) (a_6 : Option Addr) (a_6l : Nat) (a_6c : Nat) (a_7 : Option Addr) (a_7l : Nat) (a_7c : Nat) (a_8 : Int) (b_9 : ByteArray) (b_10 : Option Addr) (b_10l : Nat) (b_10c : Nat) (b_11 : Option Addr) (b_11l : Nat) (b_11c : Nat) (b_12 : Option Addr) (b_12l : Nat) (b_12c : Nat) (b_13 : ByteArray) (b_14 : Option Addr) (b_14l : Nat) (b_14c : Nat) (b_15 : Option Addr) (b_15l : Nat) (b_15c : Nat) (b_16 : Int) (w : World) (R : Ending → World → Prop) (h :
  ∀ w17, w17 = (World.alloc w (.cells #[(Value.string a_1), (Value.slice a_2 a_2l a_2c), (Value.slice a_3 a_3l a_3c), (Value.slice a_4 a_4l a_4c), (Value.string a_5), (Value.slice a_6 a_6l a_6c), (Value.slice a_7 a_7l a_7c), (Value.int .i64 a_8)] 68)) →
  ∀ w18, w18 = (World.alloc w17 (.cells #[(Value.string b_9), (Value.slice b_10 b_10l b_10c), (Value.slice b_11 b_11l b_11c), (Value.slice b_12 b_12l b_12c), (Value.string b_13), (Value.slice b_14 b_14l b_14c), (Value.slice b_15 b_15l b_15c), (Value.int .i64 b_16)] 68)) →
  ∃ J19 : Bool → World → Prop, (∃ A20, ∃ A20l, ∃ A20c, World.cell? w18 (Addr.add ⟨Array.size (World.heap w), 0, none⟩ 1) = some (Value.slice A20 A20l A20c) ∧
  ∃ A21, ∃ A21l, ∃ A21c, World.cell? w18 (Addr.add ⟨Array.size (World.heap w17), 0, none⟩ 1) = some (Value.slice A21 A21l A21c) ∧
  Calls Tryz.prog 64 #[(Value.slice A20 A20l A20c), (Value.slice A21 A21l A21c)] w18 fun e23 w24 =>
  ∃ b22, e23 = Ending.returned (Value.bool b22) ∧
  V.sel b22
  (∃ A25, ∃ A25l, ∃ A25c, World.cell? w24 (Addr.add ⟨Array.size (World.heap w), 0, none⟩ 2) = some (Value.slice A25 A25l A25c) ∧
  ∃ A26, ∃ A26l, ∃ A26c, World.cell? w24 (Addr.add ⟨Array.size (World.heap w17), 0, none⟩ 2) = some (Value.slice A26 A26l A26c) ∧
  Calls Tryz.prog 66 #[(Value.slice A25 A25l A25c), (Value.slice A26 A26l A26c)] w24 fun e28 w29 =>
  ∃ b27, e28 = Ending.returned (Value.bool b27) ∧
  V.sel b27
  (∃ A30, ∃ A30l, ∃ A30c, World.cell? w29 (Addr.add ⟨Array.size (World.heap w), 0, none⟩ 3) = some (Value.slice A30 A30l A30c) ∧
  ∃ A31, ∃ A31l, ∃ A31c, World.cell? w29 (Addr.add ⟨Array.size (World.heap w17), 0, none⟩ 3) = some (Value.slice A31 A31l A31c) ∧
  Calls Tryz.prog 67 #[(Value.slice A30 A30l A30c), (Value.slice A31 A31l A31c)] w29 fun e33 w34 =>
  ∃ b32, e33 = Ending.returned (Value.bool b32) ∧
  J19 b32 w34)
  (J19 false w29))
  (J19 false w24)) ∧
  ∀ lists_35 (j36 : Nat → Value) (w37 : World), J19 lists_35 w37 →
  ∃ J38 : Bool → World → Prop, (∃ A39, ∃ A39l, ∃ A39c, World.cell? w37 (Addr.add ⟨Array.size (World.heap w), 0, none⟩ 5) = some (Value.slice A39 A39l A39c) ∧
  ∃ A40, ∃ A40l, ∃ A40c, World.cell? w37 (Addr.add ⟨Array.size (World.heap w17), 0, none⟩ 5) = some (Value.slice A40 A40l A40c) ∧
  Calls Tryz.prog 68 #[(Value.slice A39 A39l A39c), (Value.slice A40 A40l A40c)] w37 fun e42 w43 =>
  ∃ b41, e42 = Ending.returned (Value.bool b41) ∧
  V.sel b41
  (∃ A44, ∃ A44l, ∃ A44c, World.cell? w43 (Addr.add ⟨Array.size (World.heap w), 0, none⟩ 6) = some (Value.slice A44 A44l A44c) ∧
  ∃ A45, ∃ A45l, ∃ A45c, World.cell? w43 (Addr.add ⟨Array.size (World.heap w17), 0, none⟩ 6) = some (Value.slice A45 A45l A45c) ∧
  Calls Tryz.prog 69 #[(Value.slice A44 A44l A44c), (Value.slice A45 A45l A45c)] w43 fun e47 w48 =>
  ∃ b46, e47 = Ending.returned (Value.bool b46) ∧
  J38 b46 w48)
  (J38 false w43)) ∧
  ∀ terms_49 (j50 : Nat → Value) (w51 : World), J38 terms_49 w51 →
  V.sel lists_35
  (V.sel terms_49
  (∃ s52, World.cell? w51 (Addr.add ⟨Array.size (World.heap w), 0, none⟩ 0) = some (Value.string s52) ∧
  ∃ s53, World.cell? w51 (Addr.add ⟨Array.size (World.heap w17), 0, none⟩ 0) = some (Value.string s53) ∧
  V.sel (ByteArray.toList s52 == ByteArray.toList s53)
  (∃ s54, World.cell? w51 (Addr.add ⟨Array.size (World.heap w), 0, none⟩ 4) = some (Value.string s54) ∧
  ∃ s55, World.cell? w51 (Addr.add ⟨Array.size (World.heap w17), 0, none⟩ 4) = some (Value.string s55) ∧
  V.sel (ByteArray.toList s54 == ByteArray.toList s55)
  (∃ n56, World.cell? w51 (Addr.add ⟨Array.size (World.heap w), 0, none⟩ 7) = some (Value.int .i64 n56) ∧
  ∃ n57, World.cell? w51 (Addr.add ⟨Array.size (World.heap w17), 0, none⟩ 7) = some (Value.int .i64 n57) ∧
  R (Ending.returned (Value.bool (n56 == n57))) w51)
  (R (Ending.returned (Value.bool false)) w51))
  (R (Ending.returned (Value.bool false)) w51))
  (R (Ending.returned (Value.bool false)) w51))
  (R (Ending.returned (Value.bool false)) w51)) :
  Calls Tryz.prog 38 #[(Value.agg #[(Value.string a_1), (Value.slice a_2 a_2l a_2c), (Value.slice a_3 a_3l a_3c), (Value.slice a_4 a_4l a_4c), (Value.string a_5), (Value.slice a_6 a_6l a_6c), (Value.slice a_7 a_7l a_7c), (Value.int .i64 a_8)]), (Value.agg #[(Value.string b_9), (Value.slice b_10 b_10l b_10c), (Value.slice b_11 b_11l b_11c), (Value.slice b_12 b_12l b_12c), (Value.string b_13), (Value.slice b_14 b_14l b_14c), (Value.slice b_15 b_15l b_15c), (Value.int .i64 b_16)])] w R :=
  V.Z.calls_of_N ⟨V.assoc [], V.assocP [], V.assocC [(1000003, ([5], [V.Sh.one .bool])), (1000004, ([6], [V.Sh.one .bool]))], V.assocS [], ⟨[], true⟩⟩ Tryz.func38 rfl (Eq.mp (by kernel_rfl) h)

theorem berthlaw26_SamePending_nf (a_1 : ByteArray) (a_2 : Option Addr) (a_2l : Nat) (a_2c : Nat) (a_3 : Option Addr) (a_3l : Nat) (a_3c : Nat) (a_4 : Option Addr) (a_4l : Nat) (a_4c : Nat) (a_5 : ByteArray) (a_6 : Option Addr) (a_6l : Nat) (a_6c : Nat) (a_7 : Option Addr) (a_7l : Nat) (a_7c : Nat) (a_8 : Int) (a_9 : Int) (a_10 : Int) (a_11 : Int) (a_12 : Bool) (b_13 : ByteArray) (b_14 : Option Addr) (b_14l : Nat) (b_14c : Nat) (b_15 : Option Addr) (b_15l : Nat) (b_15c : Nat) (b_16 : Option Addr) (b_16l : Nat) (b_16c : Nat) (b_17 : ByteArray) (b_18 : Option Addr) (b_18l : Nat) (b_18c : Nat) (b_19 : Option Addr) (b_19l : Nat) (b_19c : Nat) (b_20 : Int) (b_21 : Int) (b_22 : Int) (b_23 : Int) (b_24 : Bool) (w : World) (R : Ending → World → Prop) (h :
  ∀ w25, w25 = (World.alloc w (.cells #[(Value.string a_1), (Value.slice a_2 a_2l a_2c), (Value.slice a_3 a_3l a_3c), (Value.slice a_4 a_4l a_4c), (Value.string a_5), (Value.slice a_6 a_6l a_6c), (Value.slice a_7 a_7l a_7c), (Value.int .i64 a_8), (Value.int .i64 a_9), (Value.int .i64 a_10), (Value.int .i64 a_11), (Value.bool a_12)] 73)) →
  ∀ w26, w26 = (World.alloc w25 (.cells #[(Value.string b_13), (Value.slice b_14 b_14l b_14c), (Value.slice b_15 b_15l b_15c), (Value.slice b_16 b_16l b_16c), (Value.string b_17), (Value.slice b_18 b_18l b_18c), (Value.slice b_19 b_19l b_19c), (Value.int .i64 b_20), (Value.int .i64 b_21), (Value.int .i64 b_22), (Value.int .i64 b_23), (Value.bool b_24)] 73)) →
  ∃ s27, ∃ A28, ∃ A28l, ∃ A28c, ∃ A29, ∃ A29l, ∃ A29c, ∃ A30, ∃ A30l, ∃ A30c, ∃ s31, ∃ A32, ∃ A32l, ∃ A32c, ∃ A33, ∃ A33l, ∃ A33c, ∃ n34, V.cellsC (fun a_ x_ => World.cell? w26 a_ = some x_) (Addr.add ⟨Array.size (World.heap w), 0, none⟩ 0) [(Value.string s27), (Value.slice A28 A28l A28c), (Value.slice A29 A29l A29c), (Value.slice A30 A30l A30c), (Value.string s31), (Value.slice A32 A32l A32c), (Value.slice A33 A33l A33c), (Value.int .i64 n34)] ∧
  ∃ s35, ∃ A36, ∃ A36l, ∃ A36c, ∃ A37, ∃ A37l, ∃ A37c, ∃ A38, ∃ A38l, ∃ A38c, ∃ s39, ∃ A40, ∃ A40l, ∃ A40c, ∃ A41, ∃ A41l, ∃ A41c, ∃ n42, V.cellsC (fun a_ x_ => World.cell? w26 a_ = some x_) (Addr.add ⟨Array.size (World.heap w25), 0, none⟩ 0) [(Value.string s35), (Value.slice A36 A36l A36c), (Value.slice A37 A37l A37c), (Value.slice A38 A38l A38c), (Value.string s39), (Value.slice A40 A40l A40c), (Value.slice A41 A41l A41c), (Value.int .i64 n42)] ∧
  Calls Tryz.prog 38 #[(Value.agg #[(Value.string s27), (Value.slice A28 A28l A28c), (Value.slice A29 A29l A29c), (Value.slice A30 A30l A30c), (Value.string s31), (Value.slice A32 A32l A32c), (Value.slice A33 A33l A33c), (Value.int .i64 n34)]), (Value.agg #[(Value.string s35), (Value.slice A36 A36l A36c), (Value.slice A37 A37l A37c), (Value.slice A38 A38l A38c), (Value.string s39), (Value.slice A40 A40l A40c), (Value.slice A41 A41l A41c), (Value.int .i64 n42)])] w26 fun e44 w45 =>
  ∃ b43, e44 = Ending.returned (Value.bool b43) ∧
  V.sel b43
  (∃ n46, World.cell? w45 (Addr.add ⟨Array.size (World.heap w), 0, none⟩ 8) = some (Value.int .i64 n46) ∧
  ∃ n47, World.cell? w45 (Addr.add ⟨Array.size (World.heap w25), 0, none⟩ 8) = some (Value.int .i64 n47) ∧
  V.sel (n46 == n47)
  (∃ n48, World.cell? w45 (Addr.add ⟨Array.size (World.heap w), 0, none⟩ 9) = some (Value.int .i64 n48) ∧
  ∃ n49, World.cell? w45 (Addr.add ⟨Array.size (World.heap w25), 0, none⟩ 9) = some (Value.int .i64 n49) ∧
  V.sel (n48 == n49)
  (∃ n50, World.cell? w45 (Addr.add ⟨Array.size (World.heap w), 0, none⟩ 10) = some (Value.int .i64 n50) ∧
  ∃ n51, World.cell? w45 (Addr.add ⟨Array.size (World.heap w25), 0, none⟩ 10) = some (Value.int .i64 n51) ∧
  V.sel (n50 == n51)
  (∃ b52, World.cell? w45 (Addr.add ⟨Array.size (World.heap w), 0, none⟩ 11) = some (Value.bool b52) ∧
  ∃ b53, World.cell? w45 (Addr.add ⟨Array.size (World.heap w25), 0, none⟩ 11) = some (Value.bool b53) ∧
  R (Ending.returned (Value.bool (b52 == b53))) w45)
  (R (Ending.returned (Value.bool false)) w45))
  (R (Ending.returned (Value.bool false)) w45))
  (R (Ending.returned (Value.bool false)) w45))
  (R (Ending.returned (Value.bool false)) w45)) :
  Calls Tryz.prog 39 #[(Value.agg #[(Value.string a_1), (Value.slice a_2 a_2l a_2c), (Value.slice a_3 a_3l a_3c), (Value.slice a_4 a_4l a_4c), (Value.string a_5), (Value.slice a_6 a_6l a_6c), (Value.slice a_7 a_7l a_7c), (Value.int .i64 a_8), (Value.int .i64 a_9), (Value.int .i64 a_10), (Value.int .i64 a_11), (Value.bool a_12)]), (Value.agg #[(Value.string b_13), (Value.slice b_14 b_14l b_14c), (Value.slice b_15 b_15l b_15c), (Value.slice b_16 b_16l b_16c), (Value.string b_17), (Value.slice b_18 b_18l b_18c), (Value.slice b_19 b_19l b_19c), (Value.int .i64 b_20), (Value.int .i64 b_21), (Value.int .i64 b_22), (Value.int .i64 b_23), (Value.bool b_24)])] w R :=
  V.Z.calls_of_N ⟨V.assoc [], V.assocP [], V.assocC [], V.assocS [], ⟨[], true⟩⟩ Tryz.func39 rfl (Eq.mp (by kernel_rfl) h)

end Go.Proofs.YtoaeefjcjdhlkaaGreat
