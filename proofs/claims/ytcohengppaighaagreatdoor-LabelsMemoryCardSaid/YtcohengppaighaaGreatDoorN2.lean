/- Normal forms of the program's functions, printed by a program of mine; the kernel checks each. -/
import Derived.Test.YtcohengppaighaaGreatDoorProg
import Derived.Test.YtcohengppaighaaGreatDoorV2
set_option linter.unusedVariables false
set_option maxRecDepth 100000
namespace Go.Proofs.YtcohengppaighaaGreatDoor
open Go

theorem berthlaw03_turns_nf (o_1 : Int) (o_2 : Option Addr) (o_2l : Nat) (o_2c : Nat) (o_3 : Option Addr) (o_3l : Nat) (o_3c : Nat) (o_4 : Option Addr) (o_4l : Nat) (o_4c : Nat) (o_5 : ByteArray) (o_6 : ByteArray) (o_7 : ByteArray) (o_8 : Int) (w : World) (R : Ending → World → Prop) (h :
  ∀ w9, w9 = (World.alloc w (.cells #[(Value.int .i64 o_1), (Value.slice o_2 o_2l o_2c), (Value.slice o_3 o_3l o_3c), (Value.slice o_4 o_4l o_4c), (Value.string o_5), (Value.string o_6), (Value.string o_7), (Value.int .i64 o_8)] 25)) →
  ∃ n10, World.cell? w9 (Addr.add ⟨Array.size (World.heap w), 0, none⟩ 0) = some (Value.int .i64 n10) ∧
  V.sel (n10 == 10)
  (∃ S11 : World → Prop, S11 (World.drew w9) ∧
  ∃ A13, ∃ A13l, ∃ A13c, (∀ w12, S11 w12 → World.cell? w12 (Addr.add ⟨Array.size (World.heap w), 0, none⟩ 1) = some (Value.slice A13 A13l A13c)) ∧
  ∃ s14, (∀ w12, S11 w12 → World.cell? w12 (Addr.add ⟨Array.size (World.heap w), 0, none⟩ 5) = some (Value.string s14)) ∧
  Calls Tryz.prog 69 #[(Value.slice A13 A13l A13c)] (World.drew w9) fun e16 w17 =>
  ∃ A15, ∃ A15l, ∃ A15c, e16 = Ending.returned (Value.slice A15 A15l A15c) ∧
  S11 w17 ∧
  Calls Tryz.prog 26 #[(Value.slice A15 A15l A15c), (Value.string s14)] w17 fun e20 w21 =>
  ∃ s18, ∃ b19, e20 = Ending.returned (Value.tuple #[(Value.string s18), (Value.bool b19)]) ∧
  S11 w21 ∧
  ∃ A22, ∃ A22l, ∃ A22c, World.cell? w21 (Addr.add ⟨Array.size (World.heap w), 0, none⟩ 1) = some (Value.slice A22 A22l A22c) ∧
  ∃ s23, World.cell? w21 (Addr.add ⟨Array.size (World.heap w), 0, none⟩ 5) = some (Value.string s23) ∧
  Calls Tryz.prog 62 #[(Value.slice A22 A22l A22c), (Value.string s23)] w21 fun e26 w27 =>
  ∃ s24, ∃ b25, e26 = Ending.returned (Value.tuple #[(Value.string s24), (Value.bool b25)]) ∧
  V.sel (ByteArray.toList s18 == ByteArray.toList s24)
  (R (Ending.returned (Value.bool (b19 == b25))) w27)
  (R (Ending.returned (Value.bool false)) w27))
  (V.sel (n10 == 11)
  (∃ S28 : World → Prop, S28 (World.drew w9) ∧
  ∃ A30, ∃ A30l, ∃ A30c, (∀ w29, S28 w29 → World.cell? w29 (Addr.add ⟨Array.size (World.heap w), 0, none⟩ 1) = some (Value.slice A30 A30l A30c)) ∧
  ∃ s31, (∀ w29, S28 w29 → World.cell? w29 (Addr.add ⟨Array.size (World.heap w), 0, none⟩ 5) = some (Value.string s31)) ∧
  ∃ s32, (∀ w29, S28 w29 → World.cell? w29 (Addr.add ⟨Array.size (World.heap w), 0, none⟩ 6) = some (Value.string s32)) ∧
  Calls Tryz.prog 69 #[(Value.slice A30 A30l A30c)] (World.drew w9) fun e34 w35 =>
  ∃ A33, ∃ A33l, ∃ A33c, e34 = Ending.returned (Value.slice A33 A33l A33c) ∧
  S28 w35 ∧
  Calls Tryz.prog 33 #[(Value.slice A33 A33l A33c), (Value.string s31), (Value.string s32)] w35 fun e38 w39 =>
  ∃ A36, ∃ A36l, ∃ A36c, ∃ n37, e38 = Ending.returned (Value.tuple #[(Value.slice A36 A36l A36c), (Value.int .i64 n37)]) ∧
  S28 w39 ∧
  ∃ A40, ∃ A40l, ∃ A40c, World.cell? w39 (Addr.add ⟨Array.size (World.heap w), 0, none⟩ 1) = some (Value.slice A40 A40l A40c) ∧
  ∃ s41, World.cell? w39 (Addr.add ⟨Array.size (World.heap w), 0, none⟩ 5) = some (Value.string s41) ∧
  ∃ s42, World.cell? w39 (Addr.add ⟨Array.size (World.heap w), 0, none⟩ 6) = some (Value.string s42) ∧
  Calls Tryz.prog 38 #[(Value.slice A40 A40l A40c), (Value.string s41), (Value.string s42)] w39 fun e45 w46 =>
  ∃ A43, ∃ A43l, ∃ A43c, ∃ n44, e45 = Ending.returned (Value.tuple #[(Value.slice A43 A43l A43c), (Value.int .i64 n44)]) ∧
  Calls Tryz.prog 70 #[(Value.slice A36 A36l A36c), (Value.slice A43 A43l A43c)] w46 fun e48 w49 =>
  ∃ b47, e48 = Ending.returned (Value.bool b47) ∧
  V.sel b47
  (R (Ending.returned (Value.bool (n37 == n44))) w49)
  (R (Ending.returned (Value.bool false)) w49))
  (V.sel (n10 == 12)
  (∃ S50 : World → Prop, S50 (World.drew w9) ∧
  ∃ A52, ∃ A52l, ∃ A52c, (∀ w51, S50 w51 → World.cell? w51 (Addr.add ⟨Array.size (World.heap w), 0, none⟩ 1) = some (Value.slice A52 A52l A52c)) ∧
  ∃ s53, (∀ w51, S50 w51 → World.cell? w51 (Addr.add ⟨Array.size (World.heap w), 0, none⟩ 5) = some (Value.string s53)) ∧
  Calls Tryz.prog 69 #[(Value.slice A52 A52l A52c)] (World.drew w9) fun e55 w56 =>
  ∃ A54, ∃ A54l, ∃ A54c, e55 = Ending.returned (Value.slice A54 A54l A54c) ∧
  S50 w56 ∧
  Calls Tryz.prog 34 #[(Value.slice A54 A54l A54c), (Value.string s53)] w56 fun e59 w60 =>
  ∃ A57, ∃ A57l, ∃ A57c, ∃ b58, e59 = Ending.returned (Value.tuple #[(Value.slice A57 A57l A57c), (Value.bool b58)]) ∧
  S50 w60 ∧
  ∃ A61, ∃ A61l, ∃ A61c, World.cell? w60 (Addr.add ⟨Array.size (World.heap w), 0, none⟩ 1) = some (Value.slice A61 A61l A61c) ∧
  ∃ s62, World.cell? w60 (Addr.add ⟨Array.size (World.heap w), 0, none⟩ 5) = some (Value.string s62) ∧
  Calls Tryz.prog 39 #[(Value.slice A61 A61l A61c), (Value.string s62)] w60 fun e65 w66 =>
  ∃ A63, ∃ A63l, ∃ A63c, ∃ b64, e65 = Ending.returned (Value.tuple #[(Value.slice A63 A63l A63c), (Value.bool b64)]) ∧
  Calls Tryz.prog 70 #[(Value.slice A57 A57l A57c), (Value.slice A63 A63l A63c)] w66 fun e68 w69 =>
  ∃ b67, e68 = Ending.returned (Value.bool b67) ∧
  V.sel b67
  (R (Ending.returned (Value.bool (b58 == b64))) w69)
  (R (Ending.returned (Value.bool false)) w69))
  (V.sel (n10 == 13)
  (∃ S70 : World → Prop, S70 (World.drew w9) ∧
  ∃ A72, ∃ A72l, ∃ A72c, (∀ w71, S70 w71 → World.cell? w71 (Addr.add ⟨Array.size (World.heap w), 0, none⟩ 1) = some (Value.slice A72 A72l A72c)) ∧
  ∃ A73, ∃ A73l, ∃ A73c, (∀ w71, S70 w71 → World.cell? w71 (Addr.add ⟨Array.size (World.heap w), 0, none⟩ 2) = some (Value.slice A73 A73l A73c)) ∧
  Calls Tryz.prog 69 #[(Value.slice A72 A72l A72c)] (World.drew w9) fun e75 w76 =>
  ∃ A74, ∃ A74l, ∃ A74c, e75 = Ending.returned (Value.slice A74 A74l A74c) ∧
  S70 w76 ∧
  Calls Tryz.prog 69 #[(Value.slice A73 A73l A73c)] w76 fun e78 w79 =>
  ∃ A77, ∃ A77l, ∃ A77c, e78 = Ending.returned (Value.slice A77 A77l A77c) ∧
  S70 w79 ∧
  Calls Tryz.prog 73 #[(Value.slice A74 A74l A74c), (Value.slice A77 A77l A77c)] w79 fun e81 w82 =>
  ∃ A80, ∃ A80l, ∃ A80c, e81 = Ending.returned (Value.slice A80 A80l A80c) ∧
  S70 w82 ∧
  ∃ A83, ∃ A83l, ∃ A83c, World.cell? w82 (Addr.add ⟨Array.size (World.heap w), 0, none⟩ 1) = some (Value.slice A83 A83l A83c) ∧
  ∃ A84, ∃ A84l, ∃ A84c, World.cell? w82 (Addr.add ⟨Array.size (World.heap w), 0, none⟩ 2) = some (Value.slice A84 A84l A84c) ∧
  Calls Tryz.prog 74 #[(Value.slice A83 A83l A83c), (Value.slice A84 A84l A84c)] w82 fun e86 w87 =>
  ∃ A85, ∃ A85l, ∃ A85c, e86 = Ending.returned (Value.slice A85 A85l A85c) ∧
  Calls Tryz.prog 75 #[(Value.slice A80 A80l A80c), (Value.slice A85 A85l A85c)] w87 fun e89 w90 =>
  ∃ b88, e89 = Ending.returned (Value.bool b88) ∧
  R (Ending.returned (Value.bool b88)) w90)
  (∃ J91 : Option Addr → Nat → Nat → Int → World → Prop, (∃ S92 : World → Prop, S92 (World.drew w9) ∧
  ∃ A94, ∃ A94l, ∃ A94c, (∀ w93, S92 w93 → World.cell? w93 (Addr.add ⟨Array.size (World.heap w), 0, none⟩ 1) = some (Value.slice A94 A94l A94c)) ∧
  ∃ A95, ∃ A95l, ∃ A95c, (∀ w93, S92 w93 → World.cell? w93 (Addr.add ⟨Array.size (World.heap w), 0, none⟩ 3) = some (Value.slice A95 A95l A95c)) ∧
  (Calls Tryz.prog 69 #[(Value.slice A94 A94l A94c)] (World.drew w9) fun e97 w98 =>
  ∃ A96, ∃ A96l, ∃ A96c, e97 = Ending.returned (Value.slice A96 A96l A96c) ∧
  S92 w98 ∧
  ∀ w99, w99 = (World.alloc w98 (.cells #[] 59)) →
  S92 w99 ∧
  ∃ A100, ∃ A100l, ∃ A100c, ∃ w101, Sem.run Tryz.prog (Builtin.append_ #[23, 23] 23 #[(Value.slice (some ⟨Array.size (World.heap w98), 0, none⟩) 0 0), (Value.slice A95 A95l A95c)]) w99 = .ok (Value.slice A100 A100l A100c) w101 ∧
  S92 w101 ∧
  Calls Tryz.prog 35 #[(Value.slice A96 A96l A96c), (Value.slice A100 A100l A100c)] w101 fun e104 w105 =>
  ∃ A102, ∃ A102l, ∃ A102c, ∃ n103, e104 = Ending.returned (Value.tuple #[(Value.slice A102 A102l A102c), (Value.int .i64 n103)]) ∧
  S92 w105 ∧
  J91 A102 A102l A102c n103 w105) ∧
  (∀ w106, w106 = (World.alloc (World.drew w9) (.cells #[] 59)) →
  S92 w106 ∧
  Calls Tryz.prog 69 #[(Value.slice A94 A94l A94c)] w106 fun e108 w109 =>
  ∃ A107, ∃ A107l, ∃ A107c, e108 = Ending.returned (Value.slice A107 A107l A107c) ∧
  S92 w109 ∧
  ∃ A110, ∃ A110l, ∃ A110c, ∃ w111, Sem.run Tryz.prog (Builtin.append_ #[23, 23] 23 #[(Value.slice (some ⟨Array.size (World.heap (World.drew w9)), 0, none⟩) 0 0), (Value.slice A95 A95l A95c)]) w109 = .ok (Value.slice A110 A110l A110c) w111 ∧
  S92 w111 ∧
  Calls Tryz.prog 35 #[(Value.slice A107 A107l A107c), (Value.slice A110 A110l A110c)] w111 fun e114 w115 =>
  ∃ A112, ∃ A112l, ∃ A112c, ∃ n113, e114 = Ending.returned (Value.tuple #[(Value.slice A112 A112l A112c), (Value.int .i64 n113)]) ∧
  S92 w115 ∧
  J91 A112 A112l A112c n113 w115) ∧ True) ∧
  ∀ l_116 l_116l l_116c e_117 (j118 : Nat → Value) (w119 : World), J91 l_116 l_116l l_116c e_117 w119 →
  ∃ A120, ∃ A120l, ∃ A120c, World.cell? w119 (Addr.add ⟨Array.size (World.heap w), 0, none⟩ 1) = some (Value.slice A120 A120l A120c) ∧
  ∃ A121, ∃ A121l, ∃ A121c, World.cell? w119 (Addr.add ⟨Array.size (World.heap w), 0, none⟩ 3) = some (Value.slice A121 A121l A121c) ∧
  Calls Tryz.prog 40 #[(Value.slice A120 A120l A120c), (Value.slice A121 A121l A121c)] w119 fun e124 w125 =>
  ∃ A122, ∃ A122l, ∃ A122c, ∃ n123, e124 = Ending.returned (Value.tuple #[(Value.slice A122 A122l A122c), (Value.int .i64 n123)]) ∧
  Calls Tryz.prog 70 #[(Value.slice l_116 l_116l l_116c), (Value.slice A122 A122l A122c)] w125 fun e127 w128 =>
  ∃ b126, e127 = Ending.returned (Value.bool b126) ∧
  V.sel b126
  (R (Ending.returned (Value.bool (e_117 == n123))) w128)
  (R (Ending.returned (Value.bool false)) w128)))))) :
  Calls Tryz.prog 47 #[(Value.agg #[(Value.int .i64 o_1), (Value.slice o_2 o_2l o_2c), (Value.slice o_3 o_3l o_3c), (Value.slice o_4 o_4l o_4c), (Value.string o_5), (Value.string o_6), (Value.string o_7), (Value.int .i64 o_8)])] w R :=
  V.calls_of_R ⟨V.assoc [], V.assocP [(3, V.line [0, 1, 3, 4, 2, 5, 6, 7, 8, 9, 10]), (7, V.line [0, 1, 3, 4, 5, 6, 2, 7, 8, 9, 10, 11, 12]), (11, V.line [0, 1, 3, 4, 2, 5, 6, 7, 8, 9, 10]), (15, V.line [0, 1, 3, 4, 2, 5, 6, 7]), (18, (V.Plan.one 0 (V.Plan.one 1 (V.Plan.one 4 (V.Plan.one 5 (V.Plan.alt 2 (V.Plan.one 3 (V.Plan.one 6 (V.Plan.one 7 (V.Plan.one 8 (V.Plan.one 9 (V.Plan.one 10 (V.Plan.one 11 (V.Plan.one 12 V.Plan.done)))))))) (V.Plan.alt 3 (V.Plan.one 2 (V.Plan.one 6 (V.Plan.one 7 (V.Plan.one 8 (V.Plan.one 9 (V.Plan.one 10 (V.Plan.one 11 (V.Plan.one 12 V.Plan.done)))))))) V.Plan.stop)))))))], V.assocC [(18, ([17, 18], [V.Sh.one .slice, V.Sh.one (.int .i64)]))], V.assocS [], ⟨[], true⟩⟩ Tryz.func47 rfl (Eq.mp (by kernel_rfl) h)

theorem slices_Clone___api_Label_api_Label__nf (s_1 : Option Addr) (s_1l : Nat) (s_1c : Nat) (w : World) (R : Ending → World → Prop) (h :
  V.sel (Option.isNone s_1)
  (R (Ending.returned (Value.slice none 0 0)) w)
  (∀ w2, w2 = (World.alloc w (.cells #[] 40)) →
  ∃ A3, ∃ A3l, ∃ A3c, ∃ w4, Sem.run Tryz.prog (Builtin.append_ #[22, 22] 22 #[(Value.slice (some ⟨Array.size (World.heap w), 0, none⟩) 0 0), (Value.slice s_1 s_1l s_1c)]) w2 = .ok (Value.slice A3 A3l A3c) w4 ∧
  R (Ending.returned (Value.slice A3 A3l A3c)) w4)) :
  Calls Tryz.prog 49 #[(Value.slice s_1 s_1l s_1c)] w R :=
  V.calls_of_R ⟨V.assoc [], V.assocP [], V.assocC [], V.assocS [], ⟨[], true⟩⟩ Tryz.func49 rfl (Eq.mp (by kernel_rfl) h)

theorem labels_sorted_l1_nf (i_1 : Int) (j_2 : Int) (free0_3 : Option Addr) (w : World) (R : Ending → World → Prop) (h :
  V.ptr free0_3 fun a4 =>
  ∃ A5, ∃ A5l, ∃ A5c, World.cell? w a4 = some (Value.slice A5 A5l A5c) ∧
  V.when (decide ((0 : Int) ≤ i_1 ∧ (i_1 : Int) < ((A5l : Nat) : Int))) (V.ptr A5 fun a6 =>
  ∃ s7, World.cell? w (Addr.add (Addr.add a6 ((Int.toNat i_1) * 2)) 0) = some (Value.string s7) ∧
  V.ptr free0_3 fun a8 =>
  ∃ A9, ∃ A9l, ∃ A9c, World.cell? w a8 = some (Value.slice A9 A9l A9c) ∧
  V.when (decide ((0 : Int) ≤ j_2 ∧ (j_2 : Int) < ((A9l : Nat) : Int))) (V.ptr A9 fun a10 =>
  ∃ s11, World.cell? w (Addr.add (Addr.add a10 ((Int.toNat j_2) * 2)) 0) = some (Value.string s11) ∧
  R (Ending.returned (Value.bool (Op.bytesLess (ByteArray.toList s7) (ByteArray.toList s11)))) (World.drew w)))) :
  Calls Tryz.prog 51 #[(Value.int .i64 i_1), (Value.int .i64 j_2), (Value.pointer free0_3)] w R :=
  V.calls_of_R ⟨V.assoc [], V.assocP [(1, V.line [0, 1, 2, 3, 4, 5, 6, 7, 8, 9, 10, 11])], V.assocC [], V.assocS [], ⟨[], true⟩⟩ Tryz.func51 rfl (Eq.mp (by kernel_rfl) h)

theorem slices_Clip___api_Label_api_Label__nf (s_1 : Option Addr) (s_1l : Nat) (s_1c : Nat) (w : World) (R : Ending → World → Prop) (h :
  V.when (decide ((0 : Int) ≤ ((s_1l : Nat) : Int) ∧ (((s_1l : Nat) : Int) : Int) ≤ ((s_1c : Nat) : Int))) (V.when (decide ((0 : Int) ≤ ((s_1l : Nat) : Int) ∧ (((s_1l : Nat) : Int) : Int) ≤ (((s_1l : Nat) : Nat) : Int))) (R (Ending.returned (Value.slice (V.cut s_1 (s_1l : Nat) 0 2) ((s_1l : Nat) - 0) ((s_1l : Nat) - 0))) w))) :
  Calls Tryz.prog 52 #[(Value.slice s_1 s_1l s_1c)] w R :=
  V.calls_of_R ⟨V.assoc [], V.assocP [], V.assocC [], V.assocS [], ⟨[], true⟩⟩ Tryz.func52 rfl (Eq.mp (by kernel_rfl) h)

end Go.Proofs.YtcohengppaighaaGreatDoor
