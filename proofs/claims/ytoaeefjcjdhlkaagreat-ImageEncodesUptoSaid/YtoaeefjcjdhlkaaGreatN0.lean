/- Normal forms of the program's functions, printed by a program of mine; the kernel checks each. -/
import Derived.Test.YtoaeefjcjdhlkaaGreatProg
import Derived.Test.YtoaeefjcjdhlkaaGreatV4
set_option linter.unusedVariables false
set_option maxRecDepth 100000
namespace Go.Proofs.YtoaeefjcjdhlkaaGreat
open Go

theorem berthref26_Encode_nf (s_1 : Int) (s_2 : Int) (s_3 : Option Addr) (s_3l : Nat) (s_3c : Nat) (s_4 : Option Addr) (s_4l : Nat) (s_4c : Nat) (s_5 : Option Addr) (s_5l : Nat) (s_5c : Nat) (w : World) (R : Ending → World → Prop) (h :
  ∀ w6, w6 = (World.alloc w (.cells #[(Value.int .i64 s_1), (Value.int .i64 s_2), (Value.slice s_3 s_3l s_3c), (Value.slice s_4 s_4l s_4c), (Value.slice s_5 s_5l s_5c)] 26)) →
  ∃ n7, ∃ n8, ∃ A9, ∃ A9l, ∃ A9c, ∃ A10, ∃ A10l, ∃ A10c, ∃ A11, ∃ A11l, ∃ A11c, V.cellsC (fun a_ x_ => World.cell? w6 a_ = some x_) ⟨Array.size (World.heap w), 0, none⟩ [(Value.int .i64 n7), (Value.int .i64 n8), (Value.slice A9 A9l A9c), (Value.slice A10 A10l A10c), (Value.slice A11 A11l A11c)] ∧
  Calls Tryz.prog 23 #[(Value.agg #[(Value.int .i64 n7), (Value.int .i64 n8), (Value.slice A9 A9l A9c), (Value.slice A10 A10l A10c), (Value.slice A11 A11l A11c)])] w6 fun e13 w14 =>
  ∃ A12, ∃ A12l, ∃ A12c, e13 = Ending.returned (Value.slice A12 A12l A12c) ∧
  Calls Tryz.prog 24 #[(Value.slice A12 A12l A12c)] w14 fun e16 w17 =>
  ∃ A15, ∃ A15l, ∃ A15c, e16 = Ending.returned (Value.slice A15 A15l A15c) ∧
  ∀ w18, w18 = (World.alloc w17 (.cells #[(Value.int .u8 98), (Value.int .u8 101), (Value.int .u8 114), (Value.int .u8 116), (Value.int .u8 104), (Value.int .u8 1)] 5)) →
  ∃ A19, ∃ A19l, ∃ A19c, ∃ w20, Sem.run Tryz.prog (convert 28 28 (Value.slice (some ⟨Array.size (World.heap w17), 0, none⟩) 6 6)) w18 = .ok (Value.slice A19 A19l A19c) w20 ∧
  Calls Tryz.prog 25 #[(Value.slice A19 A19l A19c), (Value.int .u64 (IntKind.wrap .u64 (((A15l : Nat) : Int))))] w20 fun e22 w23 =>
  ∃ A21, ∃ A21l, ∃ A21c, e22 = Ending.returned (Value.slice A21 A21l A21c) ∧
  ∃ I24 : Option Addr → Nat → Nat → Int → World → Prop, ∃ μ25 : Option Addr → Nat → Nat → Int → World → Nat, I24 A21 A21l A21c 0 w23 ∧
  ∀ b_26 b_26l b_26c i_27 (j28 : Nat → Value) (w29 : World), I24 b_26 b_26l b_26c i_27 w29 →
  (V.sel (decide (i_27 < ((A15l : Nat) : Int)))
  (V.when (decide ((0 : Int) ≤ i_27 ∧ (i_27 : Int) < ((A15l : Nat) : Int))) (V.ptr A15 fun a30 =>
  ∃ s31, World.cell? w29 (Addr.add a30 ((Int.toNat i_27) * 1)) = some (Value.string s31) ∧
  Calls Tryz.prog 25 #[(Value.slice b_26 b_26l b_26c), (Value.int .u64 (IntKind.wrap .u64 (((ByteArray.size s31 : Nat) : Int))))] w29 fun e33 w34 =>
  ∃ A32, ∃ A32l, ∃ A32c, e33 = Ending.returned (Value.slice A32 A32l A32c) ∧
  V.when (decide ((0 : Int) ≤ i_27 ∧ (i_27 : Int) < ((A15l : Nat) : Int))) (V.ptr A15 fun a35 =>
  ∃ s36, World.cell? w34 (Addr.add a35 ((Int.toNat i_27) * 1)) = some (Value.string s36) ∧
  ∃ A37, ∃ A37l, ∃ A37c, ∃ w38, Sem.run Tryz.prog (Builtin.append_ #[28, 9] 28 #[(Value.slice A32 A32l A32c), (Value.string s36)]) w34 = .ok (Value.slice A37 A37l A37c) w38 ∧
  I24 A37 A37l A37c (IntKind.wrap .i64 (i_27 + 1)) w38 ∧ μ25 A37 A37l A37c (IntKind.wrap .i64 (i_27 + 1)) w38 < μ25 b_26 b_26l b_26c i_27 w29)))
  (∃ I39 : Option Addr → Nat → Nat → Int → World → Prop, ∃ μ40 : Option Addr → Nat → Nat → Int → World → Nat, I39 b_26 b_26l b_26c 0 w29 ∧
  ∀ b_41 b_41l b_41c i_42 (j43 : Nat → Value) (w44 : World), I39 b_41 b_41l b_41c i_42 w44 →
  (V.sel (decide (i_42 < ((A12l : Nat) : Int)))
  (V.when (decide ((0 : Int) ≤ i_42 ∧ (i_42 : Int) < ((A12l : Nat) : Int))) (V.ptr A12 fun a45 =>
  ∃ n46, World.cell? w44 (Addr.add (Addr.add a45 ((Int.toNat i_42) * 3)) 0) = some (Value.int .i64 n46) ∧
  V.sel (n46 == 1)
  (V.when (decide ((0 : Int) ≤ i_42 ∧ (i_42 : Int) < ((A12l : Nat) : Int))) (V.ptr A12 fun a47 =>
  ∃ n48, World.cell? w44 (Addr.add (Addr.add a47 ((Int.toNat i_42) * 3)) 1) = some (Value.int .i64 n48) ∧
  Calls Tryz.prog 25 #[(Value.slice b_41 b_41l b_41c), (Value.int .u64 (IntKind.wrap .u64 (n48)))] w44 fun e50 w51 =>
  ∃ A49, ∃ A49l, ∃ A49c, e50 = Ending.returned (Value.slice A49 A49l A49c) ∧
  I39 A49 A49l A49c (IntKind.wrap .i64 (i_42 + 1)) w51 ∧ μ40 A49 A49l A49c (IntKind.wrap .i64 (i_42 + 1)) w51 < μ40 b_41 b_41l b_41c i_42 w44))
  (V.sel (n46 == 2)
  (V.when (decide ((0 : Int) ≤ i_42 ∧ (i_42 : Int) < ((A12l : Nat) : Int))) (V.ptr A12 fun a52 =>
  ∃ n53, World.cell? w44 (Addr.add (Addr.add a52 ((Int.toNat i_42) * 3)) 1) = some (Value.int .i64 n53) ∧
  V.sel (decide (n53 ≥ 0))
  (Calls Tryz.prog 25 #[(Value.slice b_41 b_41l b_41c), (Value.int .u64 (IntKind.wrap .u64 ((IntKind.wrap .u64 (n53)) * 2)))] w44 fun e55 w56 =>
  ∃ A54, ∃ A54l, ∃ A54c, e55 = Ending.returned (Value.slice A54 A54l A54c) ∧
  I39 A54 A54l A54c (IntKind.wrap .i64 (i_42 + 1)) w56 ∧ μ40 A54 A54l A54c (IntKind.wrap .i64 (i_42 + 1)) w56 < μ40 b_41 b_41l b_41c i_42 w44)
  (Calls Tryz.prog 25 #[(Value.slice b_41 b_41l b_41c), (Value.int .u64 (IntKind.wrap .u64 ((IntKind.wrap .u64 ((IntKind.wrap .u64 ((IntKind.wrap .i64 (0 - (IntKind.wrap .i64 (n53 + 1)))))) * 2)) + 1)))] w44 fun e58 w59 =>
  ∃ A57, ∃ A57l, ∃ A57c, e58 = Ending.returned (Value.slice A57 A57l A57c) ∧
  I39 A57 A57l A57c (IntKind.wrap .i64 (i_42 + 1)) w59 ∧ μ40 A57 A57l A57c (IntKind.wrap .i64 (i_42 + 1)) w59 < μ40 b_41 b_41l b_41c i_42 w44)))
  (V.sel (n46 == 3)
  (V.when (decide ((0 : Int) ≤ i_42 ∧ (i_42 : Int) < ((A12l : Nat) : Int))) (V.ptr A12 fun a60 =>
  ∃ n61, World.cell? w44 (Addr.add (Addr.add a60 ((Int.toNat i_42) * 3)) 1) = some (Value.int .i64 n61) ∧
  ∀ w62, w62 = (World.alloc w44 (.cells #[(Value.int .u8 (IntKind.wrap .u8 (n61)))] 5)) →
  ∃ A63, ∃ A63l, ∃ A63c, ∃ w64, Sem.run Tryz.prog (Builtin.append_ #[28, 28] 28 #[(Value.slice b_41 b_41l b_41c), (Value.slice (some ⟨Array.size (World.heap w44), 0, none⟩) 1 1)]) w62 = .ok (Value.slice A63 A63l A63c) w64 ∧
  I39 A63 A63l A63c (IntKind.wrap .i64 (i_42 + 1)) w64 ∧ μ40 A63 A63l A63c (IntKind.wrap .i64 (i_42 + 1)) w64 < μ40 b_41 b_41l b_41c i_42 w44))
  (V.when (decide ((0 : Int) ≤ i_42 ∧ (i_42 : Int) < ((A12l : Nat) : Int))) (V.ptr A12 fun a65 =>
  ∃ s66, World.cell? w44 (Addr.add (Addr.add a65 ((Int.toNat i_42) * 3)) 2) = some (Value.string s66) ∧
  Calls Tryz.prog 26 #[(Value.slice A15 A15l A15c), (Value.string s66)] w44 fun e68 w69 =>
  ∃ n67, e68 = Ending.returned (Value.int .i64 n67) ∧
  Calls Tryz.prog 25 #[(Value.slice b_41 b_41l b_41c), (Value.int .u64 (IntKind.wrap .u64 (n67)))] w69 fun e71 w72 =>
  ∃ A70, ∃ A70l, ∃ A70c, e71 = Ending.returned (Value.slice A70 A70l A70c) ∧
  I39 A70 A70l A70c (IntKind.wrap .i64 (i_42 + 1)) w72 ∧ μ40 A70 A70l A70c (IntKind.wrap .i64 (i_42 + 1)) w72 < μ40 b_41 b_41l b_41c i_42 w44))))))
  (Calls Tryz.prog 21 #[(Value.slice b_41 b_41l b_41c)] w44 fun e74 w75 =>
  ∃ A73, ∃ A73l, ∃ A73c, e74 = Ending.returned (Value.slice A73 A73l A73c) ∧
  V.sel (decide (((A73l : Nat) : Int) > 16777216))
  (R (Ending.returned (Value.tuple #[(Value.slice none 0 0), (Value.int .i64 265)])) w75)
  (R (Ending.returned (Value.tuple #[(Value.slice A73 A73l A73c), (Value.int .i64 0)])) w75)))))) :
  Calls Tryz.prog 13 #[(Value.agg #[(Value.int .i64 s_1), (Value.int .i64 s_2), (Value.slice s_3 s_3l s_3c), (Value.slice s_4 s_4l s_4c), (Value.slice s_5 s_5l s_5c)])] w R :=
  V.Z.calls_of_N ⟨V.assoc [(0, [6, 7]), (1, [6, 8])], V.assocP [], V.assocC [], V.assocS [], ⟨[], true⟩⟩ Tryz.func13 rfl (Eq.mp (by kernel_rfl) h)

theorem berthlaw26_CopyState_nf (s_1 : Int) (s_2 : Int) (s_3 : Option Addr) (s_3l : Nat) (s_3c : Nat) (s_4 : Option Addr) (s_4l : Nat) (s_4c : Nat) (s_5 : Option Addr) (s_5l : Nat) (s_5c : Nat) (w : World) (R : Ending → World → Prop) (h :
  ∀ w6, w6 = (World.alloc w (.cells #[(Value.int .i64 s_1), (Value.int .i64 s_2), (Value.slice s_3 s_3l s_3c), (Value.slice s_4 s_4l s_4c), (Value.slice s_5 s_5l s_5c)] 26)) →
  ∀ w7, w7 = (World.alloc w6 (.cells #[(Value.int .i64 0), (Value.int .i64 0), (Value.slice none 0 0), (Value.slice none 0 0), (Value.slice none 0 0)] 26)) →
  ∃ n8, World.cell? w7 (Addr.add ⟨Array.size (World.heap w), 0, none⟩ 0) = some (Value.int .i64 n8) ∧
  ∃ n9, World.cell? w7 (Addr.add ⟨Array.size (World.heap w), 0, none⟩ 1) = some (Value.int .i64 n9) ∧
  ∀ w10, w10 = (World.alloc w7 (.cells #[(Value.int .i64 0), (Value.int .i64 0), (Value.slice none 0 0), (Value.slice none 0 0), (Value.slice none 0 0)] 26)) →
  ∃ w11, Sem.run Tryz.prog (Instr.storeAt 26 (Value.pointer (some ⟨Array.size (World.heap w7), 0, none⟩)) (Value.agg #[(Value.int .i64 n8), (Value.int .i64 n9), (Value.slice none 0 0), (Value.slice none 0 0), (Value.slice none 0 0)])) w10 = .ok () w11 ∧
  ∃ I12 : Int → World → Prop, ∃ μ13 : Int → World → Nat, I12 0 w11 ∧
  ∀ i_14 (j15 : Nat → Value) (w16 : World), I12 i_14 w16 →
  (∃ A17, ∃ A17l, ∃ A17c, World.cell? w16 (Addr.add ⟨Array.size (World.heap w), 0, none⟩ 2) = some (Value.slice A17 A17l A17c) ∧
  V.sel (decide (i_14 < ((A17l : Nat) : Int)))
  (∃ S18 : World → Prop, S18 (World.drew w16) ∧
  ∃ A20, ∃ A20l, ∃ A20c, (∀ w19, S18 w19 → World.cell? w19 (Addr.add ⟨Array.size (World.heap w7), 0, none⟩ 2) = some (Value.slice A20 A20l A20c)) ∧
  ∃ A21, ∃ A21l, ∃ A21c, (∀ w19, S18 w19 → World.cell? w19 (Addr.add ⟨Array.size (World.heap w), 0, none⟩ 2) = some (Value.slice A21 A21l A21c)) ∧
  V.when (decide ((0 : Int) ≤ i_14 ∧ (i_14 : Int) < ((A21l : Nat) : Int))) (V.ptr A21 fun a22 =>
  ∃ s23, ∃ A24, ∃ A24l, ∃ A24c, ∃ A25, ∃ A25l, ∃ A25c, ∃ A26, ∃ A26l, ∃ A26c, ∃ b27, V.cellsC (fun a_ x_ => ∀ w19, S18 w19 → World.cell? w19 a_ = some x_) (Addr.add a22 ((Int.toNat i_14) * 5)) [(Value.string s23), (Value.slice A24 A24l A24c), (Value.slice A25 A25l A25c), (Value.slice A26 A26l A26c), (Value.bool b27)] ∧
  Calls Tryz.prog 27 #[(Value.agg #[(Value.string s23), (Value.slice A24 A24l A24c), (Value.slice A25 A25l A25c), (Value.slice A26 A26l A26c), (Value.bool b27)])] (World.drew w16) fun e33 w34 =>
  ∃ s28, ∃ A29, ∃ A29l, ∃ A29c, ∃ A30, ∃ A30l, ∃ A30c, ∃ A31, ∃ A31l, ∃ A31c, ∃ b32, e33 = Ending.returned (Value.agg #[(Value.string s28), (Value.slice A29 A29l A29c), (Value.slice A30 A30l A30c), (Value.slice A31 A31l A31c), (Value.bool b32)]) ∧
  S18 w34 ∧
  ∀ w35, w35 = (World.alloc w34 (.cells #[(Value.string s28), (Value.slice A29 A29l A29c), (Value.slice A30 A30l A30c), (Value.slice A31 A31l A31c), (Value.bool b32)] 53)) →
  S18 w35 ∧
  ∃ A36, ∃ A36l, ∃ A36c, ∃ w37, Sem.run Tryz.prog (Builtin.append_ #[22, 22] 22 #[(Value.slice A20 A20l A20c), (Value.slice (some ⟨Array.size (World.heap w34), 0, none⟩) 1 1)]) w35 = .ok (Value.slice A36 A36l A36c) w37 ∧
  S18 w37 ∧
  ∃ w38, Sem.run Tryz.prog (Instr.storeAt 22 (Value.pointer (some (Addr.add ⟨Array.size (World.heap w7), 0, none⟩ 2))) (Value.slice A36 A36l A36c)) w37 = .ok () w38 ∧
  I12 (IntKind.wrap .i64 (i_14 + 1)) w38 ∧ μ13 (IntKind.wrap .i64 (i_14 + 1)) w38 < μ13 i_14 w16))
  (∃ I39 : Int → World → Prop, ∃ μ40 : Int → World → Nat, I39 0 w16 ∧
  ∀ i_41 (j42 : Nat → Value) (w43 : World), I39 i_41 w43 →
  (∃ A44, ∃ A44l, ∃ A44c, World.cell? w43 (Addr.add ⟨Array.size (World.heap w), 0, none⟩ 3) = some (Value.slice A44 A44l A44c) ∧
  V.sel (decide (i_41 < ((A44l : Nat) : Int)))
  (∃ S45 : World → Prop, S45 (World.drew w43) ∧
  ∃ A47, ∃ A47l, ∃ A47c, (∀ w46, S45 w46 → World.cell? w46 (Addr.add ⟨Array.size (World.heap w7), 0, none⟩ 3) = some (Value.slice A47 A47l A47c)) ∧
  ∃ A48, ∃ A48l, ∃ A48c, (∀ w46, S45 w46 → World.cell? w46 (Addr.add ⟨Array.size (World.heap w), 0, none⟩ 3) = some (Value.slice A48 A48l A48c)) ∧
  V.when (decide ((0 : Int) ≤ i_41 ∧ (i_41 : Int) < ((A48l : Nat) : Int))) (V.ptr A48 fun a49 =>
  ∃ s50, ∃ A51, ∃ A51l, ∃ A51c, ∃ A52, ∃ A52l, ∃ A52c, ∃ A53, ∃ A53l, ∃ A53c, ∃ s54, ∃ A55, ∃ A55l, ∃ A55c, ∃ A56, ∃ A56l, ∃ A56c, ∃ n57, V.cellsC (fun a_ x_ => ∀ w46, S45 w46 → World.cell? w46 a_ = some x_) (Addr.add (Addr.add a49 ((Int.toNat i_41) * 9)) 0) [(Value.string s50), (Value.slice A51 A51l A51c), (Value.slice A52 A52l A52c), (Value.slice A53 A53l A53c), (Value.string s54), (Value.slice A55 A55l A55c), (Value.slice A56 A56l A56c), (Value.int .i64 n57)] ∧
  ∃ A58, ∃ A58l, ∃ A58c, (∀ w46, S45 w46 → World.cell? w46 (Addr.add ⟨Array.size (World.heap w), 0, none⟩ 3) = some (Value.slice A58 A58l A58c)) ∧
  V.when (decide ((0 : Int) ≤ i_41 ∧ (i_41 : Int) < ((A58l : Nat) : Int))) (V.ptr A58 fun a59 =>
  ∃ s60, (∀ w46, S45 w46 → World.cell? w46 (Addr.add (Addr.add a59 ((Int.toNat i_41) * 9)) 8) = some (Value.string s60)) ∧
  Calls Tryz.prog 28 #[(Value.agg #[(Value.string s50), (Value.slice A51 A51l A51c), (Value.slice A52 A52l A52c), (Value.slice A53 A53l A53c), (Value.string s54), (Value.slice A55 A55l A55c), (Value.slice A56 A56l A56c), (Value.int .i64 n57)])] (World.drew w43) fun e69 w70 =>
  ∃ s61, ∃ A62, ∃ A62l, ∃ A62c, ∃ A63, ∃ A63l, ∃ A63c, ∃ A64, ∃ A64l, ∃ A64c, ∃ s65, ∃ A66, ∃ A66l, ∃ A66c, ∃ A67, ∃ A67l, ∃ A67c, ∃ n68, e69 = Ending.returned (Value.agg #[(Value.string s61), (Value.slice A62 A62l A62c), (Value.slice A63 A63l A63c), (Value.slice A64 A64l A64c), (Value.string s65), (Value.slice A66 A66l A66c), (Value.slice A67 A67l A67c), (Value.int .i64 n68)]) ∧
  S45 w70 ∧
  ∀ w71, w71 = (World.alloc w70 (.cells #[(Value.string s61), (Value.slice A62 A62l A62c), (Value.slice A63 A63l A63c), (Value.slice A64 A64l A64c), (Value.string s65), (Value.slice A66 A66l A66c), (Value.slice A67 A67l A67c), (Value.int .i64 n68), (Value.string s60)] 71)) →
  S45 w71 ∧
  ∃ A72, ∃ A72l, ∃ A72c, ∃ w73, Sem.run Tryz.prog (Builtin.append_ #[23, 23] 23 #[(Value.slice A47 A47l A47c), (Value.slice (some ⟨Array.size (World.heap w70), 0, none⟩) 1 1)]) w71 = .ok (Value.slice A72 A72l A72c) w73 ∧
  S45 w73 ∧
  ∃ w74, Sem.run Tryz.prog (Instr.storeAt 23 (Value.pointer (some (Addr.add ⟨Array.size (World.heap w7), 0, none⟩ 3))) (Value.slice A72 A72l A72c)) w73 = .ok () w74 ∧
  I39 (IntKind.wrap .i64 (i_41 + 1)) w74 ∧ μ40 (IntKind.wrap .i64 (i_41 + 1)) w74 < μ40 i_41 w43)))
  (∃ I75 : Int → World → Prop, ∃ μ76 : Int → World → Nat, I75 0 w43 ∧
  ∀ i_77 (j78 : Nat → Value) (w79 : World), I75 i_77 w79 →
  (∃ A80, ∃ A80l, ∃ A80c, World.cell? w79 (Addr.add ⟨Array.size (World.heap w), 0, none⟩ 4) = some (Value.slice A80 A80l A80c) ∧
  V.sel (decide (i_77 < ((A80l : Nat) : Int)))
  (∃ A81, ∃ A81l, ∃ A81c, World.cell? w79 (Addr.add ⟨Array.size (World.heap w), 0, none⟩ 4) = some (Value.slice A81 A81l A81c) ∧
  V.when (decide ((0 : Int) ≤ i_77 ∧ (i_77 : Int) < ((A81l : Nat) : Int))) (V.ptr A81 fun a82 =>
  ∃ s83, ∃ A84, ∃ A84l, ∃ A84c, ∃ A85, ∃ A85l, ∃ A85c, ∃ A86, ∃ A86l, ∃ A86c, ∃ s87, ∃ A88, ∃ A88l, ∃ A88c, ∃ A89, ∃ A89l, ∃ A89c, ∃ n90, ∃ n91, ∃ n92, ∃ n93, ∃ b94, V.cellsC (fun a_ x_ => World.cell? w79 a_ = some x_) (Addr.add a82 ((Int.toNat i_77) * 12)) [(Value.string s83), (Value.slice A84 A84l A84c), (Value.slice A85 A85l A85c), (Value.slice A86 A86l A86c), (Value.string s87), (Value.slice A88 A88l A88c), (Value.slice A89 A89l A89c), (Value.int .i64 n90), (Value.int .i64 n91), (Value.int .i64 n92), (Value.int .i64 n93), (Value.bool b94)] ∧
  ∀ w95, w95 = (World.alloc w79 (.cells #[(Value.string ByteArray.empty), (Value.slice none 0 0), (Value.slice none 0 0), (Value.slice none 0 0), (Value.string ByteArray.empty), (Value.slice none 0 0), (Value.slice none 0 0), (Value.int .i64 0), (Value.int .i64 0), (Value.int .i64 0), (Value.int .i64 0), (Value.bool false)] 73)) →
  ∃ w96, Sem.run Tryz.prog (Instr.storeAt 73 (Value.pointer (some ⟨Array.size (World.heap w79), 0, none⟩)) (Value.agg #[(Value.string s83), (Value.slice A84 A84l A84c), (Value.slice A85 A85l A85c), (Value.slice A86 A86l A86c), (Value.string s87), (Value.slice A88 A88l A88c), (Value.slice A89 A89l A89c), (Value.int .i64 n90), (Value.int .i64 n91), (Value.int .i64 n92), (Value.int .i64 n93), (Value.bool b94)])) w95 = .ok () w96 ∧
  ∃ s97, ∃ A98, ∃ A98l, ∃ A98c, ∃ A99, ∃ A99l, ∃ A99c, ∃ A100, ∃ A100l, ∃ A100c, ∃ s101, ∃ A102, ∃ A102l, ∃ A102c, ∃ A103, ∃ A103l, ∃ A103c, ∃ n104, V.cellsC (fun a_ x_ => World.cell? w96 a_ = some x_) (Addr.add ⟨Array.size (World.heap w79), 0, none⟩ 0) [(Value.string s97), (Value.slice A98 A98l A98c), (Value.slice A99 A99l A99c), (Value.slice A100 A100l A100c), (Value.string s101), (Value.slice A102 A102l A102c), (Value.slice A103 A103l A103c), (Value.int .i64 n104)] ∧
  Calls Tryz.prog 28 #[(Value.agg #[(Value.string s97), (Value.slice A98 A98l A98c), (Value.slice A99 A99l A99c), (Value.slice A100 A100l A100c), (Value.string s101), (Value.slice A102 A102l A102c), (Value.slice A103 A103l A103c), (Value.int .i64 n104)])] w96 fun e113 w114 =>
  ∃ s105, ∃ A106, ∃ A106l, ∃ A106c, ∃ A107, ∃ A107l, ∃ A107c, ∃ A108, ∃ A108l, ∃ A108c, ∃ s109, ∃ A110, ∃ A110l, ∃ A110c, ∃ A111, ∃ A111l, ∃ A111c, ∃ n112, e113 = Ending.returned (Value.agg #[(Value.string s105), (Value.slice A106 A106l A106c), (Value.slice A107 A107l A107c), (Value.slice A108 A108l A108c), (Value.string s109), (Value.slice A110 A110l A110c), (Value.slice A111 A111l A111c), (Value.int .i64 n112)]) ∧
  ∃ w115, Sem.run Tryz.prog (Instr.storeAt 68 (Value.pointer (some (Addr.add ⟨Array.size (World.heap w79), 0, none⟩ 0))) (Value.agg #[(Value.string s105), (Value.slice A106 A106l A106c), (Value.slice A107 A107l A107c), (Value.slice A108 A108l A108c), (Value.string s109), (Value.slice A110 A110l A110c), (Value.slice A111 A111l A111c), (Value.int .i64 n112)])) w114 = .ok () w115 ∧
  ∃ A116, ∃ A116l, ∃ A116c, World.cell? w115 (Addr.add ⟨Array.size (World.heap w7), 0, none⟩ 4) = some (Value.slice A116 A116l A116c) ∧
  ∃ s117, ∃ A118, ∃ A118l, ∃ A118c, ∃ A119, ∃ A119l, ∃ A119c, ∃ A120, ∃ A120l, ∃ A120c, ∃ s121, ∃ A122, ∃ A122l, ∃ A122c, ∃ A123, ∃ A123l, ∃ A123c, ∃ n124, ∃ n125, ∃ n126, ∃ n127, ∃ b128, V.cellsC (fun a_ x_ => World.cell? w115 a_ = some x_) ⟨Array.size (World.heap w79), 0, none⟩ [(Value.string s117), (Value.slice A118 A118l A118c), (Value.slice A119 A119l A119c), (Value.slice A120 A120l A120c), (Value.string s121), (Value.slice A122 A122l A122c), (Value.slice A123 A123l A123c), (Value.int .i64 n124), (Value.int .i64 n125), (Value.int .i64 n126), (Value.int .i64 n127), (Value.bool b128)] ∧
  ∀ w129, w129 = (World.alloc w115 (.cells #[(Value.string s117), (Value.slice A118 A118l A118c), (Value.slice A119 A119l A119c), (Value.slice A120 A120l A120c), (Value.string s121), (Value.slice A122 A122l A122c), (Value.slice A123 A123l A123c), (Value.int .i64 n124), (Value.int .i64 n125), (Value.int .i64 n126), (Value.int .i64 n127), (Value.bool b128)] 73)) →
  ∃ A130, ∃ A130l, ∃ A130c, ∃ w131, Sem.run Tryz.prog (Builtin.append_ #[24, 24] 24 #[(Value.slice A116 A116l A116c), (Value.slice (some ⟨Array.size (World.heap w115), 0, none⟩) 1 1)]) w129 = .ok (Value.slice A130 A130l A130c) w131 ∧
  ∃ w132, Sem.run Tryz.prog (Instr.storeAt 24 (Value.pointer (some (Addr.add ⟨Array.size (World.heap w7), 0, none⟩ 4))) (Value.slice A130 A130l A130c)) w131 = .ok () w132 ∧
  I75 (IntKind.wrap .i64 (i_77 + 1)) w132 ∧ μ76 (IntKind.wrap .i64 (i_77 + 1)) w132 < μ76 i_77 w79))
  (∃ n133, ∃ n134, ∃ A135, ∃ A135l, ∃ A135c, ∃ A136, ∃ A136l, ∃ A136c, ∃ A137, ∃ A137l, ∃ A137c, V.cellsC (fun a_ x_ => World.cell? w79 a_ = some x_) ⟨Array.size (World.heap w7), 0, none⟩ [(Value.int .i64 n133), (Value.int .i64 n134), (Value.slice A135 A135l A135c), (Value.slice A136 A136l A136c), (Value.slice A137 A137l A137c)] ∧
  ∃ w138, Sem.run Tryz.prog (Instr.storeAt 26 (Value.pointer (some ⟨Array.size (World.heap w6), 0, none⟩)) (Value.agg #[(Value.int .i64 n133), (Value.int .i64 n134), (Value.slice A135 A135l A135c), (Value.slice A136 A136l A136c), (Value.slice A137 A137l A137c)])) w79 = .ok () w138 ∧
  ∃ n139, ∃ n140, ∃ A141, ∃ A141l, ∃ A141c, ∃ A142, ∃ A142l, ∃ A142c, ∃ A143, ∃ A143l, ∃ A143c, V.cellsC (fun a_ x_ => World.cell? w138 a_ = some x_) ⟨Array.size (World.heap w6), 0, none⟩ [(Value.int .i64 n139), (Value.int .i64 n140), (Value.slice A141 A141l A141c), (Value.slice A142 A142l A142c), (Value.slice A143 A143l A143c)] ∧
  R (Ending.returned (Value.agg #[(Value.int .i64 n139), (Value.int .i64 n140), (Value.slice A141 A141l A141c), (Value.slice A142 A142l A142c), (Value.slice A143 A143l A143c)])) w138))))))) :
  Calls Tryz.prog 14 #[(Value.agg #[(Value.int .i64 s_1), (Value.int .i64 s_2), (Value.slice s_3 s_3l s_3c), (Value.slice s_4 s_4l s_4c), (Value.slice s_5 s_5l s_5c)])] w R :=
  V.Z.calls_of_N ⟨V.assoc [(0, [4]), (1, [5]), (2, [6])], V.assocP [(5, V.line [0, 1, 2, 3, 4, 5, 6, 7, 8, 9, 10, 11]), (9, V.line [0, 1, 2, 3, 4, 5, 6, 7, 9, 10, 11, 12, 13, 14, 8, 15, 16, 17, 18, 19])], V.assocC [], V.assocS [], ⟨[], true⟩⟩ Tryz.func14 rfl (Eq.mp (by kernel_rfl) h)

theorem image_Encode_nf (s_1 : Int) (s_2 : Int) (s_3 : Option Addr) (s_3l : Nat) (s_3c : Nat) (s_4 : Option Addr) (s_4l : Nat) (s_4c : Nat) (s_5 : Option Addr) (s_5l : Nat) (s_5c : Nat) (w : World) (R : Ending → World → Prop) (h :
  ∀ w6, w6 = (World.alloc w (.cells #[(Value.int .i64 s_1), (Value.int .i64 s_2), (Value.slice s_3 s_3l s_3c), (Value.slice s_4 s_4l s_4c), (Value.slice s_5 s_5l s_5c)] 26)) →
  ∀ w7, w7 = (World.alloc w6 (.map #[] 0)) →
  ∀ w8, w8 = (World.alloc w7 (.cells #[(Value.map (some (Array.size (World.heap w6)))), (Value.bool true), (Value.slice none 0 0)] 77)) →
  ∃ n9, ∃ n10, ∃ A11, ∃ A11l, ∃ A11c, ∃ A12, ∃ A12l, ∃ A12c, ∃ A13, ∃ A13l, ∃ A13c, V.cellsC (fun a_ x_ => World.cell? w8 a_ = some x_) ⟨Array.size (World.heap w), 0, none⟩ [(Value.int .i64 n9), (Value.int .i64 n10), (Value.slice A11 A11l A11c), (Value.slice A12 A12l A12c), (Value.slice A13 A13l A13c)] ∧
  Calls Tryz.prog 29 #[(Value.pointer (some ⟨Array.size (World.heap w7), 0, none⟩)), (Value.agg #[(Value.int .i64 n9), (Value.int .i64 n10), (Value.slice A11 A11l A11c), (Value.slice A12 A12l A12c), (Value.slice A13 A13l A13c)])] w8 fun e14 w15 =>
  e14 = Ending.returned undef ∧
  ∃ w16, Sem.run Tryz.prog (Instr.storeAt 4 (Value.pointer (some (Addr.add ⟨Array.size (World.heap w7), 0, none⟩ 1))) (Value.bool false)) w15 = .ok () w16 ∧
  ∃ m17, World.cell? w16 (Addr.add ⟨Array.size (World.heap w7), 0, none⟩ 0) = some (Value.map m17) ∧
  Calls Tryz.prog 31 #[(Value.map m17)] w16 fun e19 w20 =>
  ∃ f18, ∃ f18a, ∃ f18c, e19 = Ending.returned (Value.func (.func f18) f18a f18c) ∧
  Calls Tryz.prog 30 #[(Value.func (.func f18) f18a f18c)] w20 fun e22 w23 =>
  ∃ A21, ∃ A21l, ∃ A21c, e22 = Ending.returned (Value.slice A21 A21l A21c) ∧
  ∃ A24, ∃ A24l, ∃ A24c, World.cell? w23 (Addr.add ⟨Array.size (World.heap w7), 0, none⟩ 2) = some (Value.slice A24 A24l A24c) ∧
  ∃ A25, ∃ A25l, ∃ A25c, ∃ w26, Sem.run Tryz.prog (Builtin.append_ #[28, 9] 28 #[(Value.slice A24 A24l A24c), (Value.string ⟨#[98, 101, 114, 116, 104, 1]⟩)]) w23 = .ok (Value.slice A25 A25l A25c) w26 ∧
  ∃ w27, Sem.run Tryz.prog (Instr.storeAt 28 (Value.pointer (some (Addr.add ⟨Array.size (World.heap w7), 0, none⟩ 2))) (Value.slice A25 A25l A25c)) w26 = .ok () w27 ∧
  Calls Tryz.prog 32 #[(Value.pointer (some ⟨Array.size (World.heap w7), 0, none⟩)), (Value.int .u64 (IntKind.wrap .u64 (((A21l : Nat) : Int))))] w27 fun e28 w29 =>
  e28 = Ending.returned undef ∧
  ∃ I30 : Int → World → Prop, ∃ μ31 : Int → World → Nat, I30 0 w29 ∧
  ∀ t39_32 (j33 : Nat → Value) (w34 : World), I30 t39_32 w34 →
  (V.sel (decide (t39_32 < ((A21l : Nat) : Int)))
  (V.when (decide ((0 : Int) ≤ t39_32 ∧ (t39_32 : Int) < ((A21l : Nat) : Int))) (V.ptr A21 fun a35 =>
  ∃ s36, World.cell? w34 (Addr.add a35 ((Int.toNat t39_32) * 1)) = some (Value.string s36) ∧
  ∃ m37, World.cell? w34 (Addr.add ⟨Array.size (World.heap w7), 0, none⟩ 0) = some (Value.map m37) ∧
  ∃ w38, Sem.run Tryz.prog (Instr.mapUpdate 75 (Value.map m37) (Value.string s36) (Value.int .i64 t39_32)) w34 = .ok () w38 ∧
  Calls Tryz.prog 32 #[(Value.pointer (some ⟨Array.size (World.heap w7), 0, none⟩)), (Value.int .u64 (IntKind.wrap .u64 (((ByteArray.size s36 : Nat) : Int))))] w38 fun e39 w40 =>
  e39 = Ending.returned undef ∧
  ∃ A41, ∃ A41l, ∃ A41c, World.cell? w40 (Addr.add ⟨Array.size (World.heap w7), 0, none⟩ 2) = some (Value.slice A41 A41l A41c) ∧
  ∃ A42, ∃ A42l, ∃ A42c, ∃ w43, Sem.run Tryz.prog (Builtin.append_ #[28, 9] 28 #[(Value.slice A41 A41l A41c), (Value.string s36)]) w40 = .ok (Value.slice A42 A42l A42c) w43 ∧
  ∃ w44, Sem.run Tryz.prog (Instr.storeAt 28 (Value.pointer (some (Addr.add ⟨Array.size (World.heap w7), 0, none⟩ 2))) (Value.slice A42 A42l A42c)) w43 = .ok () w44 ∧
  I30 (IntKind.wrap .i64 (t39_32 + 1)) w44 ∧ μ31 (IntKind.wrap .i64 (t39_32 + 1)) w44 < μ31 t39_32 w34))
  (∃ n45, ∃ n46, ∃ A47, ∃ A47l, ∃ A47c, ∃ A48, ∃ A48l, ∃ A48c, ∃ A49, ∃ A49l, ∃ A49c, V.cellsC (fun a_ x_ => World.cell? w34 a_ = some x_) ⟨Array.size (World.heap w), 0, none⟩ [(Value.int .i64 n45), (Value.int .i64 n46), (Value.slice A47 A47l A47c), (Value.slice A48 A48l A48c), (Value.slice A49 A49l A49c)] ∧
  Calls Tryz.prog 29 #[(Value.pointer (some ⟨Array.size (World.heap w7), 0, none⟩)), (Value.agg #[(Value.int .i64 n45), (Value.int .i64 n46), (Value.slice A47 A47l A47c), (Value.slice A48 A48l A48c), (Value.slice A49 A49l A49c)])] w34 fun e50 w51 =>
  e50 = Ending.returned undef ∧
  ∃ A52, ∃ A52l, ∃ A52c, World.cell? w51 (Addr.add ⟨Array.size (World.heap w7), 0, none⟩ 2) = some (Value.slice A52 A52l A52c) ∧
  Calls Tryz.prog 33 #[(Value.slice A52 A52l A52c)] w51 fun e54 w55 =>
  ∃ n53, e54 = Ending.returned (Value.int .u64 n53) ∧
  ∃ I56 : Int → Int → World → Prop, ∃ μ57 : Int → Int → World → Nat, I56 n53 0 w55 ∧
  ∀ h_58 t73_59 (j60 : Nat → Value) (w61 : World), I56 h_58 t73_59 w61 →
  (V.sel (decide (t73_59 < 8))
  (∃ A62, ∃ A62l, ∃ A62c, World.cell? w61 (Addr.add ⟨Array.size (World.heap w7), 0, none⟩ 2) = some (Value.slice A62 A62l A62c) ∧
  ∀ w63, w63 = (World.alloc w61 (.cells #[(Value.int .u8 (IntKind.wrap .u8 (h_58)))] 5)) →
  ∃ A64, ∃ A64l, ∃ A64c, ∃ w65, Sem.run Tryz.prog (Builtin.append_ #[28, 28] 28 #[(Value.slice A62 A62l A62c), (Value.slice (some ⟨Array.size (World.heap w61), 0, none⟩) 1 1)]) w63 = .ok (Value.slice A64 A64l A64c) w65 ∧
  ∃ w66, Sem.run Tryz.prog (Instr.storeAt 28 (Value.pointer (some (Addr.add ⟨Array.size (World.heap w7), 0, none⟩ 2))) (Value.slice A64 A64l A64c)) w65 = .ok () w66 ∧
  I56 (Int.fdiv h_58 (2 ^ 8)) (IntKind.wrap .i64 (t73_59 + 1)) w66 ∧ μ57 (Int.fdiv h_58 (2 ^ 8)) (IntKind.wrap .i64 (t73_59 + 1)) w66 < μ57 h_58 t73_59 w61)
  (∃ A67, ∃ A67l, ∃ A67c, World.cell? w61 (Addr.add ⟨Array.size (World.heap w7), 0, none⟩ 2) = some (Value.slice A67 A67l A67c) ∧
  V.sel (decide (((A67l : Nat) : Int) > 16777216))
  (R (Ending.returned (Value.tuple #[(Value.slice none 0 0), (Value.int .i64 265)])) w61)
  (∃ A68, ∃ A68l, ∃ A68c, World.cell? w61 (Addr.add ⟨Array.size (World.heap w7), 0, none⟩ 2) = some (Value.slice A68 A68l A68c) ∧
  R (Ending.returned (Value.tuple #[(Value.slice A68 A68l A68c), (Value.int .i64 0)])) w61)))))) :
  Calls Tryz.prog 15 #[(Value.agg #[(Value.int .i64 s_1), (Value.int .i64 s_2), (Value.slice s_3 s_3l s_3c), (Value.slice s_4 s_4l s_4c), (Value.slice s_5 s_5l s_5c)])] w R :=
  V.Z.calls_of_N ⟨V.assoc [(0, [39]), (1, [8, 73])], V.assocP [], V.assocC [], V.assocS [], ⟨[], true⟩⟩ Tryz.func15 rfl (Eq.mp (by kernel_rfl) h)

theorem bytes_Equal_nf (a_1 : Option Addr) (a_1l : Nat) (a_1c : Nat) (b_2 : Option Addr) (b_2l : Nat) (b_2c : Nat) (w : World) (R : Ending → World → Prop) (h :
  ∃ s3, ∃ w4, Sem.run Tryz.prog (convert 28 9 (Value.slice a_1 a_1l a_1c)) w = .ok (Value.string s3) w4 ∧
  ∃ s5, ∃ w6, Sem.run Tryz.prog (convert 28 9 (Value.slice b_2 b_2l b_2c)) w4 = .ok (Value.string s5) w6 ∧
  R (Ending.returned (Value.bool (ByteArray.toList s3 == ByteArray.toList s5))) w6) :
  Calls Tryz.prog 16 #[(Value.slice a_1 a_1l a_1c), (Value.slice b_2 b_2l b_2c)] w R :=
  V.Z.calls_of_N ⟨V.assoc [], V.assocP [], V.assocC [], V.assocS [], ⟨[], true⟩⟩ Tryz.func16 rfl (Eq.mp (by kernel_rfl) h)

theorem berthlaw26_size_nf (st_1 : Int) (st_2 : Int) (st_3 : Option Addr) (st_3l : Nat) (st_3c : Nat) (st_4 : Option Addr) (st_4l : Nat) (st_4c : Nat) (st_5 : Option Addr) (st_5l : Nat) (st_5c : Nat) (w : World) (R : Ending → World → Prop) (h :
  ∀ w6, w6 = (World.alloc w (.cells #[(Value.int .i64 st_1), (Value.int .i64 st_2), (Value.slice st_3 st_3l st_3c), (Value.slice st_4 st_4l st_4c), (Value.slice st_5 st_5l st_5c)] 26)) →
  ∃ I7 : Int → Int → World → Prop, ∃ μ8 : Int → Int → World → Nat, I7 100 0 w6 ∧
  ∀ n_9 i_10 (j11 : Nat → Value) (w12 : World), I7 n_9 i_10 w12 →
  (∃ A13, ∃ A13l, ∃ A13c, World.cell? w12 (Addr.add ⟨Array.size (World.heap w), 0, none⟩ 2) = some (Value.slice A13 A13l A13c) ∧
  V.sel (decide (i_10 < ((A13l : Nat) : Int)))
  (∃ A14, ∃ A14l, ∃ A14c, World.cell? w12 (Addr.add ⟨Array.size (World.heap w), 0, none⟩ 2) = some (Value.slice A14 A14l A14c) ∧
  V.when (decide ((0 : Int) ≤ i_10 ∧ (i_10 : Int) < ((A14l : Nat) : Int))) (V.ptr A14 fun a15 =>
  ∃ s16, ∃ A17, ∃ A17l, ∃ A17c, ∃ A18, ∃ A18l, ∃ A18c, ∃ A19, ∃ A19l, ∃ A19c, ∃ b20, V.cellsC (fun a_ x_ => World.cell? w12 a_ = some x_) (Addr.add a15 ((Int.toNat i_10) * 5)) [(Value.string s16), (Value.slice A17 A17l A17c), (Value.slice A18 A18l A18c), (Value.slice A19 A19l A19c), (Value.bool b20)] ∧
  ∀ w21, w21 = (World.alloc w12 (.cells #[(Value.string ByteArray.empty), (Value.slice none 0 0), (Value.slice none 0 0), (Value.slice none 0 0), (Value.bool false)] 53)) →
  ∃ w22, Sem.run Tryz.prog (Instr.storeAt 53 (Value.pointer (some ⟨Array.size (World.heap w12), 0, none⟩)) (Value.agg #[(Value.string s16), (Value.slice A17 A17l A17c), (Value.slice A18 A18l A18c), (Value.slice A19 A19l A19c), (Value.bool b20)])) w21 = .ok () w22 ∧
  ∃ s23, World.cell? w22 (Addr.add ⟨Array.size (World.heap w12), 0, none⟩ 0) = some (Value.string s23) ∧
  V.lt (IntKind.wrap .i64 (n_9 + (IntKind.wrap .i64 (60 + ((ByteArray.size s23 : Nat) : Int))))) fun x24 =>
  ∃ I25 : Int → Int → World → Prop, ∃ μ26 : Int → Int → World → Nat, I25 x24 0 w22 ∧
  ∀ n_27 j_28 (j29 : Nat → Value) (w30 : World), I25 n_27 j_28 w30 →
  (∃ A31, ∃ A31l, ∃ A31c, World.cell? w30 (Addr.add ⟨Array.size (World.heap w12), 0, none⟩ 1) = some (Value.slice A31 A31l A31c) ∧
  V.sel (decide (j_28 < ((A31l : Nat) : Int)))
  (∃ A32, ∃ A32l, ∃ A32c, World.cell? w30 (Addr.add ⟨Array.size (World.heap w12), 0, none⟩ 1) = some (Value.slice A32 A32l A32c) ∧
  V.when (decide ((0 : Int) ≤ j_28 ∧ (j_28 : Int) < ((A32l : Nat) : Int))) (V.ptr A32 fun a33 =>
  ∃ s34, World.cell? w30 (Addr.add (Addr.add a33 ((Int.toNat j_28) * 2)) 0) = some (Value.string s34) ∧
  ∃ A35, ∃ A35l, ∃ A35c, World.cell? w30 (Addr.add ⟨Array.size (World.heap w12), 0, none⟩ 1) = some (Value.slice A35 A35l A35c) ∧
  V.when (decide ((0 : Int) ≤ j_28 ∧ (j_28 : Int) < ((A35l : Nat) : Int))) (V.ptr A35 fun a36 =>
  ∃ s37, World.cell? w30 (Addr.add (Addr.add a36 ((Int.toNat j_28) * 2)) 1) = some (Value.string s37) ∧
  V.lt (IntKind.wrap .i64 (n_27 + (IntKind.wrap .i64 ((IntKind.wrap .i64 (40 + ((ByteArray.size s34 : Nat) : Int))) + ((ByteArray.size s37 : Nat) : Int))))) fun x38 =>
  I25 x38 (IntKind.wrap .i64 (j_28 + 1)) (World.drew w30) ∧ μ26 x38 (IntKind.wrap .i64 (j_28 + 1)) (World.drew w30) < μ26 n_27 j_28 w30)))
  (∃ I39 : Int → Int → World → Prop, ∃ μ40 : Int → Int → World → Nat, I39 n_27 0 w30 ∧
  ∀ n_41 j_42 (j43 : Nat → Value) (w44 : World), I39 n_41 j_42 w44 →
  (∃ A45, ∃ A45l, ∃ A45c, World.cell? w44 (Addr.add ⟨Array.size (World.heap w12), 0, none⟩ 2) = some (Value.slice A45 A45l A45c) ∧
  V.sel (decide (j_42 < ((A45l : Nat) : Int)))
  (∃ A46, ∃ A46l, ∃ A46c, World.cell? w44 (Addr.add ⟨Array.size (World.heap w12), 0, none⟩ 2) = some (Value.slice A46 A46l A46c) ∧
  V.when (decide ((0 : Int) ≤ j_42 ∧ (j_42 : Int) < ((A46l : Nat) : Int))) (V.ptr A46 fun a47 =>
  ∃ s48, World.cell? w44 (Addr.add (Addr.add a47 ((Int.toNat j_42) * 3)) 0) = some (Value.string s48) ∧
  ∃ A49, ∃ A49l, ∃ A49c, World.cell? w44 (Addr.add ⟨Array.size (World.heap w12), 0, none⟩ 2) = some (Value.slice A49 A49l A49c) ∧
  V.when (decide ((0 : Int) ≤ j_42 ∧ (j_42 : Int) < ((A49l : Nat) : Int))) (V.ptr A49 fun a50 =>
  ∃ s51, World.cell? w44 (Addr.add (Addr.add a50 ((Int.toNat j_42) * 3)) 1) = some (Value.string s51) ∧
  ∃ A52, ∃ A52l, ∃ A52c, World.cell? w44 (Addr.add ⟨Array.size (World.heap w12), 0, none⟩ 2) = some (Value.slice A52 A52l A52c) ∧
  V.when (decide ((0 : Int) ≤ j_42 ∧ (j_42 : Int) < ((A52l : Nat) : Int))) (V.ptr A52 fun a53 =>
  ∃ s54, World.cell? w44 (Addr.add (Addr.add a53 ((Int.toNat j_42) * 3)) 2) = some (Value.string s54) ∧
  V.lt (IntKind.wrap .i64 (n_41 + (IntKind.wrap .i64 ((IntKind.wrap .i64 ((IntKind.wrap .i64 (60 + ((ByteArray.size s48 : Nat) : Int))) + ((ByteArray.size s51 : Nat) : Int))) + ((ByteArray.size s54 : Nat) : Int))))) fun x55 =>
  I39 x55 (IntKind.wrap .i64 (j_42 + 1)) (World.drew w44) ∧ μ40 x55 (IntKind.wrap .i64 (j_42 + 1)) (World.drew w44) < μ40 n_41 j_42 w44))))
  (∃ I56 : Int → Int → World → Prop, ∃ μ57 : Int → Int → World → Nat, I56 n_41 0 w44 ∧
  ∀ n_58 j_59 (j60 : Nat → Value) (w61 : World), I56 n_58 j_59 w61 →
  (∃ A62, ∃ A62l, ∃ A62c, World.cell? w61 (Addr.add ⟨Array.size (World.heap w12), 0, none⟩ 3) = some (Value.slice A62 A62l A62c) ∧
  V.sel (decide (j_59 < ((A62l : Nat) : Int)))
  (∃ A63, ∃ A63l, ∃ A63c, World.cell? w61 (Addr.add ⟨Array.size (World.heap w12), 0, none⟩ 3) = some (Value.slice A63 A63l A63c) ∧
  V.when (decide ((0 : Int) ≤ j_59 ∧ (j_59 : Int) < ((A63l : Nat) : Int))) (V.ptr A63 fun a64 =>
  ∃ s65, World.cell? w61 (Addr.add (Addr.add a64 ((Int.toNat j_59) * 2)) 0) = some (Value.string s65) ∧
  V.lt (IntKind.wrap .i64 (n_58 + (IntKind.wrap .i64 (40 + ((ByteArray.size s65 : Nat) : Int))))) fun x66 =>
  I56 x66 (IntKind.wrap .i64 (j_59 + 1)) w61 ∧ μ57 x66 (IntKind.wrap .i64 (j_59 + 1)) w61 < μ57 n_58 j_59 w61))
  (I7 n_58 (IntKind.wrap .i64 (i_10 + 1)) w61 ∧ μ8 n_58 (IntKind.wrap .i64 (i_10 + 1)) w61 < μ8 n_9 i_10 w12))))))))
  (∃ I67 : Int → Int → World → Prop, ∃ μ68 : Int → Int → World → Nat, I67 n_9 0 w12 ∧
  ∀ n_69 i_70 (j71 : Nat → Value) (w72 : World), I67 n_69 i_70 w72 →
  (∃ A73, ∃ A73l, ∃ A73c, World.cell? w72 (Addr.add ⟨Array.size (World.heap w), 0, none⟩ 3) = some (Value.slice A73 A73l A73c) ∧
  V.sel (decide (i_70 < ((A73l : Nat) : Int)))
  (∃ S74 : World → Prop, S74 (World.drew w72) ∧
  ∃ A76, ∃ A76l, ∃ A76c, (∀ w75, S74 w75 → World.cell? w75 (Addr.add ⟨Array.size (World.heap w), 0, none⟩ 3) = some (Value.slice A76 A76l A76c)) ∧
  V.when (decide ((0 : Int) ≤ i_70 ∧ (i_70 : Int) < ((A76l : Nat) : Int))) (V.ptr A76 fun a77 =>
  ∃ s78, (∀ w75, S74 w75 → World.cell? w75 (Addr.add (Addr.add a77 ((Int.toNat i_70) * 9)) 8) = some (Value.string s78)) ∧
  ∃ A79, ∃ A79l, ∃ A79c, (∀ w75, S74 w75 → World.cell? w75 (Addr.add ⟨Array.size (World.heap w), 0, none⟩ 3) = some (Value.slice A79 A79l A79c)) ∧
  V.when (decide ((0 : Int) ≤ i_70 ∧ (i_70 : Int) < ((A79l : Nat) : Int))) (V.ptr A79 fun a80 =>
  ∃ s81, ∃ A82, ∃ A82l, ∃ A82c, ∃ A83, ∃ A83l, ∃ A83c, ∃ A84, ∃ A84l, ∃ A84c, ∃ s85, ∃ A86, ∃ A86l, ∃ A86c, ∃ A87, ∃ A87l, ∃ A87c, ∃ n88, V.cellsC (fun a_ x_ => ∀ w75, S74 w75 → World.cell? w75 a_ = some x_) (Addr.add (Addr.add a80 ((Int.toNat i_70) * 9)) 0) [(Value.string s81), (Value.slice A82 A82l A82c), (Value.slice A83 A83l A83c), (Value.slice A84 A84l A84c), (Value.string s85), (Value.slice A86 A86l A86c), (Value.slice A87 A87l A87c), (Value.int .i64 n88)] ∧
  Calls Tryz.prog 34 #[(Value.agg #[(Value.string s81), (Value.slice A82 A82l A82c), (Value.slice A83 A83l A83c), (Value.slice A84 A84l A84c), (Value.string s85), (Value.slice A86 A86l A86c), (Value.slice A87 A87l A87c), (Value.int .i64 n88)])] (World.drew w72) fun e90 w91 =>
  ∃ n89, e90 = Ending.returned (Value.int .i64 n89) ∧
  S74 w91 ∧
  V.lt (IntKind.wrap .i64 (n_69 + (IntKind.wrap .i64 ((IntKind.wrap .i64 (20 + ((ByteArray.size s78 : Nat) : Int))) + n89)))) fun x92 =>
  I67 x92 (IntKind.wrap .i64 (i_70 + 1)) w91 ∧ μ68 x92 (IntKind.wrap .i64 (i_70 + 1)) w91 < μ68 n_69 i_70 w72)))
  (∃ I93 : Int → Int → World → Prop, ∃ μ94 : Int → Int → World → Nat, I93 n_69 0 w72 ∧
  ∀ n_95 i_96 (j97 : Nat → Value) (w98 : World), I93 n_95 i_96 w98 →
  (∃ A99, ∃ A99l, ∃ A99c, World.cell? w98 (Addr.add ⟨Array.size (World.heap w), 0, none⟩ 4) = some (Value.slice A99 A99l A99c) ∧
  V.sel (decide (i_96 < ((A99l : Nat) : Int)))
  (∃ A100, ∃ A100l, ∃ A100c, World.cell? w98 (Addr.add ⟨Array.size (World.heap w), 0, none⟩ 4) = some (Value.slice A100 A100l A100c) ∧
  V.when (decide ((0 : Int) ≤ i_96 ∧ (i_96 : Int) < ((A100l : Nat) : Int))) (V.ptr A100 fun a101 =>
  ∃ s102, ∃ A103, ∃ A103l, ∃ A103c, ∃ A104, ∃ A104l, ∃ A104c, ∃ A105, ∃ A105l, ∃ A105c, ∃ s106, ∃ A107, ∃ A107l, ∃ A107c, ∃ A108, ∃ A108l, ∃ A108c, ∃ n109, V.cellsC (fun a_ x_ => World.cell? w98 a_ = some x_) (Addr.add (Addr.add a101 ((Int.toNat i_96) * 12)) 0) [(Value.string s102), (Value.slice A103 A103l A103c), (Value.slice A104 A104l A104c), (Value.slice A105 A105l A105c), (Value.string s106), (Value.slice A107 A107l A107c), (Value.slice A108 A108l A108c), (Value.int .i64 n109)] ∧
  Calls Tryz.prog 34 #[(Value.agg #[(Value.string s102), (Value.slice A103 A103l A103c), (Value.slice A104 A104l A104c), (Value.slice A105 A105l A105c), (Value.string s106), (Value.slice A107 A107l A107c), (Value.slice A108 A108l A108c), (Value.int .i64 n109)])] w98 fun e111 w112 =>
  ∃ n110, e111 = Ending.returned (Value.int .i64 n110) ∧
  V.lt (IntKind.wrap .i64 (n_95 + (IntKind.wrap .i64 (40 + n110)))) fun x113 =>
  I93 x113 (IntKind.wrap .i64 (i_96 + 1)) w112 ∧ μ94 x113 (IntKind.wrap .i64 (i_96 + 1)) w112 < μ94 n_95 i_96 w98))
  (R (Ending.returned (Value.int .i64 n_95)) w98))))))) :
  Calls Tryz.prog 17 #[(Value.agg #[(Value.int .i64 st_1), (Value.int .i64 st_2), (Value.slice st_3 st_3l st_3c), (Value.slice st_4 st_4l st_4c), (Value.slice st_5 st_5l st_5c)])] w R :=
  V.Z.calls_of_N ⟨V.assoc [(0, [3, 4]), (1, [3, 6]), (2, [3, 7]), (3, [3, 8]), (4, [3, 9]), (5, [3, 10])], V.assocP [(10, V.line [0, 1, 2, 3, 4, 5, 6, 7, 8, 9, 10, 11, 12, 13, 14, 15, 16, 17, 18]), (14, V.line [0, 1, 2, 3, 4, 5, 6, 7, 8, 9, 10, 11, 12, 13, 14, 15, 16, 17, 18, 19, 20, 21, 22, 23, 24, 25, 26]), (22, V.line [0, 1, 2, 3, 4, 5, 6, 7, 8, 9, 10, 11, 12, 13, 14, 15, 16, 17, 18])], V.assocC [], V.assocS [], ⟨[], true⟩⟩ Tryz.func17 rfl (Eq.mp (by kernel_rfl) h)

theorem berthlaw26_SameState_nf (a_1 : Int) (a_2 : Int) (a_3 : Option Addr) (a_3l : Nat) (a_3c : Nat) (a_4 : Option Addr) (a_4l : Nat) (a_4c : Nat) (a_5 : Option Addr) (a_5l : Nat) (a_5c : Nat) (b_6 : Int) (b_7 : Int) (b_8 : Option Addr) (b_8l : Nat) (b_8c : Nat) (b_9 : Option Addr) (b_9l : Nat) (b_9c : Nat) (b_10 : Option Addr) (b_10l : Nat) (b_10c : Nat) (w : World) (R : Ending → World → Prop) (h :
  ∀ w11, w11 = (World.alloc w (.cells #[(Value.int .i64 a_1), (Value.int .i64 a_2), (Value.slice a_3 a_3l a_3c), (Value.slice a_4 a_4l a_4c), (Value.slice a_5 a_5l a_5c)] 26)) →
  ∀ w12, w12 = (World.alloc w11 (.cells #[(Value.int .i64 b_6), (Value.int .i64 b_7), (Value.slice b_8 b_8l b_8c), (Value.slice b_9 b_9l b_9c), (Value.slice b_10 b_10l b_10c)] 26)) →
  ∃ n13, World.cell? w12 (Addr.add ⟨Array.size (World.heap w), 0, none⟩ 0) = some (Value.int .i64 n13) ∧
  ∃ n14, World.cell? w12 (Addr.add ⟨Array.size (World.heap w11), 0, none⟩ 0) = some (Value.int .i64 n14) ∧
  V.sel (n13 != n14)
  (R (Ending.returned (Value.bool false)) w12)
  (∃ n15, World.cell? w12 (Addr.add ⟨Array.size (World.heap w), 0, none⟩ 1) = some (Value.int .i64 n15) ∧
  ∃ n16, World.cell? w12 (Addr.add ⟨Array.size (World.heap w11), 0, none⟩ 1) = some (Value.int .i64 n16) ∧
  V.sel (n15 != n16)
  (R (Ending.returned (Value.bool false)) w12)
  (∃ A17, ∃ A17l, ∃ A17c, World.cell? w12 (Addr.add ⟨Array.size (World.heap w), 0, none⟩ 2) = some (Value.slice A17 A17l A17c) ∧
  ∃ A18, ∃ A18l, ∃ A18c, World.cell? w12 (Addr.add ⟨Array.size (World.heap w11), 0, none⟩ 2) = some (Value.slice A18 A18l A18c) ∧
  V.sel (((A17l : Nat) : Int) != ((A18l : Nat) : Int))
  (R (Ending.returned (Value.bool false)) w12)
  (∃ A19, ∃ A19l, ∃ A19c, World.cell? w12 (Addr.add ⟨Array.size (World.heap w), 0, none⟩ 3) = some (Value.slice A19 A19l A19c) ∧
  ∃ A20, ∃ A20l, ∃ A20c, World.cell? w12 (Addr.add ⟨Array.size (World.heap w11), 0, none⟩ 3) = some (Value.slice A20 A20l A20c) ∧
  V.sel (((A19l : Nat) : Int) != ((A20l : Nat) : Int))
  (R (Ending.returned (Value.bool false)) w12)
  (∃ A21, ∃ A21l, ∃ A21c, World.cell? w12 (Addr.add ⟨Array.size (World.heap w), 0, none⟩ 4) = some (Value.slice A21 A21l A21c) ∧
  ∃ A22, ∃ A22l, ∃ A22c, World.cell? w12 (Addr.add ⟨Array.size (World.heap w11), 0, none⟩ 4) = some (Value.slice A22 A22l A22c) ∧
  V.sel (((A21l : Nat) : Int) != ((A22l : Nat) : Int))
  (R (Ending.returned (Value.bool false)) w12)
  (∃ I23 : Int → World → Prop, ∃ μ24 : Int → World → Nat, I23 0 w12 ∧
  ∀ i_25 (j26 : Nat → Value) (w27 : World), I23 i_25 w27 →
  (∃ A28, ∃ A28l, ∃ A28c, World.cell? w27 (Addr.add ⟨Array.size (World.heap w), 0, none⟩ 2) = some (Value.slice A28 A28l A28c) ∧
  V.sel (decide (i_25 < ((A28l : Nat) : Int)))
  (∃ S29 : World → Prop, S29 (World.drew w27) ∧
  ∃ A31, ∃ A31l, ∃ A31c, (∀ w30, S29 w30 → World.cell? w30 (Addr.add ⟨Array.size (World.heap w), 0, none⟩ 2) = some (Value.slice A31 A31l A31c)) ∧
  V.when (decide ((0 : Int) ≤ i_25 ∧ (i_25 : Int) < ((A31l : Nat) : Int))) (V.ptr A31 fun a32 =>
  ∃ s33, ∃ A34, ∃ A34l, ∃ A34c, ∃ A35, ∃ A35l, ∃ A35c, ∃ A36, ∃ A36l, ∃ A36c, ∃ b37, V.cellsC (fun a_ x_ => ∀ w30, S29 w30 → World.cell? w30 a_ = some x_) (Addr.add a32 ((Int.toNat i_25) * 5)) [(Value.string s33), (Value.slice A34 A34l A34c), (Value.slice A35 A35l A35c), (Value.slice A36 A36l A36c), (Value.bool b37)] ∧
  ∃ A38, ∃ A38l, ∃ A38c, (∀ w30, S29 w30 → World.cell? w30 (Addr.add ⟨Array.size (World.heap w11), 0, none⟩ 2) = some (Value.slice A38 A38l A38c)) ∧
  V.when (decide ((0 : Int) ≤ i_25 ∧ (i_25 : Int) < ((A38l : Nat) : Int))) (V.ptr A38 fun a39 =>
  ∃ s40, ∃ A41, ∃ A41l, ∃ A41c, ∃ A42, ∃ A42l, ∃ A42c, ∃ A43, ∃ A43l, ∃ A43c, ∃ b44, V.cellsC (fun a_ x_ => ∀ w30, S29 w30 → World.cell? w30 a_ = some x_) (Addr.add a39 ((Int.toNat i_25) * 5)) [(Value.string s40), (Value.slice A41 A41l A41c), (Value.slice A42 A42l A42c), (Value.slice A43 A43l A43c), (Value.bool b44)] ∧
  Calls Tryz.prog 37 #[(Value.agg #[(Value.string s33), (Value.slice A34 A34l A34c), (Value.slice A35 A35l A35c), (Value.slice A36 A36l A36c), (Value.bool b37)]), (Value.agg #[(Value.string s40), (Value.slice A41 A41l A41c), (Value.slice A42 A42l A42c), (Value.slice A43 A43l A43c), (Value.bool b44)])] (World.drew w27) fun e46 w47 =>
  ∃ b45, e46 = Ending.returned (Value.bool b45) ∧
  S29 w47 ∧
  V.sel (!b45)
  (R (Ending.returned (Value.bool false)) w47)
  (I23 (IntKind.wrap .i64 (i_25 + 1)) w47 ∧ μ24 (IntKind.wrap .i64 (i_25 + 1)) w47 < μ24 i_25 w27))))
  (∃ I48 : Int → World → Prop, ∃ μ49 : Int → World → Nat, I48 0 w27 ∧
  ∀ i_50 (j51 : Nat → Value) (w52 : World), I48 i_50 w52 →
  (∃ A53, ∃ A53l, ∃ A53c, World.cell? w52 (Addr.add ⟨Array.size (World.heap w), 0, none⟩ 3) = some (Value.slice A53 A53l A53c) ∧
  V.sel (decide (i_50 < ((A53l : Nat) : Int)))
  (∃ S54 : World → Prop, S54 (World.drew w52) ∧
  ∃ A56, ∃ A56l, ∃ A56c, (∀ w55, S54 w55 → World.cell? w55 (Addr.add ⟨Array.size (World.heap w), 0, none⟩ 3) = some (Value.slice A56 A56l A56c)) ∧
  V.when (decide ((0 : Int) ≤ i_50 ∧ (i_50 : Int) < ((A56l : Nat) : Int))) (V.ptr A56 fun a57 =>
  ∃ s58, (∀ w55, S54 w55 → World.cell? w55 (Addr.add (Addr.add a57 ((Int.toNat i_50) * 9)) 8) = some (Value.string s58)) ∧
  ∃ A59, ∃ A59l, ∃ A59c, (∀ w55, S54 w55 → World.cell? w55 (Addr.add ⟨Array.size (World.heap w11), 0, none⟩ 3) = some (Value.slice A59 A59l A59c)) ∧
  V.when (decide ((0 : Int) ≤ i_50 ∧ (i_50 : Int) < ((A59l : Nat) : Int))) (V.ptr A59 fun a60 =>
  ∃ s61, (∀ w55, S54 w55 → World.cell? w55 (Addr.add (Addr.add a60 ((Int.toNat i_50) * 9)) 8) = some (Value.string s61)) ∧
  V.sel (!(ByteArray.toList s58 == ByteArray.toList s61))
  (R (Ending.returned (Value.bool false)) (World.drew w52))
  (∃ A62, ∃ A62l, ∃ A62c, (∀ w55, S54 w55 → World.cell? w55 (Addr.add ⟨Array.size (World.heap w), 0, none⟩ 3) = some (Value.slice A62 A62l A62c)) ∧
  V.when (decide ((0 : Int) ≤ i_50 ∧ (i_50 : Int) < ((A62l : Nat) : Int))) (V.ptr A62 fun a63 =>
  ∃ s64, ∃ A65, ∃ A65l, ∃ A65c, ∃ A66, ∃ A66l, ∃ A66c, ∃ A67, ∃ A67l, ∃ A67c, ∃ s68, ∃ A69, ∃ A69l, ∃ A69c, ∃ A70, ∃ A70l, ∃ A70c, ∃ n71, V.cellsC (fun a_ x_ => ∀ w55, S54 w55 → World.cell? w55 a_ = some x_) (Addr.add (Addr.add a63 ((Int.toNat i_50) * 9)) 0) [(Value.string s64), (Value.slice A65 A65l A65c), (Value.slice A66 A66l A66c), (Value.slice A67 A67l A67c), (Value.string s68), (Value.slice A69 A69l A69c), (Value.slice A70 A70l A70c), (Value.int .i64 n71)] ∧
  ∃ A72, ∃ A72l, ∃ A72c, (∀ w55, S54 w55 → World.cell? w55 (Addr.add ⟨Array.size (World.heap w11), 0, none⟩ 3) = some (Value.slice A72 A72l A72c)) ∧
  V.when (decide ((0 : Int) ≤ i_50 ∧ (i_50 : Int) < ((A72l : Nat) : Int))) (V.ptr A72 fun a73 =>
  ∃ s74, ∃ A75, ∃ A75l, ∃ A75c, ∃ A76, ∃ A76l, ∃ A76c, ∃ A77, ∃ A77l, ∃ A77c, ∃ s78, ∃ A79, ∃ A79l, ∃ A79c, ∃ A80, ∃ A80l, ∃ A80c, ∃ n81, V.cellsC (fun a_ x_ => ∀ w55, S54 w55 → World.cell? w55 a_ = some x_) (Addr.add (Addr.add a73 ((Int.toNat i_50) * 9)) 0) [(Value.string s74), (Value.slice A75 A75l A75c), (Value.slice A76 A76l A76c), (Value.slice A77 A77l A77c), (Value.string s78), (Value.slice A79 A79l A79c), (Value.slice A80 A80l A80c), (Value.int .i64 n81)] ∧
  Calls Tryz.prog 38 #[(Value.agg #[(Value.string s64), (Value.slice A65 A65l A65c), (Value.slice A66 A66l A66c), (Value.slice A67 A67l A67c), (Value.string s68), (Value.slice A69 A69l A69c), (Value.slice A70 A70l A70c), (Value.int .i64 n71)]), (Value.agg #[(Value.string s74), (Value.slice A75 A75l A75c), (Value.slice A76 A76l A76c), (Value.slice A77 A77l A77c), (Value.string s78), (Value.slice A79 A79l A79c), (Value.slice A80 A80l A80c), (Value.int .i64 n81)])] (World.drew w52) fun e83 w84 =>
  ∃ b82, e83 = Ending.returned (Value.bool b82) ∧
  S54 w84 ∧
  V.sel (!b82)
  (R (Ending.returned (Value.bool false)) w84)
  (I48 (IntKind.wrap .i64 (i_50 + 1)) w84 ∧ μ49 (IntKind.wrap .i64 (i_50 + 1)) w84 < μ49 i_50 w52)))))))
  (∃ I85 : Int → World → Prop, ∃ μ86 : Int → World → Nat, I85 0 w52 ∧
  ∀ i_87 (j88 : Nat → Value) (w89 : World), I85 i_87 w89 →
  (∃ A90, ∃ A90l, ∃ A90c, World.cell? w89 (Addr.add ⟨Array.size (World.heap w), 0, none⟩ 4) = some (Value.slice A90 A90l A90c) ∧
  V.sel (decide (i_87 < ((A90l : Nat) : Int)))
  (∃ S91 : World → Prop, S91 (World.drew w89) ∧
  ∃ A93, ∃ A93l, ∃ A93c, (∀ w92, S91 w92 → World.cell? w92 (Addr.add ⟨Array.size (World.heap w), 0, none⟩ 4) = some (Value.slice A93 A93l A93c)) ∧
  V.when (decide ((0 : Int) ≤ i_87 ∧ (i_87 : Int) < ((A93l : Nat) : Int))) (V.ptr A93 fun a94 =>
  ∃ s95, ∃ A96, ∃ A96l, ∃ A96c, ∃ A97, ∃ A97l, ∃ A97c, ∃ A98, ∃ A98l, ∃ A98c, ∃ s99, ∃ A100, ∃ A100l, ∃ A100c, ∃ A101, ∃ A101l, ∃ A101c, ∃ n102, ∃ n103, ∃ n104, ∃ n105, ∃ b106, V.cellsC (fun a_ x_ => ∀ w92, S91 w92 → World.cell? w92 a_ = some x_) (Addr.add a94 ((Int.toNat i_87) * 12)) [(Value.string s95), (Value.slice A96 A96l A96c), (Value.slice A97 A97l A97c), (Value.slice A98 A98l A98c), (Value.string s99), (Value.slice A100 A100l A100c), (Value.slice A101 A101l A101c), (Value.int .i64 n102), (Value.int .i64 n103), (Value.int .i64 n104), (Value.int .i64 n105), (Value.bool b106)] ∧
  ∃ A107, ∃ A107l, ∃ A107c, (∀ w92, S91 w92 → World.cell? w92 (Addr.add ⟨Array.size (World.heap w11), 0, none⟩ 4) = some (Value.slice A107 A107l A107c)) ∧
  V.when (decide ((0 : Int) ≤ i_87 ∧ (i_87 : Int) < ((A107l : Nat) : Int))) (V.ptr A107 fun a108 =>
  ∃ s109, ∃ A110, ∃ A110l, ∃ A110c, ∃ A111, ∃ A111l, ∃ A111c, ∃ A112, ∃ A112l, ∃ A112c, ∃ s113, ∃ A114, ∃ A114l, ∃ A114c, ∃ A115, ∃ A115l, ∃ A115c, ∃ n116, ∃ n117, ∃ n118, ∃ n119, ∃ b120, V.cellsC (fun a_ x_ => ∀ w92, S91 w92 → World.cell? w92 a_ = some x_) (Addr.add a108 ((Int.toNat i_87) * 12)) [(Value.string s109), (Value.slice A110 A110l A110c), (Value.slice A111 A111l A111c), (Value.slice A112 A112l A112c), (Value.string s113), (Value.slice A114 A114l A114c), (Value.slice A115 A115l A115c), (Value.int .i64 n116), (Value.int .i64 n117), (Value.int .i64 n118), (Value.int .i64 n119), (Value.bool b120)] ∧
  Calls Tryz.prog 39 #[(Value.agg #[(Value.string s95), (Value.slice A96 A96l A96c), (Value.slice A97 A97l A97c), (Value.slice A98 A98l A98c), (Value.string s99), (Value.slice A100 A100l A100c), (Value.slice A101 A101l A101c), (Value.int .i64 n102), (Value.int .i64 n103), (Value.int .i64 n104), (Value.int .i64 n105), (Value.bool b106)]), (Value.agg #[(Value.string s109), (Value.slice A110 A110l A110c), (Value.slice A111 A111l A111c), (Value.slice A112 A112l A112c), (Value.string s113), (Value.slice A114 A114l A114c), (Value.slice A115 A115l A115c), (Value.int .i64 n116), (Value.int .i64 n117), (Value.int .i64 n118), (Value.int .i64 n119), (Value.bool b120)])] (World.drew w89) fun e122 w123 =>
  ∃ b121, e122 = Ending.returned (Value.bool b121) ∧
  S91 w123 ∧
  V.sel (!b121)
  (R (Ending.returned (Value.bool false)) w123)
  (I85 (IntKind.wrap .i64 (i_87 + 1)) w123 ∧ μ86 (IntKind.wrap .i64 (i_87 + 1)) w123 < μ86 i_87 w89))))
  (R (Ending.returned (Value.bool true)) w89)))))))))))) :
  Calls Tryz.prog 19 #[(Value.agg #[(Value.int .i64 a_1), (Value.int .i64 a_2), (Value.slice a_3 a_3l a_3c), (Value.slice a_4 a_4l a_4c), (Value.slice a_5 a_5l a_5c)]), (Value.agg #[(Value.int .i64 b_6), (Value.int .i64 b_7), (Value.slice b_8 b_8l b_8c), (Value.slice b_9 b_9l b_9c), (Value.slice b_10 b_10l b_10c)])] w R :=
  V.Z.calls_of_N ⟨V.assoc [(0, [5]), (1, [6]), (2, [7])], V.assocP [(6, V.line [0, 1, 2, 3, 4, 5, 6, 7, 8, 9, 10, 11]), (11, V.line [0, 1, 2, 3, 4, 5, 6, 7, 8, 9, 10, 11, 12, 13, 14, 15, 16, 17, 18, 19, 20, 21, 22, 23, 24, 25, 26, 27, 28]), (16, V.line [0, 1, 2, 3, 4, 5, 6, 7, 8, 9, 10, 11])], V.assocC [], V.assocS [], ⟨[], true⟩⟩ Tryz.func19 rfl (Eq.mp (by kernel_rfl) h)

theorem berthref26_Signed_nf (b_1 : Option Addr) (b_1l : Nat) (b_1c : Nat) (w : World) (R : Ending → World → Prop) (h :
  Calls Tryz.prog 42 #[(Value.slice b_1 b_1l b_1c)] w fun e3 w4 =>
  ∃ n2, e3 = Ending.returned (Value.int .u64 n2) ∧
  ∃ I5 : Option Addr → Nat → Nat → Int → World → Prop, ∃ μ6 : Option Addr → Nat → Nat → Int → World → Nat, I5 b_1 b_1l b_1c 0 w4 ∧
  ∀ b_7 b_7l b_7c i_8 (j9 : Nat → Value) (w10 : World), I5 b_7 b_7l b_7c i_8 w10 →
  (V.sel (decide (i_8 < 8))
  (V.when (decide (0 ≤ (IntKind.wrap .i64 (8 * i_8)))) (∀ w11, w11 = (World.alloc w10 (.cells #[(Value.int .u8 (IntKind.wrap .u8 ((Int.fdiv n2 (2 ^ (min (Int.toNat (IntKind.wrap .i64 (8 * i_8))) 64))))))] 5)) →
  ∃ A12, ∃ A12l, ∃ A12c, ∃ w13, Sem.run Tryz.prog (Builtin.append_ #[28, 28] 28 #[(Value.slice b_7 b_7l b_7c), (Value.slice (some ⟨Array.size (World.heap w10), 0, none⟩) 1 1)]) w11 = .ok (Value.slice A12 A12l A12c) w13 ∧
  I5 A12 A12l A12c (IntKind.wrap .i64 (i_8 + 1)) w13 ∧ μ6 A12 A12l A12c (IntKind.wrap .i64 (i_8 + 1)) w13 < μ6 b_7 b_7l b_7c i_8 w10))
  (R (Ending.returned (Value.slice b_7 b_7l b_7c)) w10))) :
  Calls Tryz.prog 21 #[(Value.slice b_1 b_1l b_1c)] w R :=
  V.Z.calls_of_N ⟨V.assoc [(0, [0, 4])], V.assocP [], V.assocC [], V.assocS [], ⟨[], true⟩⟩ Tryz.func21 rfl (Eq.mp (by kernel_rfl) h)

theorem bytes_Clone_nf (b_1 : Option Addr) (b_1l : Nat) (b_1c : Nat) (w : World) (R : Ending → World → Prop) (h :
  V.sel (Option.isNone b_1)
  (R (Ending.returned (Value.slice none 0 0)) w)
  (∀ w2, w2 = (World.alloc w (.cells #[] 5)) →
  ∃ A3, ∃ A3l, ∃ A3c, ∃ w4, Sem.run Tryz.prog (Builtin.append_ #[28, 28] 28 #[(Value.slice (some ⟨Array.size (World.heap w), 0, none⟩) 0 0), (Value.slice b_1 b_1l b_1c)]) w2 = .ok (Value.slice A3 A3l A3c) w4 ∧
  R (Ending.returned (Value.slice A3 A3l A3c)) w4)) :
  Calls Tryz.prog 22 #[(Value.slice b_1 b_1l b_1c)] w R :=
  V.Z.calls_of_N ⟨V.assoc [], V.assocP [], V.assocC [], V.assocS [], ⟨[], true⟩⟩ Tryz.func22 rfl (Eq.mp (by kernel_rfl) h)

end Go.Proofs.YtoaeefjcjdhlkaaGreat
