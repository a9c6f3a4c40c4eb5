/- Normal forms of the program's functions, printed by a program of mine; the kernel checks each. -/
import Derived.Test.YtcohengppaighaaGreatDoorProg
import Derived.Test.YtcohengppaighaaGreatDoorV2
set_option linter.unusedVariables false
set_option maxRecDepth 100000
namespace Go.Proofs.YtcohengppaighaaGreatDoor
open Go

theorem berthlaw03_LabelsMemory_nf (o_1 : Int) (o_2 : Option Addr) (o_2l : Nat) (o_2c : Nat) (o_3 : Option Addr) (o_3l : Nat) (o_3c : Nat) (o_4 : Option Addr) (o_4l : Nat) (o_4c : Nat) (o_5 : ByteArray) (o_6 : ByteArray) (o_7 : ByteArray) (o_8 : Int) (w : World) (R : Ending → World → Prop) (h :
  ∀ w9, w9 = (World.alloc w (.cells #[(Value.int .i64 o_1), (Value.slice o_2 o_2l o_2c), (Value.slice o_3 o_3l o_3c), (Value.slice o_4 o_4l o_4c), (Value.string o_5), (Value.string o_6), (Value.string o_7), (Value.int .i64 o_8)] 25)) →
  Calls Tryz.prog 8 #[] w9 fun e11 w12 =>
  ∃ b10, e11 = Ending.returned (Value.bool b10) ∧
  V.sel (!b10)
  (R (Ending.returned (Value.bool false)) w12)
  (∃ n13, ∃ A14, ∃ A14l, ∃ A14c, ∃ A15, ∃ A15l, ∃ A15c, ∃ A16, ∃ A16l, ∃ A16c, ∃ s17, ∃ s18, ∃ s19, ∃ n20, V.cellsC (fun a_ x_ => World.cell? w12 a_ = some x_) ⟨Array.size (World.heap w), 0, none⟩ [(Value.int .i64 n13), (Value.slice A14 A14l A14c), (Value.slice A15 A15l A15c), (Value.slice A16 A16l A16c), (Value.string s17), (Value.string s18), (Value.string s19), (Value.int .i64 n20)] ∧
  Calls Tryz.prog 9 #[(Value.int .i64 7), (Value.agg #[(Value.int .i64 n13), (Value.slice A14 A14l A14c), (Value.slice A15 A15l A15c), (Value.slice A16 A16l A16c), (Value.string s17), (Value.string s18), (Value.string s19), (Value.int .i64 n20)])] w12 fun e22 w23 =>
  ∃ b21, e22 = Ending.returned (Value.bool b21) ∧
  V.sel b21
  (∃ n24, ∃ A25, ∃ A25l, ∃ A25c, ∃ A26, ∃ A26l, ∃ A26c, ∃ A27, ∃ A27l, ∃ A27c, ∃ s28, ∃ s29, ∃ s30, ∃ n31, V.cellsC (fun a_ x_ => World.cell? w23 a_ = some x_) ⟨Array.size (World.heap w), 0, none⟩ [(Value.int .i64 n24), (Value.slice A25 A25l A25c), (Value.slice A26 A26l A26c), (Value.slice A27 A27l A27c), (Value.string s28), (Value.string s29), (Value.string s30), (Value.int .i64 n31)] ∧
  Calls Tryz.prog 9 #[(Value.int .i64 8), (Value.agg #[(Value.int .i64 n24), (Value.slice A25 A25l A25c), (Value.slice A26 A26l A26c), (Value.slice A27 A27l A27c), (Value.string s28), (Value.string s29), (Value.string s30), (Value.int .i64 n31)])] w23 fun e33 w34 =>
  ∃ b32, e33 = Ending.returned (Value.bool b32) ∧
  V.sel b32
  (∃ n35, ∃ A36, ∃ A36l, ∃ A36c, ∃ A37, ∃ A37l, ∃ A37c, ∃ A38, ∃ A38l, ∃ A38c, ∃ s39, ∃ s40, ∃ s41, ∃ n42, V.cellsC (fun a_ x_ => World.cell? w34 a_ = some x_) ⟨Array.size (World.heap w), 0, none⟩ [(Value.int .i64 n35), (Value.slice A36 A36l A36c), (Value.slice A37 A37l A37c), (Value.slice A38 A38l A38c), (Value.string s39), (Value.string s40), (Value.string s41), (Value.int .i64 n42)] ∧
  Calls Tryz.prog 9 #[(Value.int .i64 11), (Value.agg #[(Value.int .i64 n35), (Value.slice A36 A36l A36c), (Value.slice A37 A37l A37c), (Value.slice A38 A38l A38c), (Value.string s39), (Value.string s40), (Value.string s41), (Value.int .i64 n42)])] w34 fun e44 w45 =>
  ∃ b43, e44 = Ending.returned (Value.bool b43) ∧
  V.sel b43
  (∃ n46, ∃ A47, ∃ A47l, ∃ A47c, ∃ A48, ∃ A48l, ∃ A48c, ∃ A49, ∃ A49l, ∃ A49c, ∃ s50, ∃ s51, ∃ s52, ∃ n53, V.cellsC (fun a_ x_ => World.cell? w45 a_ = some x_) ⟨Array.size (World.heap w), 0, none⟩ [(Value.int .i64 n46), (Value.slice A47 A47l A47c), (Value.slice A48 A48l A48c), (Value.slice A49 A49l A49c), (Value.string s50), (Value.string s51), (Value.string s52), (Value.int .i64 n53)] ∧
  Calls Tryz.prog 9 #[(Value.int .i64 12), (Value.agg #[(Value.int .i64 n46), (Value.slice A47 A47l A47c), (Value.slice A48 A48l A48c), (Value.slice A49 A49l A49c), (Value.string s50), (Value.string s51), (Value.string s52), (Value.int .i64 n53)])] w45 fun e55 w56 =>
  ∃ b54, e55 = Ending.returned (Value.bool b54) ∧
  V.sel b54
  (∃ n57, ∃ A58, ∃ A58l, ∃ A58c, ∃ A59, ∃ A59l, ∃ A59c, ∃ A60, ∃ A60l, ∃ A60c, ∃ s61, ∃ s62, ∃ s63, ∃ n64, V.cellsC (fun a_ x_ => World.cell? w56 a_ = some x_) ⟨Array.size (World.heap w), 0, none⟩ [(Value.int .i64 n57), (Value.slice A58 A58l A58c), (Value.slice A59 A59l A59c), (Value.slice A60 A60l A60c), (Value.string s61), (Value.string s62), (Value.string s63), (Value.int .i64 n64)] ∧
  Calls Tryz.prog 9 #[(Value.int .i64 14), (Value.agg #[(Value.int .i64 n57), (Value.slice A58 A58l A58c), (Value.slice A59 A59l A59c), (Value.slice A60 A60l A60c), (Value.string s61), (Value.string s62), (Value.string s63), (Value.int .i64 n64)])] w56 fun e66 w67 =>
  ∃ b65, e66 = Ending.returned (Value.bool b65) ∧
  R (Ending.returned (Value.bool b65)) w67)
  (R (Ending.returned (Value.bool false)) w56))
  (R (Ending.returned (Value.bool false)) w45))
  (R (Ending.returned (Value.bool false)) w34))
  (R (Ending.returned (Value.bool false)) w23))) :
  Calls Tryz.prog 3 #[(Value.agg #[(Value.int .i64 o_1), (Value.slice o_2 o_2l o_2c), (Value.slice o_3 o_3l o_3c), (Value.slice o_4 o_4l o_4c), (Value.string o_5), (Value.string o_6), (Value.string o_7), (Value.int .i64 o_8)])] w R :=
  V.calls_of_R ⟨V.assoc [], V.assocP [], V.assocC [], V.assocS [], ⟨[], true⟩⟩ Tryz.func3 rfl (Eq.mp (by kernel_rfl) h)

theorem berthlaw03_LabelsTexts_nf (script_1 : Option Addr) (script_1l : Nat) (script_1c : Nat) (w : World) (R : Ending → World → Prop) (h :
  Calls Tryz.prog 8 #[] w fun e3 w4 =>
  ∃ b2, e3 = Ending.returned (Value.bool b2) ∧
  V.sel b2
  (Calls Tryz.prog 10 #[(Value.string ⟨#[97, 46, 98, 47, 67, 95, 100]⟩)] w4 fun e6 w7 =>
  ∃ b5, e6 = Ending.returned (Value.bool b5) ∧
  V.sel b5
  (Calls Tryz.prog 11 #[(Value.slice script_1 script_1l script_1c), (Value.int .i64 1), (Value.int .i64 5)] w7 fun e9 w10 =>
  ∃ b8, e9 = Ending.returned (Value.bool b8) ∧
  R (Ending.returned (Value.bool b8)) w10)
  (R (Ending.returned (Value.bool false)) w7))
  (R (Ending.returned (Value.bool false)) w4)) :
  Calls Tryz.prog 4 #[(Value.slice script_1 script_1l script_1c)] w R :=
  V.calls_of_R ⟨V.assoc [], V.assocP [], V.assocC [], V.assocS [], ⟨[], true⟩⟩ Tryz.func4 rfl (Eq.mp (by kernel_rfl) h)

theorem berthlaw03_LabelsLists_nf (script_1 : Option Addr) (script_1l : Nat) (script_1c : Nat) (w : World) (R : Ending → World → Prop) (h :
  Calls Tryz.prog 8 #[] w fun e3 w4 =>
  ∃ b2, e3 = Ending.returned (Value.bool b2) ∧
  V.sel b2
  (Calls Tryz.prog 11 #[(Value.slice script_1 script_1l script_1c), (Value.int .i64 6), (Value.int .i64 9)] w4 fun e6 w7 =>
  ∃ b5, e6 = Ending.returned (Value.bool b5) ∧
  R (Ending.returned (Value.bool b5)) w7)
  (R (Ending.returned (Value.bool false)) w4)) :
  Calls Tryz.prog 5 #[(Value.slice script_1 script_1l script_1c)] w R :=
  V.calls_of_R ⟨V.assoc [], V.assocP [], V.assocC [], V.assocS [], ⟨[], true⟩⟩ Tryz.func5 rfl (Eq.mp (by kernel_rfl) h)

theorem berthlaw03_LabelsTurns_nf (script_1 : Option Addr) (script_1l : Nat) (script_1c : Nat) (w : World) (R : Ending → World → Prop) (h :
  Calls Tryz.prog 8 #[] w fun e3 w4 =>
  ∃ b2, e3 = Ending.returned (Value.bool b2) ∧
  V.sel b2
  (Calls Tryz.prog 11 #[(Value.slice script_1 script_1l script_1c), (Value.int .i64 10), (Value.int .i64 14)] w4 fun e6 w7 =>
  ∃ b5, e6 = Ending.returned (Value.bool b5) ∧
  R (Ending.returned (Value.bool b5)) w7)
  (R (Ending.returned (Value.bool false)) w4)) :
  Calls Tryz.prog 6 #[(Value.slice script_1 script_1l script_1c)] w R :=
  V.calls_of_R ⟨V.assoc [], V.assocP [], V.assocC [], V.assocS [], ⟨[], true⟩⟩ Tryz.func6 rfl (Eq.mp (by kernel_rfl) h)

theorem berthlaw03_LabelsAll_nf (script_1 : Option Addr) (script_1l : Nat) (script_1c : Nat) (w : World) (R : Ending → World → Prop) (h :
  Calls Tryz.prog 8 #[] w fun e3 w4 =>
  ∃ b2, e3 = Ending.returned (Value.bool b2) ∧
  V.sel b2
  (Calls Tryz.prog 11 #[(Value.slice script_1 script_1l script_1c), (Value.int .i64 1), (Value.int .i64 14)] w4 fun e6 w7 =>
  ∃ b5, e6 = Ending.returned (Value.bool b5) ∧
  R (Ending.returned (Value.bool b5)) w7)
  (R (Ending.returned (Value.bool false)) w4)) :
  Calls Tryz.prog 7 #[(Value.slice script_1 script_1l script_1c)] w R :=
  V.calls_of_R ⟨V.assoc [], V.assocP [], V.assocC [], V.assocS [], ⟨[], true⟩⟩ Tryz.func7 rfl (Eq.mp (by kernel_rfl) h)

theorem berthlaw03_wakes_nf  (w : World) (R : Ending → World → Prop) (h :
  Calls Tryz.prog 12 #[(Value.string ⟨#[98, 61, 50, 44, 97, 61, 49]⟩)] w fun e4 w5 =>
  ∃ A1, ∃ A1l, ∃ A1c, ∃ n2, ∃ n3, e4 = Ending.returned (Value.tuple #[(Value.slice A1 A1l A1c), (Value.int .i64 n2), (Value.int .i64 n3)]) ∧
  Calls Tryz.prog 13 #[(Value.slice none 0 0), (Value.slice none 0 0)] w5 fun e7 w8 =>
  ∃ f6, ∃ f6a, ∃ f6c, e7 = Ending.returned (Value.func (.func f6) f6a f6c) ∧
  Calls Tryz.prog 13 #[(Value.slice A1 A1l A1c), (Value.slice none 0 0)] w8 fun e10 w11 =>
  ∃ f9, ∃ f9a, ∃ f9c, e10 = Ending.returned (Value.func (.func f9) f9a f9c) ∧
  V.sel (n3 == 0)
  (V.sel (n2 == 0)
  (V.sel (((A1l : Nat) : Int) == 2)
  (V.when (decide ((0 : Int) ≤ 0 ∧ (0 : Int) < ((A1l : Nat) : Int))) (V.ptr A1 fun a12 =>
  ∃ s13, ∃ s14, V.cellsC (fun a_ x_ => World.cell? w11 a_ = some x_) (Addr.add a12 0) [(Value.string s13), (Value.string s14)] ∧
  V.sel ((ByteArray.toList s13 == ByteArray.toList ⟨#[97]⟩) && ((ByteArray.toList s14 == ByteArray.toList ⟨#[49]⟩) && true))
  (V.when (decide ((0 : Int) ≤ 1 ∧ (1 : Int) < ((A1l : Nat) : Int))) (V.ptr A1 fun a15 =>
  ∃ s16, ∃ s17, V.cellsC (fun a_ x_ => World.cell? w11 a_ = some x_) (Addr.add a15 2) [(Value.string s16), (Value.string s17)] ∧
  R (Ending.returned (Value.bool ((ByteArray.toList s16 == ByteArray.toList ⟨#[98]⟩) && ((ByteArray.toList s17 == ByteArray.toList ⟨#[50]⟩) && true)))) w11))
  (R (Ending.returned (Value.bool false)) w11)))
  (R (Ending.returned (Value.bool false)) w11))
  (R (Ending.returned (Value.bool false)) w11))
  (R (Ending.returned (Value.bool false)) w11)) :
  Calls Tryz.prog 8 #[] w R :=
  V.calls_of_R ⟨V.assoc [], V.assocP [], V.assocC [], V.assocS [], ⟨[], true⟩⟩ Tryz.func8 rfl (Eq.mp (by kernel_rfl) h)

theorem berthlaw03_apart_nf (kind_1 : Int) (o_2 : Int) (o_3 : Option Addr) (o_3l : Nat) (o_3c : Nat) (o_4 : Option Addr) (o_4l : Nat) (o_4c : Nat) (o_5 : Option Addr) (o_5l : Nat) (o_5c : Nat) (o_6 : ByteArray) (o_7 : ByteArray) (o_8 : ByteArray) (o_9 : Int) (w : World) (R : Ending → World → Prop) (h :
  ∀ w10, w10 = (World.alloc w (.cells #[(Value.int .i64 o_2), (Value.slice o_3 o_3l o_3c), (Value.slice o_4 o_4l o_4c), (Value.slice o_5 o_5l o_5c), (Value.string o_6), (Value.string o_7), (Value.string o_8), (Value.int .i64 o_9)] 25)) →
  ∃ A11, ∃ A11l, ∃ A11c, World.cell? w10 (Addr.add ⟨Array.size (World.heap w), 0, none⟩ 1) = some (Value.slice A11 A11l A11c) ∧
  Calls Tryz.prog 14 #[(Value.slice A11 A11l A11c)] w10 fun e14 w15 =>
  ∃ A12, ∃ A12l, ∃ A12c, ∃ A13, ∃ A13l, ∃ A13c, e14 = Ending.returned (Value.tuple #[(Value.slice A12 A12l A12c), (Value.slice A13 A13l A13c)]) ∧
  ∃ n16, ∃ A17, ∃ A17l, ∃ A17c, ∃ A18, ∃ A18l, ∃ A18c, ∃ A19, ∃ A19l, ∃ A19c, ∃ s20, ∃ s21, ∃ s22, ∃ n23, V.cellsC (fun a_ x_ => World.cell? w15 a_ = some x_) ⟨Array.size (World.heap w), 0, none⟩ [(Value.int .i64 n16), (Value.slice A17 A17l A17c), (Value.slice A18 A18l A18c), (Value.slice A19 A19l A19c), (Value.string s20), (Value.string s21), (Value.string s22), (Value.int .i64 n23)] ∧
  Calls Tryz.prog 15 #[(Value.int .i64 kind_1), (Value.slice A13 A13l A13c), (Value.agg #[(Value.int .i64 n16), (Value.slice A17 A17l A17c), (Value.slice A18 A18l A18c), (Value.slice A19 A19l A19c), (Value.string s20), (Value.string s21), (Value.string s22), (Value.int .i64 n23)])] w15 fun e25 w26 =>
  ∃ A24, ∃ A24l, ∃ A24c, e25 = Ending.returned (Value.slice A24 A24l A24c) ∧
  ∃ n27, ∃ A28, ∃ A28l, ∃ A28c, ∃ A29, ∃ A29l, ∃ A29c, ∃ A30, ∃ A30l, ∃ A30c, ∃ s31, ∃ s32, ∃ s33, ∃ n34, V.cellsC (fun a_ x_ => World.cell? w26 a_ = some x_) ⟨Array.size (World.heap w), 0, none⟩ [(Value.int .i64 n27), (Value.slice A28 A28l A28c), (Value.slice A29 A29l A29c), (Value.slice A30 A30l A30c), (Value.string s31), (Value.string s32), (Value.string s33), (Value.int .i64 n34)] ∧
  Calls Tryz.prog 15 #[(Value.int .i64 kind_1), (Value.slice A13 A13l A13c), (Value.agg #[(Value.int .i64 n27), (Value.slice A28 A28l A28c), (Value.slice A29 A29l A29c), (Value.slice A30 A30l A30c), (Value.string s31), (Value.string s32), (Value.string s33), (Value.int .i64 n34)])] w26 fun e36 w37 =>
  ∃ A35, ∃ A35l, ∃ A35c, e36 = Ending.returned (Value.slice A35 A35l A35c) ∧
  ∃ A38, ∃ A38l, ∃ A38c, World.cell? w37 (Addr.add ⟨Array.size (World.heap w), 0, none⟩ 1) = some (Value.slice A38 A38l A38c) ∧
  ∃ n39, ∃ A40, ∃ A40l, ∃ A40c, ∃ A41, ∃ A41l, ∃ A41c, ∃ A42, ∃ A42l, ∃ A42c, ∃ s43, ∃ s44, ∃ s45, ∃ n46, V.cellsC (fun a_ x_ => World.cell? w37 a_ = some x_) ⟨Array.size (World.heap w), 0, none⟩ [(Value.int .i64 n39), (Value.slice A40 A40l A40c), (Value.slice A41 A41l A41c), (Value.slice A42 A42l A42c), (Value.string s43), (Value.string s44), (Value.string s45), (Value.int .i64 n46)] ∧
  Calls Tryz.prog 16 #[(Value.int .i64 kind_1), (Value.slice A38 A38l A38c), (Value.agg #[(Value.int .i64 n39), (Value.slice A40 A40l A40c), (Value.slice A41 A41l A41c), (Value.slice A42 A42l A42c), (Value.string s43), (Value.string s44), (Value.string s45), (Value.int .i64 n46)])] w37 fun e48 w49 =>
  ∃ A47, ∃ A47l, ∃ A47c, e48 = Ending.returned (Value.slice A47 A47l A47c) ∧
  ∃ A50, ∃ A50l, ∃ A50c, World.cell? w49 (Addr.add ⟨Array.size (World.heap w), 0, none⟩ 1) = some (Value.slice A50 A50l A50c) ∧
  Calls Tryz.prog 17 #[(Value.slice A12 A12l A12c), (Value.slice A50 A50l A50c)] w49 fun e52 w53 =>
  ∃ b51, e52 = Ending.returned (Value.bool b51) ∧
  V.sel (!b51)
  (R (Ending.returned (Value.bool false)) w53)
  (Calls Tryz.prog 18 #[(Value.slice A24 A24l A24c), (Value.slice A47 A47l A47c)] w53 fun e55 w56 =>
  ∃ b54, e55 = Ending.returned (Value.bool b54) ∧
  V.sel (!b54)
  (R (Ending.returned (Value.bool false)) w56)
  (Calls Tryz.prog 18 #[(Value.slice A35 A35l A35c), (Value.slice A47 A47l A47c)] w56 fun e58 w59 =>
  ∃ b57, e58 = Ending.returned (Value.bool b57) ∧
  V.sel (!b57)
  (R (Ending.returned (Value.bool false)) w59)
  (Calls Tryz.prog 19 #[(Value.slice A24 A24l A24c), (Value.string ⟨#[102, 105, 114, 115, 116]⟩)] w59 fun e60 w61 =>
  e60 = Ending.returned undef ∧
  Calls Tryz.prog 18 #[(Value.slice A35 A35l A35c), (Value.slice A47 A47l A47c)] w61 fun e63 w64 =>
  ∃ b62, e63 = Ending.returned (Value.bool b62) ∧
  V.sel (!b62)
  (R (Ending.returned (Value.bool false)) w64)
  (∃ A65, ∃ A65l, ∃ A65c, World.cell? w64 (Addr.add ⟨Array.size (World.heap w), 0, none⟩ 1) = some (Value.slice A65 A65l A65c) ∧
  Calls Tryz.prog 17 #[(Value.slice A12 A12l A12c), (Value.slice A65 A65l A65c)] w64 fun e67 w68 =>
  ∃ b66, e67 = Ending.returned (Value.bool b66) ∧
  V.sel (!b66)
  (R (Ending.returned (Value.bool false)) w68)
  (∃ A69, ∃ A69l, ∃ A69c, World.cell? w68 (Addr.add ⟨Array.size (World.heap w), 0, none⟩ 2) = some (Value.slice A69 A69l A69c) ∧
  Calls Tryz.prog 20 #[(Value.slice A69 A69l A69c)] w68 fun e71 w72 =>
  ∃ A70, ∃ A70l, ∃ A70c, e71 = Ending.returned (Value.slice A70 A70l A70c) ∧
  ∃ I73 : Option Addr → Nat → Nat → World → Prop, ∃ μ74 : Option Addr → Nat → Nat → World → Nat, I73 A70 A70l A70c w72 ∧
  ∀ over_75 over_75l over_75c (j76 : Nat → Value) (w77 : World), I73 over_75 over_75l over_75c w77 →
  (V.sel (decide (((over_75l : Nat) : Int) < ((A13l : Nat) : Int)))
  (∀ w78, w78 = (World.alloc w77 (.cells #[(Value.int .u8 (IntKind.wrap .u8 ((IntKind.wrap .i64 (97 + (Int.tmod ((over_75l : Nat) : Int) 26))))))] 5)) →
  ∃ s79, ∃ w80, Sem.run Tryz.prog (convert 47 9 (Value.slice (some ⟨Array.size (World.heap w77), 0, none⟩) 1 1)) w78 = .ok (Value.string s79) w80 ∧
  V.when (decide (ByteArray.size ⟨#[122]⟩ + ByteArray.size s79 ≤ 9223372036854775807)) (∀ w81, w81 = (World.alloc w80 (.cells #[(Value.string (⟨#[122]⟩ ++ s79)), (Value.string ⟨#[49]⟩)] 40)) →
  ∃ A82, ∃ A82l, ∃ A82c, ∃ w83, Sem.run Tryz.prog (Builtin.append_ #[22, 22] 22 #[(Value.slice over_75 over_75l over_75c), (Value.slice (some ⟨Array.size (World.heap w80), 0, none⟩) 1 1)]) w81 = .ok (Value.slice A82 A82l A82c) w83 ∧
  I73 A82 A82l A82c w83 ∧ μ74 A82 A82l A82c w83 < μ74 over_75 over_75l over_75c w77))
  (V.when (decide ((0 : Int) ≤ ((A13l : Nat) : Int) ∧ (((A13l : Nat) : Int) : Int) ≤ ((over_75c : Nat) : Int))) (∃ n84, ∃ A85, ∃ A85l, ∃ A85c, ∃ A86, ∃ A86l, ∃ A86c, ∃ A87, ∃ A87l, ∃ A87c, ∃ s88, ∃ s89, ∃ s90, ∃ n91, V.cellsC (fun a_ x_ => World.cell? w77 a_ = some x_) ⟨Array.size (World.heap w), 0, none⟩ [(Value.int .i64 n84), (Value.slice A85 A85l A85c), (Value.slice A86 A86l A86c), (Value.slice A87 A87l A87c), (Value.string s88), (Value.string s89), (Value.string s90), (Value.int .i64 n91)] ∧
  Calls Tryz.prog 15 #[(Value.int .i64 kind_1), (Value.slice A13 A13l A13c), (Value.agg #[(Value.int .i64 n84), (Value.slice A85 A85l A85c), (Value.slice A86 A86l A86c), (Value.slice A87 A87l A87c), (Value.string s88), (Value.string s89), (Value.string s90), (Value.int .i64 n91)])] w77 fun e93 w94 =>
  ∃ A92, ∃ A92l, ∃ A92c, e93 = Ending.returned (Value.slice A92 A92l A92c) ∧
  ∃ I95 : Int → World → Prop, ∃ μ96 : Int → World → Nat, I95 0 w94 ∧
  ∀ i_97 (j98 : Nat → Value) (w99 : World), I95 i_97 w99 →
  (V.sel (decide (i_97 < ((A13l : Nat) : Int)))
  (V.when (decide ((0 : Int) ≤ i_97 ∧ (i_97 : Int) < ((((A13l : Nat) - 0) : Nat) : Int))) (V.ptr (V.cut over_75 over_75c 0 2) fun a100 =>
  ∃ s101, ∃ s102, V.cellsC (fun a_ x_ => World.cell? w99 a_ = some x_) (Addr.add a100 ((Int.toNat i_97) * 2)) [(Value.string s101), (Value.string s102)] ∧
  V.when (decide ((0 : Int) ≤ i_97 ∧ (i_97 : Int) < ((A13l : Nat) : Int))) (V.ptr A13 fun a103 =>
  ∃ w104, Sem.run Tryz.prog (Instr.storeAt 40 (Value.pointer (some (Addr.add a103 ((Int.toNat i_97) * 2)))) (Value.agg #[(Value.string s101), (Value.string s102)])) w99 = .ok () w104 ∧
  I95 (IntKind.wrap .i64 (i_97 + 1)) w104 ∧ μ96 (IntKind.wrap .i64 (i_97 + 1)) w104 < μ96 i_97 w99)))
  (Calls Tryz.prog 18 #[(Value.slice A35 A35l A35c), (Value.slice A47 A47l A47c)] w99 fun e106 w107 =>
  ∃ b105, e106 = Ending.returned (Value.bool b105) ∧
  V.sel (!b105)
  (R (Ending.returned (Value.bool false)) w107)
  (Calls Tryz.prog 18 #[(Value.slice A92 A92l A92c), (Value.slice A47 A47l A47c)] w107 fun e109 w110 =>
  ∃ b108, e109 = Ending.returned (Value.bool b108) ∧
  V.sel (!b108)
  (R (Ending.returned (Value.bool false)) w110)
  (∃ n111, ∃ A112, ∃ A112l, ∃ A112c, ∃ A113, ∃ A113l, ∃ A113c, ∃ A114, ∃ A114l, ∃ A114c, ∃ s115, ∃ s116, ∃ s117, ∃ n118, V.cellsC (fun a_ x_ => World.cell? w110 a_ = some x_) ⟨Array.size (World.heap w), 0, none⟩ [(Value.int .i64 n111), (Value.slice A112 A112l A112c), (Value.slice A113 A113l A113c), (Value.slice A114 A114l A114c), (Value.string s115), (Value.string s116), (Value.string s117), (Value.int .i64 n118)] ∧
  Calls Tryz.prog 15 #[(Value.int .i64 kind_1), (Value.slice A13 A13l A13c), (Value.agg #[(Value.int .i64 n111), (Value.slice A112 A112l A112c), (Value.slice A113 A113l A113c), (Value.slice A114 A114l A114c), (Value.string s115), (Value.string s116), (Value.string s117), (Value.int .i64 n118)])] w110 fun e120 w121 =>
  ∃ A119, ∃ A119l, ∃ A119c, e120 = Ending.returned (Value.slice A119 A119l A119c) ∧
  ∃ n122, ∃ A123, ∃ A123l, ∃ A123c, ∃ A124, ∃ A124l, ∃ A124c, ∃ A125, ∃ A125l, ∃ A125c, ∃ s126, ∃ s127, ∃ s128, ∃ n129, V.cellsC (fun a_ x_ => World.cell? w121 a_ = some x_) ⟨Array.size (World.heap w), 0, none⟩ [(Value.int .i64 n122), (Value.slice A123 A123l A123c), (Value.slice A124 A124l A124c), (Value.slice A125 A125l A125c), (Value.string s126), (Value.string s127), (Value.string s128), (Value.int .i64 n129)] ∧
  Calls Tryz.prog 16 #[(Value.int .i64 kind_1), (Value.slice (V.cut over_75 over_75c 0 2) ((A13l : Nat) - 0) (over_75c - 0)), (Value.agg #[(Value.int .i64 n122), (Value.slice A123 A123l A123c), (Value.slice A124 A124l A124c), (Value.slice A125 A125l A125c), (Value.string s126), (Value.string s127), (Value.string s128), (Value.int .i64 n129)])] w121 fun e131 w132 =>
  ∃ A130, ∃ A130l, ∃ A130c, e131 = Ending.returned (Value.slice A130 A130l A130c) ∧
  Calls Tryz.prog 18 #[(Value.slice A119 A119l A119c), (Value.slice A130 A130l A130c)] w132 fun e134 w135 =>
  ∃ b133, e134 = Ending.returned (Value.bool b133) ∧
  V.sel b133
  (Calls Tryz.prog 17 #[(Value.slice A12 A12l A12c), (Value.slice (V.cut over_75 over_75c 0 2) ((A13l : Nat) - 0) (over_75c - 0))] w135 fun e137 w138 =>
  ∃ b136, e137 = Ending.returned (Value.bool b136) ∧
  R (Ending.returned (Value.bool b136)) w138)
  (R (Ending.returned (Value.bool false)) w135)))))))))))))) :
  Calls Tryz.prog 9 #[(Value.int .i64 kind_1), (Value.agg #[(Value.int .i64 o_2), (Value.slice o_3 o_3l o_3c), (Value.slice o_4 o_4l o_4c), (Value.slice o_5 o_5l o_5c), (Value.string o_6), (Value.string o_7), (Value.string o_8), (Value.int .i64 o_9)])] w R :=
  V.calls_of_R ⟨V.assoc [(0, [10]), (1, [12])], V.assocP [], V.assocC [], V.assocS [], ⟨[], true⟩⟩ Tryz.func9 rfl (Eq.mp (by kernel_rfl) h)

theorem labels_IsKey_nf (s_1 : ByteArray) (w : World) (R : Ending → World → Prop) (h :
  Calls Tryz.prog 21 #[(Value.string s_1), (Value.string ⟨#[47]⟩)] w fun e5 w6 =>
  ∃ s2, ∃ s3, ∃ b4, e5 = Ending.returned (Value.tuple #[(Value.string s2), (Value.string s3), (Value.bool b4)]) ∧
  V.sel b4
  (Calls Tryz.prog 22 #[(Value.string s2)] w6 fun e8 w9 =>
  ∃ b7, e8 = Ending.returned (Value.bool b7) ∧
  V.sel b7
  (Calls Tryz.prog 23 #[(Value.string s3)] w9 fun e11 w12 =>
  ∃ b10, e11 = Ending.returned (Value.bool b10) ∧
  R (Ending.returned (Value.bool b10)) w12)
  (R (Ending.returned (Value.bool false)) w9))
  (Calls Tryz.prog 23 #[(Value.string s_1)] w6 fun e14 w15 =>
  ∃ b13, e14 = Ending.returned (Value.bool b13) ∧
  R (Ending.returned (Value.bool b13)) w15)) :
  Calls Tryz.prog 10 #[(Value.string s_1)] w R :=
  V.calls_of_R ⟨V.assoc [], V.assocP [], V.assocC [], V.assocS [], ⟨[], true⟩⟩ Tryz.func10 rfl (Eq.mp (by kernel_rfl) h)

theorem berthlaw03_upTo_nf (script_1 : Option Addr) (script_1l : Nat) (script_1c : Nat) (lo_2 : Int) (hi_3 : Int) (w : World) (R : Ending → World → Prop) (h :
  ∃ I4 : Int → World → Prop, ∃ μ5 : Int → World → Nat, I4 0 w ∧
  ∀ i_6 (j7 : Nat → Value) (w8 : World), I4 i_6 w8 →
  (V.sel (decide (i_6 < ((script_1l : Nat) : Int)))
  (V.when (decide ((0 : Int) ≤ i_6 ∧ (i_6 : Int) < ((script_1l : Nat) : Int))) (V.ptr script_1 fun a9 =>
  ∃ n10, World.cell? w8 (Addr.add (Addr.add a9 ((Int.toNat i_6) * 8)) 0) = some (Value.int .i64 n10) ∧
  V.sel (decide (n10 ≥ lo_2))
  (V.when (decide ((0 : Int) ≤ i_6 ∧ (i_6 : Int) < ((script_1l : Nat) : Int))) (V.ptr script_1 fun a11 =>
  ∃ n12, World.cell? w8 (Addr.add (Addr.add a11 ((Int.toNat i_6) * 8)) 0) = some (Value.int .i64 n12) ∧
  V.sel (decide (n12 ≤ hi_3))
  (V.when (decide ((0 : Int) ≤ i_6 ∧ (i_6 : Int) < ((script_1l : Nat) : Int))) (V.ptr script_1 fun a13 =>
  ∃ n14, ∃ A15, ∃ A15l, ∃ A15c, ∃ A16, ∃ A16l, ∃ A16c, ∃ A17, ∃ A17l, ∃ A17c, ∃ s18, ∃ s19, ∃ s20, ∃ n21, V.cellsC (fun a_ x_ => World.cell? w8 a_ = some x_) (Addr.add a13 ((Int.toNat i_6) * 8)) [(Value.int .i64 n14), (Value.slice A15 A15l A15c), (Value.slice A16 A16l A16c), (Value.slice A17 A17l A17c), (Value.string s18), (Value.string s19), (Value.string s20), (Value.int .i64 n21)] ∧
  Calls Tryz.prog 24 #[(Value.agg #[(Value.int .i64 n14), (Value.slice A15 A15l A15c), (Value.slice A16 A16l A16c), (Value.slice A17 A17l A17c), (Value.string s18), (Value.string s19), (Value.string s20), (Value.int .i64 n21)])] w8 fun e23 w24 =>
  ∃ b22, e23 = Ending.returned (Value.bool b22) ∧
  V.sel (!b22)
  (R (Ending.returned (Value.bool false)) w24)
  (I4 (IntKind.wrap .i64 (i_6 + 1)) w24 ∧ μ5 (IntKind.wrap .i64 (i_6 + 1)) w24 < μ5 i_6 w8)))
  (I4 (IntKind.wrap .i64 (i_6 + 1)) w8 ∧ μ5 (IntKind.wrap .i64 (i_6 + 1)) w8 < μ5 i_6 w8)))
  (I4 (IntKind.wrap .i64 (i_6 + 1)) w8 ∧ μ5 (IntKind.wrap .i64 (i_6 + 1)) w8 < μ5 i_6 w8)))
  (R (Ending.returned (Value.bool true)) w8))) :
  Calls Tryz.prog 11 #[(Value.slice script_1 script_1l script_1c), (Value.int .i64 lo_2), (Value.int .i64 hi_3)] w R :=
  V.calls_of_R ⟨V.assoc [(0, [7])], V.assocP [], V.assocC [], V.assocS [], ⟨[], true⟩⟩ Tryz.func11 rfl (Eq.mp (by kernel_rfl) h)

theorem labels_Parse_nf (text_1 : ByteArray) (w : World) (R : Ending → World → Prop) (h :
  V.sel (decide (((ByteArray.size text_1 : Nat) : Int) > 8192))
  (R (Ending.returned (Value.tuple #[(Value.slice none 0 0), (Value.int .i64 0), (Value.int .i64 39)])) w)
  (V.sel (ByteArray.toList text_1 == ByteArray.toList ByteArray.empty)
  (R (Ending.returned (Value.tuple #[(Value.slice none 0 0), (Value.int .i64 0), (Value.int .i64 0)])) w)
  (Calls Tryz.prog 25 #[(Value.string text_1), (Value.string ⟨#[44]⟩)] w fun e3 w4 =>
  ∃ A2, ∃ A2l, ∃ A2c, e3 = Ending.returned (Value.slice A2 A2l A2c) ∧
  ∃ I5 : Option Addr → Nat → Nat → Int → Int → World → Prop, ∃ μ6 : Option Addr → Nat → Nat → Int → Int → World → Nat, I5 none 0 0 0 0 w4 ∧
  ∀ out_7 out_7l out_7c at_8 t22_9 (j10 : Nat → Value) (w11 : World), I5 out_7 out_7l out_7c at_8 t22_9 w11 →
  (V.sel (decide (t22_9 < ((A2l : Nat) : Int)))
  (V.when (decide ((0 : Int) ≤ t22_9 ∧ (t22_9 : Int) < ((A2l : Nat) : Int))) (V.ptr A2 fun a12 =>
  ∃ s13, World.cell? w11 (Addr.add a12 ((Int.toNat t22_9) * 1)) = some (Value.string s13) ∧
  Calls Tryz.prog 21 #[(Value.string s13), (Value.string ⟨#[61]⟩)] w11 fun e17 w18 =>
  ∃ s14, ∃ s15, ∃ b16, e17 = Ending.returned (Value.tuple #[(Value.string s14), (Value.string s15), (Value.bool b16)]) ∧
  Calls Tryz.prog 26 #[(Value.slice out_7 out_7l out_7c), (Value.string s14)] w18 fun e21 w22 =>
  ∃ s19, ∃ b20, e21 = Ending.returned (Value.tuple #[(Value.string s19), (Value.bool b20)]) ∧
  V.sel (((out_7l : Nat) : Int) == 32)
  (R (Ending.returned (Value.tuple #[(Value.slice none 0 0), (Value.int .i64 at_8), (Value.int .i64 34)])) w22)
  (V.sel (!b16)
  (R (Ending.returned (Value.tuple #[(Value.slice none 0 0), (Value.int .i64 at_8), (Value.int .i64 35)])) w22)
  (Calls Tryz.prog 10 #[(Value.string s14)] w22 fun e24 w25 =>
  ∃ b23, e24 = Ending.returned (Value.bool b23) ∧
  V.sel (!b23)
  (R (Ending.returned (Value.tuple #[(Value.slice none 0 0), (Value.int .i64 at_8), (Value.int .i64 31)])) w25)
  (Calls Tryz.prog 27 #[(Value.string s15)] w25 fun e27 w28 =>
  ∃ b26, e27 = Ending.returned (Value.bool b26) ∧
  V.sel (!b26)
  (R (Ending.returned (Value.tuple #[(Value.slice none 0 0), (Value.int .i64 at_8), (Value.int .i64 32)])) w28)
  (V.sel b20
  (R (Ending.returned (Value.tuple #[(Value.slice none 0 0), (Value.int .i64 at_8), (Value.int .i64 33)])) w28)
  (∀ w29, w29 = (World.alloc w28 (.cells #[(Value.string s14), (Value.string s15)] 40)) →
  ∃ A30, ∃ A30l, ∃ A30c, ∃ w31, Sem.run Tryz.prog (Builtin.append_ #[22, 22] 22 #[(Value.slice out_7 out_7l out_7c), (Value.slice (some ⟨Array.size (World.heap w28), 0, none⟩) 1 1)]) w29 = .ok (Value.slice A30 A30l A30c) w31 ∧
  V.lt (IntKind.wrap .i64 (at_8 + (IntKind.wrap .i64 (((ByteArray.size s13 : Nat) : Int) + 1)))) fun x32 =>
  I5 A30 A30l A30c x32 (IntKind.wrap .i64 (t22_9 + 1)) w31 ∧ μ6 A30 A30l A30c x32 (IntKind.wrap .i64 (t22_9 + 1)) w31 < μ6 out_7 out_7l out_7c at_8 t22_9 w11)))))))
  (Calls Tryz.prog 28 #[(Value.slice out_7 out_7l out_7c)] w11 fun e34 w35 =>
  ∃ A33, ∃ A33l, ∃ A33c, e34 = Ending.returned (Value.slice A33 A33l A33c) ∧
  R (Ending.returned (Value.tuple #[(Value.slice A33 A33l A33c), (Value.int .i64 0), (Value.int .i64 0)])) w35))))) :
  Calls Tryz.prog 12 #[(Value.string text_1)] w R :=
  V.calls_of_R ⟨V.assoc [(0, [5, 6, 22])], V.assocP [], V.assocC [], V.assocS [], ⟨[], true⟩⟩ Tryz.func12 rfl (Eq.mp (by kernel_rfl) h)

theorem labels_Diff_nf (was_1 : Option Addr) (was_1l : Nat) (was_1c : Nat) (now_2 : Option Addr) (now_2l : Nat) (now_2c : Nat) (w : World) (R : Ending → World → Prop) (h :
  ∀ w3, w3 = (World.alloc w (.cells #[(Value.slice none 0 0)] 23)) →
  Calls Tryz.prog 29 #[(Value.slice was_1 was_1l was_1c)] w3 fun e6 w7 =>
  ∃ n4, ∃ n5, e6 = Ending.returned (Value.tuple #[(Value.int .i64 n4), (Value.int .i64 n5)]) ∧
  Calls Tryz.prog 29 #[(Value.slice now_2 now_2l now_2c)] w7 fun e10 w11 =>
  ∃ n8, ∃ n9, e10 = Ending.returned (Value.tuple #[(Value.int .i64 n8), (Value.int .i64 n9)]) ∧
  V.sel (n5 == 0)
  (V.sel (n9 == 0)
  (Calls Tryz.prog 30 #[(Value.slice was_1 was_1l was_1c), (Value.slice now_2 now_2l now_2c)] w11 fun e13 w14 =>
  ∃ A12, ∃ A12l, ∃ A12c, e13 = Ending.returned (Value.slice A12 A12l A12c) ∧
  ∃ w15, Sem.run Tryz.prog (Instr.storeAt 23 (Value.pointer (some ⟨Array.size (World.heap w), 0, none⟩)) (Value.slice A12 A12l A12c)) w14 = .ok () w15 ∧
  R (Ending.returned (Value.func (.func 31) #[] #[(Value.pointer (some ⟨Array.size (World.heap w), 0, none⟩))])) w15)
  (R (Ending.returned (Value.func (.func 31) #[] #[(Value.pointer (some ⟨Array.size (World.heap w), 0, none⟩))])) w11))
  (R (Ending.returned (Value.func (.func 31) #[] #[(Value.pointer (some ⟨Array.size (World.heap w), 0, none⟩))])) w11)) :
  Calls Tryz.prog 13 #[(Value.slice was_1 was_1l was_1c), (Value.slice now_2 now_2l now_2c)] w R :=
  V.calls_of_R ⟨V.assoc [], V.assocP [], V.assocC [], V.assocS [], ⟨[], true⟩⟩ Tryz.func13 rfl (Eq.mp (by kernel_rfl) h)

theorem berthlaw03_roomy_nf (l_1 : Option Addr) (l_1l : Nat) (l_1c : Nat) (w : World) (R : Ending → World → Prop) (h :
  V.when (decide ((0 : Int) ≤ 0 ∧ (0 : Int) ≤ (IntKind.wrap .i64 (((l_1l : Nat) : Int) + 80)) ∧ ((IntKind.wrap .i64 (((l_1l : Nat) : Int) + 80)) : Int) ≤ 281474976710656 ∧ (32 : Int) * (IntKind.wrap .i64 (((l_1l : Nat) : Int) + 80)) ≤ 281474976710656)) (∀ w2, w2 = (World.alloc w (.cells ⟨V.rep (Int.toNat (IntKind.wrap .i64 (((l_1l : Nat) : Int) + 80))) [(Value.string ByteArray.empty), (Value.string ByteArray.empty)]⟩ 40)) →
  ∃ A3, ∃ A3l, ∃ A3c, ∃ w4, Sem.run Tryz.prog (Builtin.append_ #[22, 22] 22 #[(Value.slice (some ⟨Array.size (World.heap w), 0, none⟩) 0 (Int.toNat (IntKind.wrap .i64 (((l_1l : Nat) : Int) + 80)))), (Value.slice l_1 l_1l l_1c)]) w2 = .ok (Value.slice A3 A3l A3c) w4 ∧
  ∃ I5 : Option Addr → Nat → Nat → Int → World → Prop, ∃ μ6 : Option Addr → Nat → Nat → Int → World → Nat, I5 A3 A3l A3c 0 w4 ∧
  ∀ all_7 all_7l all_7c i_8 (j9 : Nat → Value) (w10 : World), I5 all_7 all_7l all_7c i_8 w10 →
  (V.sel (decide (i_8 < 80))
  (∀ w11, w11 = (World.alloc w10 (.cells #[(Value.string ⟨#[33]⟩), (Value.string ⟨#[115, 112, 97, 114, 101]⟩)] 40)) →
  ∃ A12, ∃ A12l, ∃ A12c, ∃ w13, Sem.run Tryz.prog (Builtin.append_ #[22, 22] 22 #[(Value.slice all_7 all_7l all_7c), (Value.slice (some ⟨Array.size (World.heap w10), 0, none⟩) 1 1)]) w11 = .ok (Value.slice A12 A12l A12c) w13 ∧
  I5 A12 A12l A12c (IntKind.wrap .i64 (i_8 + 1)) w13 ∧ μ6 A12 A12l A12c (IntKind.wrap .i64 (i_8 + 1)) w13 < μ6 all_7 all_7l all_7c i_8 w10)
  (V.when (decide ((0 : Int) ≤ ((l_1l : Nat) : Int) ∧ (((l_1l : Nat) : Int) : Int) ≤ ((all_7c : Nat) : Int))) (R (Ending.returned (Value.tuple #[(Value.slice all_7 all_7l all_7c), (Value.slice (V.cut all_7 all_7c 0 2) ((l_1l : Nat) - 0) (all_7c - 0))])) (World.drew w10)))))) :
  Calls Tryz.prog 14 #[(Value.slice l_1 l_1l l_1c)] w R :=
  V.calls_of_R ⟨V.assoc [(0, [4, 5])], V.assocP [(7, V.line [0, 1, 2, 3, 4, 5, 6])], V.assocC [], V.assocS [], ⟨[], true⟩⟩ Tryz.func14 rfl (Eq.mp (by kernel_rfl) h)

theorem berthlaw03_asked_nf (kind_1 : Int) (l_2 : Option Addr) (l_2l : Nat) (l_2c : Nat) (o_3 : Int) (o_4 : Option Addr) (o_4l : Nat) (o_4c : Nat) (o_5 : Option Addr) (o_5l : Nat) (o_5c : Nat) (o_6 : Option Addr) (o_6l : Nat) (o_6c : Nat) (o_7 : ByteArray) (o_8 : ByteArray) (o_9 : ByteArray) (o_10 : Int) (w : World) (R : Ending → World → Prop) (h :
  ∀ w11, w11 = (World.alloc w (.cells #[(Value.int .i64 o_3), (Value.slice o_4 o_4l o_4c), (Value.slice o_5 o_5l o_5c), (Value.slice o_6 o_6l o_6c), (Value.string o_7), (Value.string o_8), (Value.string o_9), (Value.int .i64 o_10)] 25)) →
  V.sel (kind_1 == 7)
  (Calls Tryz.prog 32 #[(Value.slice l_2 l_2l l_2c)] w11 fun e15 w16 =>
  ∃ A12, ∃ A12l, ∃ A12c, ∃ s13, ∃ n14, e15 = Ending.returned (Value.tuple #[(Value.slice A12 A12l A12c), (Value.string s13), (Value.int .i64 n14)]) ∧
  R (Ending.returned (Value.slice A12 A12l A12c)) w16)
  (V.sel (kind_1 == 8)
  (∃ s17, World.cell? w11 (Addr.add ⟨Array.size (World.heap w), 0, none⟩ 4) = some (Value.string s17) ∧
  Calls Tryz.prog 12 #[(Value.string s17)] w11 fun e21 w22 =>
  ∃ A18, ∃ A18l, ∃ A18c, ∃ n19, ∃ n20, e21 = Ending.returned (Value.tuple #[(Value.slice A18 A18l A18c), (Value.int .i64 n19), (Value.int .i64 n20)]) ∧
  R (Ending.returned (Value.slice A18 A18l A18c)) w22)
  (V.sel (kind_1 == 11)
  (∃ s23, World.cell? w11 (Addr.add ⟨Array.size (World.heap w), 0, none⟩ 5) = some (Value.string s23) ∧
  ∃ s24, World.cell? w11 (Addr.add ⟨Array.size (World.heap w), 0, none⟩ 6) = some (Value.string s24) ∧
  Calls Tryz.prog 33 #[(Value.slice l_2 l_2l l_2c), (Value.string s23), (Value.string s24)] w11 fun e27 w28 =>
  ∃ A25, ∃ A25l, ∃ A25c, ∃ n26, e27 = Ending.returned (Value.tuple #[(Value.slice A25 A25l A25c), (Value.int .i64 n26)]) ∧
  R (Ending.returned (Value.slice A25 A25l A25c)) w28)
  (V.sel (kind_1 == 12)
  (∃ s29, World.cell? w11 (Addr.add ⟨Array.size (World.heap w), 0, none⟩ 5) = some (Value.string s29) ∧
  Calls Tryz.prog 34 #[(Value.slice l_2 l_2l l_2c), (Value.string s29)] w11 fun e32 w33 =>
  ∃ A30, ∃ A30l, ∃ A30c, ∃ b31, e32 = Ending.returned (Value.tuple #[(Value.slice A30 A30l A30c), (Value.bool b31)]) ∧
  R (Ending.returned (Value.slice A30 A30l A30c)) w33)
  (∀ w34, w34 = (World.alloc w11 (.cells #[] 59)) →
  ∃ A35, ∃ A35l, ∃ A35c, World.cell? w34 (Addr.add ⟨Array.size (World.heap w), 0, none⟩ 3) = some (Value.slice A35 A35l A35c) ∧
  ∃ A36, ∃ A36l, ∃ A36c, ∃ w37, Sem.run Tryz.prog (Builtin.append_ #[23, 23] 23 #[(Value.slice (some ⟨Array.size (World.heap w11), 0, none⟩) 0 0), (Value.slice A35 A35l A35c)]) w34 = .ok (Value.slice A36 A36l A36c) w37 ∧
  Calls Tryz.prog 35 #[(Value.slice l_2 l_2l l_2c), (Value.slice A36 A36l A36c)] w37 fun e40 w41 =>
  ∃ A38, ∃ A38l, ∃ A38c, ∃ n39, e40 = Ending.returned (Value.tuple #[(Value.slice A38 A38l A38c), (Value.int .i64 n39)]) ∧
  R (Ending.returned (Value.slice A38 A38l A38c)) w41))))) :
  Calls Tryz.prog 15 #[(Value.int .i64 kind_1), (Value.slice l_2 l_2l l_2c), (Value.agg #[(Value.int .i64 o_3), (Value.slice o_4 o_4l o_4c), (Value.slice o_5 o_5l o_5c), (Value.slice o_6 o_6l o_6c), (Value.string o_7), (Value.string o_8), (Value.string o_9), (Value.int .i64 o_10)])] w R :=
  V.calls_of_R ⟨V.assoc [], V.assocP [], V.assocC [], V.assocS [], ⟨[], true⟩⟩ Tryz.func15 rfl (Eq.mp (by kernel_rfl) h)

theorem berthlaw03_wanted_nf (kind_1 : Int) (l_2 : Option Addr) (l_2l : Nat) (l_2c : Nat) (o_3 : Int) (o_4 : Option Addr) (o_4l : Nat) (o_4c : Nat) (o_5 : Option Addr) (o_5l : Nat) (o_5c : Nat) (o_6 : Option Addr) (o_6l : Nat) (o_6c : Nat) (o_7 : ByteArray) (o_8 : ByteArray) (o_9 : ByteArray) (o_10 : Int) (w : World) (R : Ending → World → Prop) (h :
  ∀ w11, w11 = (World.alloc w (.cells #[(Value.int .i64 o_3), (Value.slice o_4 o_4l o_4c), (Value.slice o_5 o_5l o_5c), (Value.slice o_6 o_6l o_6c), (Value.string o_7), (Value.string o_8), (Value.string o_9), (Value.int .i64 o_10)] 25)) →
  V.sel (kind_1 == 7)
  (Calls Tryz.prog 36 #[(Value.slice l_2 l_2l l_2c)] w11 fun e15 w16 =>
  ∃ A12, ∃ A12l, ∃ A12c, ∃ s13, ∃ n14, e15 = Ending.returned (Value.tuple #[(Value.slice A12 A12l A12c), (Value.string s13), (Value.int .i64 n14)]) ∧
  R (Ending.returned (Value.slice A12 A12l A12c)) w16)
  (V.sel (kind_1 == 8)
  (∃ s17, World.cell? w11 (Addr.add ⟨Array.size (World.heap w), 0, none⟩ 4) = some (Value.string s17) ∧
  Calls Tryz.prog 37 #[(Value.string s17)] w11 fun e21 w22 =>
  ∃ A18, ∃ A18l, ∃ A18c, ∃ n19, ∃ n20, e21 = Ending.returned (Value.tuple #[(Value.slice A18 A18l A18c), (Value.int .i64 n19), (Value.int .i64 n20)]) ∧
  R (Ending.returned (Value.slice A18 A18l A18c)) w22)
  (V.sel (kind_1 == 11)
  (∃ s23, World.cell? w11 (Addr.add ⟨Array.size (World.heap w), 0, none⟩ 5) = some (Value.string s23) ∧
  ∃ s24, World.cell? w11 (Addr.add ⟨Array.size (World.heap w), 0, none⟩ 6) = some (Value.string s24) ∧
  Calls Tryz.prog 38 #[(Value.slice l_2 l_2l l_2c), (Value.string s23), (Value.string s24)] w11 fun e27 w28 =>
  ∃ A25, ∃ A25l, ∃ A25c, ∃ n26, e27 = Ending.returned (Value.tuple #[(Value.slice A25 A25l A25c), (Value.int .i64 n26)]) ∧
  R (Ending.returned (Value.slice A25 A25l A25c)) w28)
  (V.sel (kind_1 == 12)
  (∃ s29, World.cell? w11 (Addr.add ⟨Array.size (World.heap w), 0, none⟩ 5) = some (Value.string s29) ∧
  Calls Tryz.prog 39 #[(Value.slice l_2 l_2l l_2c), (Value.string s29)] w11 fun e32 w33 =>
  ∃ A30, ∃ A30l, ∃ A30c, ∃ b31, e32 = Ending.returned (Value.tuple #[(Value.slice A30 A30l A30c), (Value.bool b31)]) ∧
  R (Ending.returned (Value.slice A30 A30l A30c)) w33)
  (∃ A34, ∃ A34l, ∃ A34c, World.cell? w11 (Addr.add ⟨Array.size (World.heap w), 0, none⟩ 3) = some (Value.slice A34 A34l A34c) ∧
  Calls Tryz.prog 40 #[(Value.slice l_2 l_2l l_2c), (Value.slice A34 A34l A34c)] w11 fun e37 w38 =>
  ∃ A35, ∃ A35l, ∃ A35c, ∃ n36, e37 = Ending.returned (Value.tuple #[(Value.slice A35 A35l A35c), (Value.int .i64 n36)]) ∧
  R (Ending.returned (Value.slice A35 A35l A35c)) w38))))) :
  Calls Tryz.prog 16 #[(Value.int .i64 kind_1), (Value.slice l_2 l_2l l_2c), (Value.agg #[(Value.int .i64 o_3), (Value.slice o_4 o_4l o_4c), (Value.slice o_5 o_5l o_5c), (Value.slice o_6 o_6l o_6c), (Value.string o_7), (Value.string o_8), (Value.string o_9), (Value.int .i64 o_10)])] w R :=
  V.calls_of_R ⟨V.assoc [], V.assocP [], V.assocC [], V.assocS [], ⟨[], true⟩⟩ Tryz.func16 rfl (Eq.mp (by kernel_rfl) h)

theorem berthlaw03_untouched_nf (all_1 : Option Addr) (all_1l : Nat) (all_1c : Nat) (l_2 : Option Addr) (l_2l : Nat) (l_2c : Nat) (w : World) (R : Ending → World → Prop) (h :
  V.sel (((all_1l : Nat) : Int) != (IntKind.wrap .i64 (((l_2l : Nat) : Int) + 80)))
  (R (Ending.returned (Value.bool false)) w)
  (V.when (decide ((0 : Int) ≤ ((l_2l : Nat) : Int) ∧ (((l_2l : Nat) : Int) : Int) ≤ ((all_1c : Nat) : Int))) (Calls Tryz.prog 18 #[(Value.slice (V.cut all_1 all_1c 0 2) ((l_2l : Nat) - 0) (all_1c - 0)), (Value.slice l_2 l_2l l_2c)] w fun e4 w5 =>
  ∃ b3, e4 = Ending.returned (Value.bool b3) ∧
  V.sel (!b3)
  (R (Ending.returned (Value.bool false)) w5)
  (∃ I6 : Int → World → Prop, ∃ μ7 : Int → World → Nat, I6 ((l_2l : Nat) : Int) w5 ∧
  ∀ i_8 (j9 : Nat → Value) (w10 : World), I6 i_8 w10 →
  (V.sel (decide (i_8 < ((all_1l : Nat) : Int)))
  (V.when (decide ((0 : Int) ≤ i_8 ∧ (i_8 : Int) < ((all_1l : Nat) : Int))) (V.ptr all_1 fun a11 =>
  ∃ s12, ∃ s13, V.cellsC (fun a_ x_ => World.cell? w10 a_ = some x_) (Addr.add a11 ((Int.toNat i_8) * 2)) [(Value.string s12), (Value.string s13)] ∧
  V.sel (!((ByteArray.toList s12 == ByteArray.toList ⟨#[33]⟩) && ((ByteArray.toList s13 == ByteArray.toList ⟨#[115, 112, 97, 114, 101]⟩) && true)))
  (R (Ending.returned (Value.bool false)) w10)
  (I6 (IntKind.wrap .i64 (i_8 + 1)) w10 ∧ μ7 (IntKind.wrap .i64 (i_8 + 1)) w10 < μ7 i_8 w10)))
  (R (Ending.returned (Value.bool true)) w10)))))) :
  Calls Tryz.prog 17 #[(Value.slice all_1 all_1l all_1c), (Value.slice l_2 l_2l l_2c)] w R :=
  V.calls_of_R ⟨V.assoc [(0, [5])], V.assocP [], V.assocC [], V.assocS [], ⟨[], true⟩⟩ Tryz.func17 rfl (Eq.mp (by kernel_rfl) h)

theorem berthlaw03_same_nf (a_1 : Option Addr) (a_1l : Nat) (a_1c : Nat) (b_2 : Option Addr) (b_2l : Nat) (b_2c : Nat) (w : World) (R : Ending → World → Prop) (h :
  V.sel (((a_1l : Nat) : Int) != ((b_2l : Nat) : Int))
  (R (Ending.returned (Value.bool false)) w)
  (∃ I3 : Int → World → Prop, ∃ μ4 : Int → World → Nat, I3 0 w ∧
  ∀ i_5 (j6 : Nat → Value) (w7 : World), I3 i_5 w7 →
  (V.sel (decide (i_5 < ((a_1l : Nat) : Int)))
  (V.when (decide ((0 : Int) ≤ i_5 ∧ (i_5 : Int) < ((a_1l : Nat) : Int))) (V.ptr a_1 fun a8 =>
  ∃ s9, ∃ s10, V.cellsC (fun a_ x_ => World.cell? w7 a_ = some x_) (Addr.add a8 ((Int.toNat i_5) * 2)) [(Value.string s9), (Value.string s10)] ∧
  V.when (decide ((0 : Int) ≤ i_5 ∧ (i_5 : Int) < ((b_2l : Nat) : Int))) (V.ptr b_2 fun a11 =>
  ∃ s12, ∃ s13, V.cellsC (fun a_ x_ => World.cell? w7 a_ = some x_) (Addr.add a11 ((Int.toNat i_5) * 2)) [(Value.string s12), (Value.string s13)] ∧
  V.sel (!((ByteArray.toList s9 == ByteArray.toList s12) && ((ByteArray.toList s10 == ByteArray.toList s13) && true)))
  (R (Ending.returned (Value.bool false)) (World.drew w7))
  (I3 (IntKind.wrap .i64 (i_5 + 1)) (World.drew w7) ∧ μ4 (IntKind.wrap .i64 (i_5 + 1)) (World.drew w7) < μ4 i_5 w7))))
  (R (Ending.returned (Value.bool true)) w7)))) :
  Calls Tryz.prog 18 #[(Value.slice a_1 a_1l a_1c), (Value.slice b_2 b_2l b_2c)] w R :=
  V.calls_of_R ⟨V.assoc [(0, [5])], V.assocP [(6, V.line [0, 1, 2, 3, 4, 5, 6, 7, 8])], V.assocC [], V.assocS [], ⟨[], true⟩⟩ Tryz.func18 rfl (Eq.mp (by kernel_rfl) h)

theorem berthlaw03_spoil_nf (l_1 : Option Addr) (l_1l : Nat) (l_1c : Nat) (mark_2 : ByteArray) (w : World) (R : Ending → World → Prop) (h :
  ∃ I3 : Int → World → Prop, ∃ μ4 : Int → World → Nat, I3 0 w ∧
  ∀ i_5 (j6 : Nat → Value) (w7 : World), I3 i_5 w7 →
  (V.sel (decide (i_5 < ((l_1l : Nat) : Int)))
  (V.when (decide ((0 : Int) ≤ i_5 ∧ (i_5 : Int) < ((l_1l : Nat) : Int))) (V.ptr l_1 fun a8 =>
  ∃ w9, Sem.run Tryz.prog (Instr.storeAt 40 (Value.pointer (some (Addr.add a8 ((Int.toNat i_5) * 2)))) (Value.agg #[(Value.string ⟨#[63]⟩), (Value.string mark_2)])) w7 = .ok () w9 ∧
  I3 (IntKind.wrap .i64 (i_5 + 1)) w9 ∧ μ4 (IntKind.wrap .i64 (i_5 + 1)) w9 < μ4 i_5 w7))
  (∃ I10 : Option Addr → Nat → Nat → Int → World → Prop, ∃ μ11 : Option Addr → Nat → Nat → Int → World → Nat, I10 l_1 l_1l l_1c 0 w7 ∧
  ∀ g_12 g_12l g_12c i_13 (j14 : Nat → Value) (w15 : World), I10 g_12 g_12l g_12c i_13 w15 →
  (V.sel (decide (i_13 < 16))
  (∀ w16, w16 = (World.alloc w15 (.cells #[(Value.string ⟨#[63, 63]⟩), (Value.string mark_2)] 40)) →
  ∃ A17, ∃ A17l, ∃ A17c, ∃ w18, Sem.run Tryz.prog (Builtin.append_ #[22, 22] 22 #[(Value.slice g_12 g_12l g_12c), (Value.slice (some ⟨Array.size (World.heap w15), 0, none⟩) 1 1)]) w16 = .ok (Value.slice A17 A17l A17c) w18 ∧
  I10 A17 A17l A17c (IntKind.wrap .i64 (i_13 + 1)) w18 ∧ μ11 A17 A17l A17c (IntKind.wrap .i64 (i_13 + 1)) w18 < μ11 g_12 g_12l g_12c i_13 w15)
  (∃ I19 : Option Addr → Nat → Nat → Int → World → Prop, ∃ μ20 : Option Addr → Nat → Nat → Int → World → Nat, I19 none 0 0 0 w15 ∧
  ∀ many_21 many_21l many_21c i_22 (j23 : Nat → Value) (w24 : World), I19 many_21 many_21l many_21c i_22 w24 →
  (V.sel (decide (i_22 < 80))
  (∀ w25, w25 = (World.alloc w24 (.cells #[(Value.string ⟨#[63, 63, 63]⟩), (Value.string mark_2)] 40)) →
  ∃ A26, ∃ A26l, ∃ A26c, ∃ w27, Sem.run Tryz.prog (Builtin.append_ #[22, 22] 22 #[(Value.slice many_21 many_21l many_21c), (Value.slice (some ⟨Array.size (World.heap w24), 0, none⟩) 1 1)]) w25 = .ok (Value.slice A26 A26l A26c) w27 ∧
  I19 A26 A26l A26c (IntKind.wrap .i64 (i_22 + 1)) w27 ∧ μ20 A26 A26l A26c (IntKind.wrap .i64 (i_22 + 1)) w27 < μ20 many_21 many_21l many_21c i_22 w24)
  (∃ A28, ∃ A28l, ∃ A28c, ∃ w29, Sem.run Tryz.prog (Builtin.append_ #[22, 22] 22 #[(Value.slice l_1 l_1l l_1c), (Value.slice many_21 many_21l many_21c)]) w24 = .ok (Value.slice A28 A28l A28c) w29 ∧
  V.sel (decide (((A28l : Nat) : Int) > 0))
  (V.when (decide ((0 : Int) ≤ 0 ∧ (0 : Int) < ((A28l : Nat) : Int))) (V.ptr A28 fun a30 =>
  ∃ w31, Sem.run Tryz.prog (Instr.storeAt 40 (Value.pointer (some (Addr.add a30 0))) (Value.agg #[(Value.string ⟨#[63]⟩), (Value.string mark_2)])) w29 = .ok () w31 ∧
  R (Ending.returned undef) w31))
  (R (Ending.returned undef) w29)))))))) :
  Calls Tryz.prog 19 #[(Value.slice l_1 l_1l l_1c), (Value.string mark_2)] w R :=
  V.calls_of_R ⟨V.assoc [(0, [4]), (1, [5, 6]), (2, [7, 8])], V.assocP [], V.assocC [], V.assocS [], ⟨[], true⟩⟩ Tryz.func19 rfl (Eq.mp (by kernel_rfl) h)

theorem berthlaw03_copied_nf (l_1 : Option Addr) (l_1l : Nat) (l_1c : Nat) (w : World) (R : Ending → World → Prop) (h :
  ∀ w2, w2 = (World.alloc w (.cells #[] 40)) →
  ∃ A3, ∃ A3l, ∃ A3c, ∃ w4, Sem.run Tryz.prog (Builtin.append_ #[22, 22] 22 #[(Value.slice (some ⟨Array.size (World.heap w), 0, none⟩) 0 0), (Value.slice l_1 l_1l l_1c)]) w2 = .ok (Value.slice A3 A3l A3c) w4 ∧
  R (Ending.returned (Value.slice A3 A3l A3c)) w4) :
  Calls Tryz.prog 20 #[(Value.slice l_1 l_1l l_1c)] w R :=
  V.calls_of_R ⟨V.assoc [], V.assocP [], V.assocC [], V.assocS [], ⟨[], true⟩⟩ Tryz.func20 rfl (Eq.mp (by kernel_rfl) h)

theorem strings_Cut_nf (s_1 : ByteArray) (sep_2 : ByteArray) (w : World) (R : Ending → World → Prop) (h :
  Calls Tryz.prog 41 #[(Value.string s_1), (Value.string sep_2)] w fun e6 w7 =>
  ∃ s3, ∃ s4, ∃ b5, e6 = Ending.returned (Value.tuple #[(Value.string s3), (Value.string s4), (Value.bool b5)]) ∧
  R (Ending.returned (Value.tuple #[(Value.string s3), (Value.string s4), (Value.bool b5)])) w7) :
  Calls Tryz.prog 21 #[(Value.string s_1), (Value.string sep_2)] w R :=
  V.calls_of_R ⟨V.assoc [], V.assocP [], V.assocC [], V.assocS [], ⟨[], true⟩⟩ Tryz.func21 rfl (Eq.mp (by kernel_rfl) h)

theorem labels_IsName_nf (s_1 : ByteArray) (w : World) (R : Ending → World → Prop) (h :
  V.sel (decide (((ByteArray.size s_1 : Nat) : Int) < 1))
  (R (Ending.returned (Value.bool false)) w)
  (V.sel (decide (((ByteArray.size s_1 : Nat) : Int) > 63))
  (R (Ending.returned (Value.bool false)) w)
  (Calls Tryz.prog 25 #[(Value.string s_1), (Value.string ⟨#[46]⟩)] w fun e3 w4 =>
  ∃ A2, ∃ A2l, ∃ A2c, e3 = Ending.returned (Value.slice A2 A2l A2c) ∧
  ∃ I5 : Int → World → Prop, ∃ μ6 : Int → World → Nat, I5 0 w4 ∧
  ∀ t17_7 (j8 : Nat → Value) (w9 : World), I5 t17_7 w9 →
  (V.sel (decide (t17_7 < ((A2l : Nat) : Int)))
  (V.when (decide ((0 : Int) ≤ t17_7 ∧ (t17_7 : Int) < ((A2l : Nat) : Int))) (V.ptr A2 fun a10 =>
  ∃ s11, World.cell? w9 (Addr.add a10 ((Int.toNat t17_7) * 1)) = some (Value.string s11) ∧
  V.sel (ByteArray.toList s11 == ByteArray.toList ByteArray.empty)
  (R (Ending.returned (Value.bool false)) w9)
  (V.when (decide ((0 : Int) ≤ 0 ∧ (0 : Int) < ((ByteArray.size s11 : Nat) : Int))) (Calls Tryz.prog 42 #[(Value.int .u8 (V.byteAt s11 0))] w9 fun e13 w14 =>
  ∃ b12, e13 = Ending.returned (Value.bool b12) ∧
  V.sel (!b12)
  (R (Ending.returned (Value.bool false)) w14)
  (V.when (decide ((0 : Int) ≤ (IntKind.wrap .i64 (((ByteArray.size s11 : Nat) : Int) - 1)) ∧ ((IntKind.wrap .i64 (((ByteArray.size s11 : Nat) : Int) - 1)) : Int) < ((ByteArray.size s11 : Nat) : Int))) (Calls Tryz.prog 42 #[(Value.int .u8 (V.byteAt s11 (IntKind.wrap .i64 (((ByteArray.size s11 : Nat) : Int) - 1))))] w14 fun e16 w17 =>
  ∃ b15, e16 = Ending.returned (Value.bool b15) ∧
  V.sel (!b15)
  (R (Ending.returned (Value.bool false)) w17)
  (∃ I18 : Int → World → Prop, ∃ μ19 : Int → World → Nat, I18 0 w17 ∧
  ∀ t40_20 (j21 : Nat → Value) (w22 : World), I18 t40_20 w22 →
  (V.sel (decide (t40_20 < ((ByteArray.size s11 : Nat) : Int)))
  (V.when (decide ((0 : Int) ≤ t40_20 ∧ (t40_20 : Int) < ((ByteArray.size s11 : Nat) : Int))) (Calls Tryz.prog 42 #[(Value.int .u8 (V.byteAt s11 t40_20))] w22 fun e24 w25 =>
  ∃ b23, e24 = Ending.returned (Value.bool b23) ∧
  V.sel (!b23)
  (V.when (decide ((0 : Int) ≤ t40_20 ∧ (t40_20 : Int) < ((ByteArray.size s11 : Nat) : Int))) (V.sel ((V.byteAt s11 t40_20) != 45)
  (R (Ending.returned (Value.bool false)) w25)
  (I18 (IntKind.wrap .i64 (t40_20 + 1)) w25 ∧ μ19 (IntKind.wrap .i64 (t40_20 + 1)) w25 < μ19 t40_20 w22)))
  (I18 (IntKind.wrap .i64 (t40_20 + 1)) w25 ∧ μ19 (IntKind.wrap .i64 (t40_20 + 1)) w25 < μ19 t40_20 w22)))
  (I5 (IntKind.wrap .i64 (t17_7 + 1)) w22 ∧ μ6 (IntKind.wrap .i64 (t17_7 + 1)) w22 < μ6 t17_7 w9)))))))))
  (R (Ending.returned (Value.bool true)) w9))))) :
  Calls Tryz.prog 22 #[(Value.string s_1)] w R :=
  V.calls_of_R ⟨V.assoc [(0, [17]), (1, [40])], V.assocP [], V.assocC [], V.assocS [], ⟨[], true⟩⟩ Tryz.func22 rfl (Eq.mp (by kernel_rfl) h)

theorem labels_isShort_nf (s_1 : ByteArray) (w : World) (R : Ending → World → Prop) (h :
  V.sel (decide (((ByteArray.size s_1 : Nat) : Int) < 1))
  (R (Ending.returned (Value.bool false)) w)
  (V.sel (decide (((ByteArray.size s_1 : Nat) : Int) > 63))
  (R (Ending.returned (Value.bool false)) w)
  (V.when (decide ((0 : Int) ≤ 0 ∧ (0 : Int) < ((ByteArray.size s_1 : Nat) : Int))) (Calls Tryz.prog 43 #[(Value.int .u8 (V.byteAt s_1 0))] w fun e3 w4 =>
  ∃ b2, e3 = Ending.returned (Value.bool b2) ∧
  V.sel (!b2)
  (R (Ending.returned (Value.bool false)) w4)
  (V.when (decide ((0 : Int) ≤ (IntKind.wrap .i64 (((ByteArray.size s_1 : Nat) : Int) - 1)) ∧ ((IntKind.wrap .i64 (((ByteArray.size s_1 : Nat) : Int) - 1)) : Int) < ((ByteArray.size s_1 : Nat) : Int))) (Calls Tryz.prog 43 #[(Value.int .u8 (V.byteAt s_1 (IntKind.wrap .i64 (((ByteArray.size s_1 : Nat) : Int) - 1))))] w4 fun e6 w7 =>
  ∃ b5, e6 = Ending.returned (Value.bool b5) ∧
  V.sel (!b5)
  (R (Ending.returned (Value.bool false)) w7)
  (∃ I8 : Int → World → Prop, ∃ μ9 : Int → World → Nat, I8 0 w7 ∧
  ∀ t29_10 (j11 : Nat → Value) (w12 : World), I8 t29_10 w12 →
  (V.sel (decide (t29_10 < ((ByteArray.size s_1 : Nat) : Int)))
  (V.when (decide ((0 : Int) ≤ t29_10 ∧ (t29_10 : Int) < ((ByteArray.size s_1 : Nat) : Int))) (Calls Tryz.prog 44 #[(Value.int .u8 (V.byteAt s_1 t29_10))] w12 fun e14 w15 =>
  ∃ b13, e14 = Ending.returned (Value.bool b13) ∧
  V.sel (!b13)
  (R (Ending.returned (Value.bool false)) w15)
  (I8 (IntKind.wrap .i64 (t29_10 + 1)) w15 ∧ μ9 (IntKind.wrap .i64 (t29_10 + 1)) w15 < μ9 t29_10 w12)))
  (R (Ending.returned (Value.bool true)) w12))))))))) :
  Calls Tryz.prog 23 #[(Value.string s_1)] w R :=
  V.calls_of_R ⟨V.assoc [(0, [29])], V.assocP [], V.assocC [], V.assocS [], ⟨[], true⟩⟩ Tryz.func23 rfl (Eq.mp (by kernel_rfl) h)

theorem berthlaw03_plays_nf (o_1 : Int) (o_2 : Option Addr) (o_2l : Nat) (o_2c : Nat) (o_3 : Option Addr) (o_3l : Nat) (o_3c : Nat) (o_4 : Option Addr) (o_4l : Nat) (o_4c : Nat) (o_5 : ByteArray) (o_6 : ByteArray) (o_7 : ByteArray) (o_8 : Int) (w : World) (R : Ending → World → Prop) (h :
  ∀ w9, w9 = (World.alloc w (.cells #[(Value.int .i64 o_1), (Value.slice o_2 o_2l o_2c), (Value.slice o_3 o_3l o_3c), (Value.slice o_4 o_4l o_4c), (Value.string o_5), (Value.string o_6), (Value.string o_7), (Value.int .i64 o_8)] 25)) →
  ∃ n10, World.cell? w9 (Addr.add ⟨Array.size (World.heap w), 0, none⟩ 0) = some (Value.int .i64 n10) ∧
  V.sel (decide (n10 ≥ 1))
  (∃ n11, World.cell? w9 (Addr.add ⟨Array.size (World.heap w), 0, none⟩ 0) = some (Value.int .i64 n11) ∧
  V.sel (decide (n11 ≤ 5))
  (∃ n12, ∃ A13, ∃ A13l, ∃ A13c, ∃ A14, ∃ A14l, ∃ A14c, ∃ A15, ∃ A15l, ∃ A15c, ∃ s16, ∃ s17, ∃ s18, ∃ n19, V.cellsC (fun a_ x_ => World.cell? w9 a_ = some x_) ⟨Array.size (World.heap w), 0, none⟩ [(Value.int .i64 n12), (Value.slice A13 A13l A13c), (Value.slice A14 A14l A14c), (Value.slice A15 A15l A15c), (Value.string s16), (Value.string s17), (Value.string s18), (Value.int .i64 n19)] ∧
  Calls Tryz.prog 45 #[(Value.agg #[(Value.int .i64 n12), (Value.slice A13 A13l A13c), (Value.slice A14 A14l A14c), (Value.slice A15 A15l A15c), (Value.string s16), (Value.string s17), (Value.string s18), (Value.int .i64 n19)])] w9 fun e21 w22 =>
  ∃ b20, e21 = Ending.returned (Value.bool b20) ∧
  R (Ending.returned (Value.bool b20)) w22)
  (∃ n23, World.cell? w9 (Addr.add ⟨Array.size (World.heap w), 0, none⟩ 0) = some (Value.int .i64 n23) ∧
  V.sel (decide (n23 ≥ 6))
  (∃ n24, World.cell? w9 (Addr.add ⟨Array.size (World.heap w), 0, none⟩ 0) = some (Value.int .i64 n24) ∧
  V.sel (decide (n24 ≤ 9))
  (∃ n25, ∃ A26, ∃ A26l, ∃ A26c, ∃ A27, ∃ A27l, ∃ A27c, ∃ A28, ∃ A28l, ∃ A28c, ∃ s29, ∃ s30, ∃ s31, ∃ n32, V.cellsC (fun a_ x_ => World.cell? w9 a_ = some x_) ⟨Array.size (World.heap w), 0, none⟩ [(Value.int .i64 n25), (Value.slice A26 A26l A26c), (Value.slice A27 A27l A27c), (Value.slice A28 A28l A28c), (Value.string s29), (Value.string s30), (Value.string s31), (Value.int .i64 n32)] ∧
  Calls Tryz.prog 46 #[(Value.agg #[(Value.int .i64 n25), (Value.slice A26 A26l A26c), (Value.slice A27 A27l A27c), (Value.slice A28 A28l A28c), (Value.string s29), (Value.string s30), (Value.string s31), (Value.int .i64 n32)])] w9 fun e34 w35 =>
  ∃ b33, e34 = Ending.returned (Value.bool b33) ∧
  R (Ending.returned (Value.bool b33)) w35)
  (∃ n36, World.cell? w9 (Addr.add ⟨Array.size (World.heap w), 0, none⟩ 0) = some (Value.int .i64 n36) ∧
  V.sel (decide (n36 ≥ 10))
  (∃ n37, World.cell? w9 (Addr.add ⟨Array.size (World.heap w), 0, none⟩ 0) = some (Value.int .i64 n37) ∧
  V.sel (decide (n37 ≤ 14))
  (∃ n38, ∃ A39, ∃ A39l, ∃ A39c, ∃ A40, ∃ A40l, ∃ A40c, ∃ A41, ∃ A41l, ∃ A41c, ∃ s42, ∃ s43, ∃ s44, ∃ n45, V.cellsC (fun a_ x_ => World.cell? w9 a_ = some x_) ⟨Array.size (World.heap w), 0, none⟩ [(Value.int .i64 n38), (Value.slice A39 A39l A39c), (Value.slice A40 A40l A40c), (Value.slice A41 A41l A41c), (Value.string s42), (Value.string s43), (Value.string s44), (Value.int .i64 n45)] ∧
  Calls Tryz.prog 47 #[(Value.agg #[(Value.int .i64 n38), (Value.slice A39 A39l A39c), (Value.slice A40 A40l A40c), (Value.slice A41 A41l A41c), (Value.string s42), (Value.string s43), (Value.string s44), (Value.int .i64 n45)])] w9 fun e47 w48 =>
  ∃ b46, e47 = Ending.returned (Value.bool b46) ∧
  R (Ending.returned (Value.bool b46)) w48)
  (R (Ending.returned (Value.bool true)) w9))
  (R (Ending.returned (Value.bool true)) w9)))
  (∃ n49, World.cell? w9 (Addr.add ⟨Array.size (World.heap w), 0, none⟩ 0) = some (Value.int .i64 n49) ∧
  V.sel (decide (n49 ≥ 10))
  (∃ n50, World.cell? w9 (Addr.add ⟨Array.size (World.heap w), 0, none⟩ 0) = some (Value.int .i64 n50) ∧
  V.sel (decide (n50 ≤ 14))
  (∃ n51, ∃ A52, ∃ A52l, ∃ A52c, ∃ A53, ∃ A53l, ∃ A53c, ∃ A54, ∃ A54l, ∃ A54c, ∃ s55, ∃ s56, ∃ s57, ∃ n58, V.cellsC (fun a_ x_ => World.cell? w9 a_ = some x_) ⟨Array.size (World.heap w), 0, none⟩ [(Value.int .i64 n51), (Value.slice A52 A52l A52c), (Value.slice A53 A53l A53c), (Value.slice A54 A54l A54c), (Value.string s55), (Value.string s56), (Value.string s57), (Value.int .i64 n58)] ∧
  Calls Tryz.prog 47 #[(Value.agg #[(Value.int .i64 n51), (Value.slice A52 A52l A52c), (Value.slice A53 A53l A53c), (Value.slice A54 A54l A54c), (Value.string s55), (Value.string s56), (Value.string s57), (Value.int .i64 n58)])] w9 fun e60 w61 =>
  ∃ b59, e60 = Ending.returned (Value.bool b59) ∧
  R (Ending.returned (Value.bool b59)) w61)
  (R (Ending.returned (Value.bool true)) w9))
  (R (Ending.returned (Value.bool true)) w9))))
  (∃ n62, World.cell? w9 (Addr.add ⟨Array.size (World.heap w), 0, none⟩ 0) = some (Value.int .i64 n62) ∧
  V.sel (decide (n62 ≥ 6))
  (∃ n63, World.cell? w9 (Addr.add ⟨Array.size (World.heap w), 0, none⟩ 0) = some (Value.int .i64 n63) ∧
  V.sel (decide (n63 ≤ 9))
  (∃ n64, ∃ A65, ∃ A65l, ∃ A65c, ∃ A66, ∃ A66l, ∃ A66c, ∃ A67, ∃ A67l, ∃ A67c, ∃ s68, ∃ s69, ∃ s70, ∃ n71, V.cellsC (fun a_ x_ => World.cell? w9 a_ = some x_) ⟨Array.size (World.heap w), 0, none⟩ [(Value.int .i64 n64), (Value.slice A65 A65l A65c), (Value.slice A66 A66l A66c), (Value.slice A67 A67l A67c), (Value.string s68), (Value.string s69), (Value.string s70), (Value.int .i64 n71)] ∧
  Calls Tryz.prog 46 #[(Value.agg #[(Value.int .i64 n64), (Value.slice A65 A65l A65c), (Value.slice A66 A66l A66c), (Value.slice A67 A67l A67c), (Value.string s68), (Value.string s69), (Value.string s70), (Value.int .i64 n71)])] w9 fun e73 w74 =>
  ∃ b72, e73 = Ending.returned (Value.bool b72) ∧
  R (Ending.returned (Value.bool b72)) w74)
  (∃ n75, World.cell? w9 (Addr.add ⟨Array.size (World.heap w), 0, none⟩ 0) = some (Value.int .i64 n75) ∧
  V.sel (decide (n75 ≥ 10))
  (∃ n76, World.cell? w9 (Addr.add ⟨Array.size (World.heap w), 0, none⟩ 0) = some (Value.int .i64 n76) ∧
  V.sel (decide (n76 ≤ 14))
  (∃ n77, ∃ A78, ∃ A78l, ∃ A78c, ∃ A79, ∃ A79l, ∃ A79c, ∃ A80, ∃ A80l, ∃ A80c, ∃ s81, ∃ s82, ∃ s83, ∃ n84, V.cellsC (fun a_ x_ => World.cell? w9 a_ = some x_) ⟨Array.size (World.heap w), 0, none⟩ [(Value.int .i64 n77), (Value.slice A78 A78l A78c), (Value.slice A79 A79l A79c), (Value.slice A80 A80l A80c), (Value.string s81), (Value.string s82), (Value.string s83), (Value.int .i64 n84)] ∧
  Calls Tryz.prog 47 #[(Value.agg #[(Value.int .i64 n77), (Value.slice A78 A78l A78c), (Value.slice A79 A79l A79c), (Value.slice A80 A80l A80c), (Value.string s81), (Value.string s82), (Value.string s83), (Value.int .i64 n84)])] w9 fun e86 w87 =>
  ∃ b85, e86 = Ending.returned (Value.bool b85) ∧
  R (Ending.returned (Value.bool b85)) w87)
  (R (Ending.returned (Value.bool true)) w9))
  (R (Ending.returned (Value.bool true)) w9)))
  (∃ n88, World.cell? w9 (Addr.add ⟨Array.size (World.heap w), 0, none⟩ 0) = some (Value.int .i64 n88) ∧
  V.sel (decide (n88 ≥ 10))
  (∃ n89, World.cell? w9 (Addr.add ⟨Array.size (World.heap w), 0, none⟩ 0) = some (Value.int .i64 n89) ∧
  V.sel (decide (n89 ≤ 14))
  (∃ n90, ∃ A91, ∃ A91l, ∃ A91c, ∃ A92, ∃ A92l, ∃ A92c, ∃ A93, ∃ A93l, ∃ A93c, ∃ s94, ∃ s95, ∃ s96, ∃ n97, V.cellsC (fun a_ x_ => World.cell? w9 a_ = some x_) ⟨Array.size (World.heap w), 0, none⟩ [(Value.int .i64 n90), (Value.slice A91 A91l A91c), (Value.slice A92 A92l A92c), (Value.slice A93 A93l A93c), (Value.string s94), (Value.string s95), (Value.string s96), (Value.int .i64 n97)] ∧
  Calls Tryz.prog 47 #[(Value.agg #[(Value.int .i64 n90), (Value.slice A91 A91l A91c), (Value.slice A92 A92l A92c), (Value.slice A93 A93l A93c), (Value.string s94), (Value.string s95), (Value.string s96), (Value.int .i64 n97)])] w9 fun e99 w100 =>
  ∃ b98, e99 = Ending.returned (Value.bool b98) ∧
  R (Ending.returned (Value.bool b98)) w100)
  (R (Ending.returned (Value.bool true)) w9))
  (R (Ending.returned (Value.bool true)) w9)))) :
  Calls Tryz.prog 24 #[(Value.agg #[(Value.int .i64 o_1), (Value.slice o_2 o_2l o_2c), (Value.slice o_3 o_3l o_3c), (Value.slice o_4 o_4l o_4c), (Value.string o_5), (Value.string o_6), (Value.string o_7), (Value.int .i64 o_8)])] w R :=
  V.calls_of_R ⟨V.assoc [], V.assocP [], V.assocC [], V.assocS [], ⟨[], true⟩⟩ Tryz.func24 rfl (Eq.mp (by kernel_rfl) h)

theorem strings_Split_nf (s_1 : ByteArray) (sep_2 : ByteArray) (w : World) (R : Ending → World → Prop) (h :
  Calls Tryz.prog 48 #[(Value.string s_1), (Value.string sep_2), (Value.int .i64 0), (Value.int .i64 (-1))] w fun e4 w5 =>
  ∃ A3, ∃ A3l, ∃ A3c, e4 = Ending.returned (Value.slice A3 A3l A3c) ∧
  R (Ending.returned (Value.slice A3 A3l A3c)) w5) :
  Calls Tryz.prog 25 #[(Value.string s_1), (Value.string sep_2)] w R :=
  V.calls_of_R ⟨V.assoc [], V.assocP [], V.assocC [], V.assocS [], ⟨[], true⟩⟩ Tryz.func25 rfl (Eq.mp (by kernel_rfl) h)

theorem labels_Get_nf (list_1 : Option Addr) (list_1l : Nat) (list_1c : Nat) (key_2 : ByteArray) (w : World) (R : Ending → World → Prop) (h :
  ∃ I3 : Int → World → Prop, ∃ μ4 : Int → World → Nat, I3 0 w ∧
  ∀ t10_5 (j6 : Nat → Value) (w7 : World), I3 t10_5 w7 →
  (V.sel (decide (t10_5 < ((list_1l : Nat) : Int)))
  (V.when (decide ((0 : Int) ≤ t10_5 ∧ (t10_5 : Int) < ((list_1l : Nat) : Int))) (V.ptr list_1 fun a8 =>
  ∃ s9, ∃ s10, V.cellsC (fun a_ x_ => World.cell? w7 a_ = some x_) (Addr.add a8 ((Int.toNat t10_5) * 2)) [(Value.string s9), (Value.string s10)] ∧
  ∀ w11, w11 = (World.alloc w7 (.cells #[(Value.string ByteArray.empty), (Value.string ByteArray.empty)] 40)) →
  ∃ w12, Sem.run Tryz.prog (Instr.storeAt 40 (Value.pointer (some ⟨Array.size (World.heap w7), 0, none⟩)) (Value.agg #[(Value.string s9), (Value.string s10)])) w11 = .ok () w12 ∧
  ∃ s13, World.cell? w12 (Addr.add ⟨Array.size (World.heap w7), 0, none⟩ 0) = some (Value.string s13) ∧
  V.sel (ByteArray.toList s13 == ByteArray.toList key_2)
  (∃ s14, World.cell? w12 (Addr.add ⟨Array.size (World.heap w7), 0, none⟩ 1) = some (Value.string s14) ∧
  R (Ending.returned (Value.tuple #[(Value.string s14), (Value.bool true)])) w12)
  (I3 (IntKind.wrap .i64 (t10_5 + 1)) w12 ∧ μ4 (IntKind.wrap .i64 (t10_5 + 1)) w12 < μ4 t10_5 w7)))
  (R (Ending.returned (Value.tuple #[(Value.string ByteArray.empty), (Value.bool false)])) w7))) :
  Calls Tryz.prog 26 #[(Value.slice list_1 list_1l list_1c), (Value.string key_2)] w R :=
  V.calls_of_R ⟨V.assoc [(0, [10])], V.assocP [], V.assocC [], V.assocS [], ⟨[], true⟩⟩ Tryz.func26 rfl (Eq.mp (by kernel_rfl) h)

theorem labels_IsValue_nf (s_1 : ByteArray) (w : World) (R : Ending → World → Prop) (h :
  V.sel (ByteArray.toList s_1 == ByteArray.toList ByteArray.empty)
  (R (Ending.returned (Value.bool true)) w)
  (V.sel (decide (((ByteArray.size s_1 : Nat) : Int) > 63))
  (R (Ending.returned (Value.bool false)) w)
  (V.when (decide ((0 : Int) ≤ (IntKind.wrap .i64 (((ByteArray.size s_1 : Nat) : Int) - 1)) ∧ ((IntKind.wrap .i64 (((ByteArray.size s_1 : Nat) : Int) - 1)) : Int) < ((ByteArray.size s_1 : Nat) : Int))) (Calls Tryz.prog 43 #[(Value.int .u8 (V.byteAt s_1 (IntKind.wrap .i64 (((ByteArray.size s_1 : Nat) : Int) - 1))))] w fun e3 w4 =>
  ∃ b2, e3 = Ending.returned (Value.bool b2) ∧
  V.sel (!b2)
  (R (Ending.returned (Value.bool false)) w4)
  (V.when (decide ((0 : Int) ≤ 0 ∧ (0 : Int) < ((ByteArray.size s_1 : Nat) : Int))) (Calls Tryz.prog 43 #[(Value.int .u8 (V.byteAt s_1 0))] w4 fun e6 w7 =>
  ∃ b5, e6 = Ending.returned (Value.bool b5) ∧
  V.sel (!b5)
  (V.when (decide ((0 : Int) ≤ 0 ∧ (0 : Int) < ((ByteArray.size s_1 : Nat) : Int))) (V.sel ((V.byteAt s_1 0) != 45)
  (R (Ending.returned (Value.bool false)) w7)
  (∃ I8 : Int → World → Prop, ∃ μ9 : Int → World → Nat, I8 0 w7 ∧
  ∀ t31_10 (j11 : Nat → Value) (w12 : World), I8 t31_10 w12 →
  (V.sel (decide (t31_10 < ((ByteArray.size s_1 : Nat) : Int)))
  (V.when (decide ((0 : Int) ≤ t31_10 ∧ (t31_10 : Int) < ((ByteArray.size s_1 : Nat) : Int))) (Calls Tryz.prog 44 #[(Value.int .u8 (V.byteAt s_1 t31_10))] w12 fun e14 w15 =>
  ∃ b13, e14 = Ending.returned (Value.bool b13) ∧
  V.sel (!b13)
  (R (Ending.returned (Value.bool false)) w15)
  (I8 (IntKind.wrap .i64 (t31_10 + 1)) w15 ∧ μ9 (IntKind.wrap .i64 (t31_10 + 1)) w15 < μ9 t31_10 w12)))
  (R (Ending.returned (Value.bool true)) w12)))))
  (∃ I16 : Int → World → Prop, ∃ μ17 : Int → World → Nat, I16 0 w7 ∧
  ∀ t31_18 (j19 : Nat → Value) (w20 : World), I16 t31_18 w20 →
  (V.sel (decide (t31_18 < ((ByteArray.size s_1 : Nat) : Int)))
  (V.when (decide ((0 : Int) ≤ t31_18 ∧ (t31_18 : Int) < ((ByteArray.size s_1 : Nat) : Int))) (Calls Tryz.prog 44 #[(Value.int .u8 (V.byteAt s_1 t31_18))] w20 fun e22 w23 =>
  ∃ b21, e22 = Ending.returned (Value.bool b21) ∧
  V.sel (!b21)
  (R (Ending.returned (Value.bool false)) w23)
  (I16 (IntKind.wrap .i64 (t31_18 + 1)) w23 ∧ μ17 (IntKind.wrap .i64 (t31_18 + 1)) w23 < μ17 t31_18 w20)))
  (R (Ending.returned (Value.bool true)) w20))))))))) :
  Calls Tryz.prog 27 #[(Value.string s_1)] w R :=
  V.calls_of_R ⟨V.assoc [(0, [31])], V.assocP [], V.assocC [], V.assocS [], ⟨[], true⟩⟩ Tryz.func27 rfl (Eq.mp (by kernel_rfl) h)

theorem labels_sorted_nf (list_1 : Option Addr) (list_1l : Nat) (list_1c : Nat) (w : World) (R : Ending → World → Prop) (h :
  Calls Tryz.prog 49 #[(Value.slice list_1 list_1l list_1c)] w fun e3 w4 =>
  ∃ A2, ∃ A2l, ∃ A2c, e3 = Ending.returned (Value.slice A2 A2l A2c) ∧
  ∀ w5, w5 = (World.alloc w4 (.cells #[(Value.slice none 0 0)] 22)) →
  ∃ w6, Sem.run Tryz.prog (Instr.storeAt 22 (Value.pointer (some ⟨Array.size (World.heap w4), 0, none⟩)) (Value.slice A2 A2l A2c)) w5 = .ok () w6 ∧
  ∃ A7, ∃ A7l, ∃ A7c, World.cell? w6 ⟨Array.size (World.heap w4), 0, none⟩ = some (Value.slice A7 A7l A7c) ∧
  Calls Tryz.prog 50 #[(Value.iface 22 (Value.slice A7 A7l A7c)), (Value.func (.func 51) #[] #[(Value.pointer (some ⟨Array.size (World.heap w4), 0, none⟩))])] w6 fun e8 w9 =>
  e8 = Ending.returned undef ∧
  ∃ A10, ∃ A10l, ∃ A10c, World.cell? w9 ⟨Array.size (World.heap w4), 0, none⟩ = some (Value.slice A10 A10l A10c) ∧
  Calls Tryz.prog 52 #[(Value.slice A10 A10l A10c)] w9 fun e12 w13 =>
  ∃ A11, ∃ A11l, ∃ A11c, e12 = Ending.returned (Value.slice A11 A11l A11c) ∧
  R (Ending.returned (Value.slice A11 A11l A11c)) w13) :
  Calls Tryz.prog 28 #[(Value.slice list_1 list_1l list_1c)] w R :=
  V.calls_of_R ⟨V.assoc [], V.assocP [], V.assocC [], V.assocS [], ⟨[], true⟩⟩ Tryz.func28 rfl (Eq.mp (by kernel_rfl) h)

theorem labels_Check_nf (list_1 : Option Addr) (list_1l : Nat) (list_1c : Nat) (w : World) (R : Ending → World → Prop) (h :
  V.sel (decide (((list_1l : Nat) : Int) > 32))
  (R (Ending.returned (Value.tuple #[(Value.int .i64 32), (Value.int .i64 34)])) w)
  (∃ I2 : Int → World → Prop, ∃ μ3 : Int → World → Nat, I2 0 w ∧
  ∀ t11_4 (j5 : Nat → Value) (w6 : World), I2 t11_4 w6 →
  (V.sel (decide (t11_4 < ((list_1l : Nat) : Int)))
  (V.when (decide ((0 : Int) ≤ t11_4 ∧ (t11_4 : Int) < ((list_1l : Nat) : Int))) (V.ptr list_1 fun a7 =>
  ∃ s8, ∃ s9, V.cellsC (fun a_ x_ => World.cell? w6 a_ = some x_) (Addr.add a7 ((Int.toNat t11_4) * 2)) [(Value.string s8), (Value.string s9)] ∧
  ∀ w10, w10 = (World.alloc w6 (.cells #[(Value.string ByteArray.empty), (Value.string ByteArray.empty)] 40)) →
  ∃ w11, Sem.run Tryz.prog (Instr.storeAt 40 (Value.pointer (some ⟨Array.size (World.heap w6), 0, none⟩)) (Value.agg #[(Value.string s8), (Value.string s9)])) w10 = .ok () w11 ∧
  ∃ s12, World.cell? w11 (Addr.add ⟨Array.size (World.heap w6), 0, none⟩ 0) = some (Value.string s12) ∧
  Calls Tryz.prog 10 #[(Value.string s12)] w11 fun e14 w15 =>
  ∃ b13, e14 = Ending.returned (Value.bool b13) ∧
  V.sel (!b13)
  (R (Ending.returned (Value.tuple #[(Value.int .i64 t11_4), (Value.int .i64 31)])) w15)
  (∃ s16, World.cell? w15 (Addr.add ⟨Array.size (World.heap w6), 0, none⟩ 1) = some (Value.string s16) ∧
  Calls Tryz.prog 27 #[(Value.string s16)] w15 fun e18 w19 =>
  ∃ b17, e18 = Ending.returned (Value.bool b17) ∧
  V.sel (!b17)
  (R (Ending.returned (Value.tuple #[(Value.int .i64 t11_4), (Value.int .i64 32)])) w19)
  (V.sel (decide (t11_4 > 0))
  (∃ s20, World.cell? w19 (Addr.add ⟨Array.size (World.heap w6), 0, none⟩ 0) = some (Value.string s20) ∧
  V.when (decide ((0 : Int) ≤ (IntKind.wrap .i64 (t11_4 - 1)) ∧ ((IntKind.wrap .i64 (t11_4 - 1)) : Int) < ((list_1l : Nat) : Int))) (V.ptr list_1 fun a21 =>
  ∃ s22, World.cell? w19 (Addr.add (Addr.add a21 ((Int.toNat (IntKind.wrap .i64 (t11_4 - 1))) * 2)) 0) = some (Value.string s22) ∧
  V.sel (ByteArray.toList s20 == ByteArray.toList s22)
  (R (Ending.returned (Value.tuple #[(Value.int .i64 t11_4), (Value.int .i64 33)])) (World.drew w19))
  (V.sel (decide (t11_4 > 0))
  (∃ s23, World.cell? (World.drew w19) (Addr.add ⟨Array.size (World.heap w6), 0, none⟩ 0) = some (Value.string s23) ∧
  V.when (decide ((0 : Int) ≤ (IntKind.wrap .i64 (t11_4 - 1)) ∧ ((IntKind.wrap .i64 (t11_4 - 1)) : Int) < ((list_1l : Nat) : Int))) (V.ptr list_1 fun a24 =>
  ∃ s25, World.cell? (World.drew w19) (Addr.add (Addr.add a24 ((Int.toNat (IntKind.wrap .i64 (t11_4 - 1))) * 2)) 0) = some (Value.string s25) ∧
  V.sel (Op.bytesLess (ByteArray.toList s23) (ByteArray.toList s25))
  (R (Ending.returned (Value.tuple #[(Value.int .i64 t11_4), (Value.int .i64 36)])) (World.drew (World.drew w19)))
  (I2 (IntKind.wrap .i64 (t11_4 + 1)) (World.drew (World.drew w19)) ∧ μ3 (IntKind.wrap .i64 (t11_4 + 1)) (World.drew (World.drew w19)) < μ3 t11_4 w6)))
  (I2 (IntKind.wrap .i64 (t11_4 + 1)) (World.drew (World.drew w19)) ∧ μ3 (IntKind.wrap .i64 (t11_4 + 1)) (World.drew (World.drew w19)) < μ3 t11_4 w6))))
  (V.sel (decide (t11_4 > 0))
  (∃ s26, World.cell? (World.drew w19) (Addr.add ⟨Array.size (World.heap w6), 0, none⟩ 0) = some (Value.string s26) ∧
  V.when (decide ((0 : Int) ≤ (IntKind.wrap .i64 (t11_4 - 1)) ∧ ((IntKind.wrap .i64 (t11_4 - 1)) : Int) < ((list_1l : Nat) : Int))) (V.ptr list_1 fun a27 =>
  ∃ s28, World.cell? (World.drew w19) (Addr.add (Addr.add a27 ((Int.toNat (IntKind.wrap .i64 (t11_4 - 1))) * 2)) 0) = some (Value.string s28) ∧
  V.sel (Op.bytesLess (ByteArray.toList s26) (ByteArray.toList s28))
  (R (Ending.returned (Value.tuple #[(Value.int .i64 t11_4), (Value.int .i64 36)])) (World.drew (World.drew w19)))
  (I2 (IntKind.wrap .i64 (t11_4 + 1)) (World.drew (World.drew w19)) ∧ μ3 (IntKind.wrap .i64 (t11_4 + 1)) (World.drew (World.drew w19)) < μ3 t11_4 w6)))
  (I2 (IntKind.wrap .i64 (t11_4 + 1)) (World.drew (World.drew w19)) ∧ μ3 (IntKind.wrap .i64 (t11_4 + 1)) (World.drew (World.drew w19)) < μ3 t11_4 w6))))))
  (R (Ending.returned (Value.tuple #[(Value.int .i64 0), (Value.int .i64 0)])) w6)))) :
  Calls Tryz.prog 29 #[(Value.slice list_1 list_1l list_1c)] w R :=
  V.calls_of_R ⟨V.assoc [(0, [11])], V.assocP [(10, V.line [0, 1, 2, 3, 4, 5, 6, 7, 8, 9, 10, 11, 12, 13]), (12, V.line [0, 1, 2, 3, 4, 5, 6, 7, 8, 9, 10, 11, 12, 13])], V.assocC [], V.assocS [], ⟨[], true⟩⟩ Tryz.func29 rfl (Eq.mp (by kernel_rfl) h)

end Go.Proofs.YtcohengppaighaaGreatDoor
