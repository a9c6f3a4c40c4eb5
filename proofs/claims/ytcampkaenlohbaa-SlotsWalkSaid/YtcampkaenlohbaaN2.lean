/- Normal forms of the program's functions, printed by a program of mine; the kernel checks each. -/
import Derived.Test.YtcampkaenlohbaaProg
import Derived.Test.YtcampkaenlohbaaV2
set_option linter.unusedVariables false
set_option maxRecDepth 100000
namespace Go.Proofs.Ytcampkaenlohbaa
open Go

theorem berthlaw05_World_step_nf (w_1 : Option Addr) (o_2 : Int) (o_3 : Int) (o_4 : Int) (o_5 : ByteArray) (o_6 : Int) (w : World) (R : Ending → World → Prop) (h :
  ∀ w7, w7 = (World.alloc w (.cells #[(Value.int .i64 o_2), (Value.int .i64 o_3), (Value.int .i64 o_4), (Value.string o_5), (Value.int .i64 o_6)] 31)) →
  ∃ n8, World.cell? w7 (Addr.add ⟨Array.size (World.heap w), 0, none⟩ 1) = some (Value.int .i64 n8) ∧
  ∃ n9, World.cell? w7 (Addr.add ⟨Array.size (World.heap w), 0, none⟩ 2) = some (Value.int .i64 n9) ∧
  V.lt (IntKind.wrap .i64 ((BitVec.toNat (BitVec.ofInt 64 n8 &&& BitVec.ofInt 64 3) : Nat) : Int)) fun x10 =>
  V.lt (IntKind.wrap .i64 ((BitVec.toNat (BitVec.ofInt 64 n9 &&& BitVec.ofInt 64 3) : Nat) : Int)) fun x11 =>
  ∃ S12 : World → Prop, S12 (World.drew (World.drew w7)) ∧
  V.ptr w_1 fun a14 =>
  V.when (decide ((0 : Int) ≤ x10 ∧ (x10 : Int) < 4)) (∃ p15, (∀ w13, S12 w13 → World.cell? w13 (Addr.add (Addr.add a14 0) ((Int.toNat x10) * 1)) = some (Value.pointer p15)) ∧
  V.ptr w_1 fun a16 =>
  V.when (decide ((0 : Int) ≤ x10 ∧ (x10 : Int) < 4)) (∃ n17, ∃ A18, ∃ A18l, ∃ A18c, V.cellsC (fun a_ x_ => ∀ w13, S12 w13 → World.cell? w13 a_ = some x_) (Addr.add (Addr.add a16 4) ((Int.toNat x10) * 2)) [(Value.int .i64 n17), (Value.slice A18 A18l A18c)] ∧
  ∀ w19, w19 = (World.alloc (World.drew (World.drew w7)) (.cells #[(Value.int .i64 0), (Value.slice none 0 0)] 54)) →
  S12 w19 ∧
  ∃ w20, Sem.run Try.prog (Instr.storeAt 54 (Value.pointer (some ⟨Array.size (World.heap (World.drew (World.drew w7))), 0, none⟩)) (Value.agg #[(Value.int .i64 n17), (Value.slice A18 A18l A18c)])) w19 = .ok () w20 ∧
  ∃ n21, World.cell? w20 (Addr.add ⟨Array.size (World.heap w), 0, none⟩ 0) = some (Value.int .i64 n21) ∧
  V.sel (n21 == 1)
  (V.sel (n21 == 1)
  (∃ n22, ∃ n23, ∃ n24, ∃ s25, ∃ n26, V.cellsC (fun a_ x_ => World.cell? w20 a_ = some x_) ⟨Array.size (World.heap w), 0, none⟩ [(Value.int .i64 n22), (Value.int .i64 n23), (Value.int .i64 n24), (Value.string s25), (Value.int .i64 n26)] ∧
  Calls Try.prog 33 #[(Value.pointer w_1), (Value.agg #[(Value.int .i64 n22), (Value.int .i64 n23), (Value.int .i64 n24), (Value.string s25), (Value.int .i64 n26)]), (Value.int .i64 x10)] w20 fun e28 w29 =>
  ∃ b27, e28 = Ending.returned (Value.bool b27) ∧
  R (Ending.returned (Value.bool b27)) w29)
  (V.sel (n21 == 5)
  (∃ s30, World.cell? w20 (Addr.add ⟨Array.size (World.heap w), 0, none⟩ 3) = some (Value.string s30) ∧
  Calls Try.prog 15 #[(Value.pointer p15), (Value.string s30)] w20 fun e34 w35 =>
  ∃ n31, ∃ n32, ∃ b33, e34 = Ending.returned (Value.tuple #[(Value.int .i64 n31), (Value.int .i64 n32), (Value.bool b33)]) ∧
  ∃ n36, ∃ A37, ∃ A37l, ∃ A37c, V.cellsC (fun a_ x_ => World.cell? w35 a_ = some x_) ⟨Array.size (World.heap (World.drew (World.drew w7))), 0, none⟩ [(Value.int .i64 n36), (Value.slice A37 A37l A37c)] ∧
  ∃ s38, World.cell? w35 (Addr.add ⟨Array.size (World.heap w), 0, none⟩ 3) = some (Value.string s38) ∧
  Calls Try.prog 34 #[(Value.agg #[(Value.int .i64 n36), (Value.slice A37 A37l A37c)]), (Value.string s38)] w35 fun e40 w41 =>
  ∃ n39, e40 = Ending.returned (Value.int .i64 n39) ∧
  V.sel (decide (n39 < 0))
  (V.sel (n31 == 0)
  (V.sel (n32 == 0)
  (R (Ending.returned (Value.bool (!b33))) w41)
  (R (Ending.returned (Value.bool false)) w41))
  (R (Ending.returned (Value.bool false)) w41))
  (V.sel b33
  (∃ A42, ∃ A42l, ∃ A42c, World.cell? w41 (Addr.add ⟨Array.size (World.heap (World.drew (World.drew w7))), 0, none⟩ 1) = some (Value.slice A42 A42l A42c) ∧
  V.when (decide ((0 : Int) ≤ n39 ∧ (n39 : Int) < ((A42l : Nat) : Int))) (V.ptr A42 fun a43 =>
  ∃ n44, World.cell? w41 (Addr.add (Addr.add a43 ((Int.toNat n39) * 3)) 0) = some (Value.int .i64 n44) ∧
  V.sel (n31 == n44)
  (∃ A45, ∃ A45l, ∃ A45c, World.cell? w41 (Addr.add ⟨Array.size (World.heap (World.drew (World.drew w7))), 0, none⟩ 1) = some (Value.slice A45 A45l A45c) ∧
  V.when (decide ((0 : Int) ≤ n39 ∧ (n39 : Int) < ((A45l : Nat) : Int))) (V.ptr A45 fun a46 =>
  ∃ n47, World.cell? w41 (Addr.add (Addr.add a46 ((Int.toNat n39) * 3)) 2) = some (Value.int .i64 n47) ∧
  R (Ending.returned (Value.bool (n32 == n47))) w41))
  (R (Ending.returned (Value.bool false)) w41)))
  (R (Ending.returned (Value.bool false)) w41)))
  (V.sel (n21 == 6)
  (∃ n48, World.cell? w20 (Addr.add ⟨Array.size (World.heap w), 0, none⟩ 4) = some (Value.int .i64 n48) ∧
  Calls Try.prog 18 #[(Value.pointer p15), (Value.int .i64 n48)] w20 fun e52 w53 =>
  ∃ s49, ∃ n50, ∃ b51, e52 = Ending.returned (Value.tuple #[(Value.string s49), (Value.int .i64 n50), (Value.bool b51)]) ∧
  ∃ n54, ∃ A55, ∃ A55l, ∃ A55c, V.cellsC (fun a_ x_ => World.cell? w53 a_ = some x_) ⟨Array.size (World.heap (World.drew (World.drew w7))), 0, none⟩ [(Value.int .i64 n54), (Value.slice A55 A55l A55c)] ∧
  ∃ n56, World.cell? w53 (Addr.add ⟨Array.size (World.heap w), 0, none⟩ 4) = some (Value.int .i64 n56) ∧
  Calls Try.prog 35 #[(Value.agg #[(Value.int .i64 n54), (Value.slice A55 A55l A55c)]), (Value.int .i64 n56)] w53 fun e58 w59 =>
  ∃ n57, e58 = Ending.returned (Value.int .i64 n57) ∧
  V.sel (decide (n57 < 0))
  (V.sel (ByteArray.toList s49 == ByteArray.toList ByteArray.empty)
  (V.sel (n50 == 0)
  (R (Ending.returned (Value.bool (!b51))) w59)
  (R (Ending.returned (Value.bool false)) w59))
  (R (Ending.returned (Value.bool false)) w59))
  (V.sel b51
  (∃ A60, ∃ A60l, ∃ A60c, World.cell? w59 (Addr.add ⟨Array.size (World.heap (World.drew (World.drew w7))), 0, none⟩ 1) = some (Value.slice A60 A60l A60c) ∧
  V.when (decide ((0 : Int) ≤ n57 ∧ (n57 : Int) < ((A60l : Nat) : Int))) (V.ptr A60 fun a61 =>
  ∃ s62, World.cell? w59 (Addr.add (Addr.add a61 ((Int.toNat n57) * 3)) 1) = some (Value.string s62) ∧
  V.sel (ByteArray.toList s49 == ByteArray.toList s62)
  (∃ A63, ∃ A63l, ∃ A63c, World.cell? w59 (Addr.add ⟨Array.size (World.heap (World.drew (World.drew w7))), 0, none⟩ 1) = some (Value.slice A63 A63l A63c) ∧
  V.when (decide ((0 : Int) ≤ n57 ∧ (n57 : Int) < ((A63l : Nat) : Int))) (V.ptr A63 fun a64 =>
  ∃ n65, World.cell? w59 (Addr.add (Addr.add a64 ((Int.toNat n57) * 3)) 2) = some (Value.int .i64 n65) ∧
  R (Ending.returned (Value.bool (n50 == n65))) w59))
  (R (Ending.returned (Value.bool false)) w59)))
  (R (Ending.returned (Value.bool false)) w59)))
  (V.sel (n21 == 7)
  (∃ S66 : World → Prop, S66 (World.drew w20) ∧
  ∃ A68, ∃ A68l, ∃ A68c, (∀ w67, S66 w67 → World.cell? w67 (Addr.add ⟨Array.size (World.heap (World.drew (World.drew w7))), 0, none⟩ 1) = some (Value.slice A68 A68l A68c)) ∧
  Calls Try.prog 14 #[(Value.pointer p15)] (World.drew w20) fun e70 w71 =>
  ∃ n69, e70 = Ending.returned (Value.int .i64 n69) ∧
  S66 w71 ∧
  V.sel (n69 == ((A68l : Nat) : Int))
  (∃ n72, ∃ A73, ∃ A73l, ∃ A73c, V.cellsC (fun a_ x_ => ∀ w67, S66 w67 → World.cell? w67 a_ = some x_) ⟨Array.size (World.heap (World.drew (World.drew w7))), 0, none⟩ [(Value.int .i64 n72), (Value.slice A73 A73l A73c)] ∧
  Calls Try.prog 32 #[(Value.pointer p15)] w71 fun e75 w76 =>
  ∃ n74, e75 = Ending.returned (Value.int .i64 n74) ∧
  S66 w76 ∧
  Calls Try.prog 36 #[(Value.agg #[(Value.int .i64 n72), (Value.slice A73 A73l A73c)])] w76 fun e78 w79 =>
  ∃ n77, e78 = Ending.returned (Value.int .i64 n77) ∧
  S66 w79 ∧
  R (Ending.returned (Value.bool (n74 == n77))) w79)
  (R (Ending.returned (Value.bool false)) w71))
  (V.sel (n21 == 8)
  (∃ S80 : World → Prop, S80 (World.drew w20) ∧
  ∃ n82, ∃ A83, ∃ A83l, ∃ A83c, V.cellsC (fun a_ x_ => ∀ w81, S80 w81 → World.cell? w81 a_ = some x_) ⟨Array.size (World.heap (World.drew (World.drew w7))), 0, none⟩ [(Value.int .i64 n82), (Value.slice A83 A83l A83c)] ∧
  Calls Try.prog 17 #[(Value.pointer p15)] (World.drew w20) fun e85 w86 =>
  ∃ A84, ∃ A84l, ∃ A84c, e85 = Ending.returned (Value.slice A84 A84l A84c) ∧
  S80 w86 ∧
  Calls Try.prog 37 #[(Value.agg #[(Value.int .i64 n82), (Value.slice A83 A83l A83c)])] w86 fun e88 w89 =>
  ∃ A87, ∃ A87l, ∃ A87c, e88 = Ending.returned (Value.slice A87 A87l A87c) ∧
  S80 w89 ∧
  Calls Try.prog 16 #[(Value.slice A84 A84l A84c), (Value.slice A87 A87l A87c)] w89 fun e91 w92 =>
  ∃ b90, e91 = Ending.returned (Value.bool b90) ∧
  S80 w92 ∧
  R (Ending.returned (Value.bool b90)) w92)
  (V.sel (n21 == 9)
  (∃ n93, World.cell? w20 (Addr.add ⟨Array.size (World.heap w), 0, none⟩ 4) = some (Value.int .i64 n93) ∧
  ∃ S94 : World → Prop, S94 (World.drew w20) ∧
  ∃ n96, ∃ A97, ∃ A97l, ∃ A97c, V.cellsC (fun a_ x_ => ∀ w95, S94 w95 → World.cell? w95 a_ = some x_) ⟨Array.size (World.heap (World.drew (World.drew w7))), 0, none⟩ [(Value.int .i64 n96), (Value.slice A97 A97l A97c)] ∧
  Calls Try.prog 38 #[(Value.pointer p15), (Value.int .i64 (if 66000 < n93 then 66000 else n93))] (World.drew w20) fun e99 w100 =>
  ∃ A98, ∃ A98l, ∃ A98c, e99 = Ending.returned (Value.slice A98 A98l A98c) ∧
  S94 w100 ∧
  Calls Try.prog 23 #[(Value.agg #[(Value.int .i64 n96), (Value.slice A97 A97l A97c)])] w100 fun e102 w103 =>
  ∃ A101, ∃ A101l, ∃ A101c, e102 = Ending.returned (Value.slice A101 A101l A101c) ∧
  S94 w103 ∧
  Calls Try.prog 24 #[(Value.slice A98 A98l A98c), (Value.slice A101 A101l A101c), (Value.int .i64 (if 66000 < n93 then 66000 else n93))] w103 fun e105 w106 =>
  ∃ b104, e105 = Ending.returned (Value.bool b104) ∧
  S94 w106 ∧
  R (Ending.returned (Value.bool b104)) w106)
  (V.sel (n21 == 10)
  (Calls Try.prog 39 #[(Value.pointer w_1), (Value.int .i64 x10), (Value.int .i64 x11)] w20 fun e108 w109 =>
  ∃ b107, e108 = Ending.returned (Value.bool b107) ∧
  R (Ending.returned (Value.bool b107)) w109)
  (R (Ending.returned (Value.bool true)) w20))))))))
  (V.sel (n21 == 2)
  (V.sel (n21 == 2)
  (∃ n110, ∃ n111, ∃ n112, ∃ s113, ∃ n114, V.cellsC (fun a_ x_ => World.cell? w20 a_ = some x_) ⟨Array.size (World.heap w), 0, none⟩ [(Value.int .i64 n110), (Value.int .i64 n111), (Value.int .i64 n112), (Value.string s113), (Value.int .i64 n114)] ∧
  Calls Try.prog 33 #[(Value.pointer w_1), (Value.agg #[(Value.int .i64 n110), (Value.int .i64 n111), (Value.int .i64 n112), (Value.string s113), (Value.int .i64 n114)]), (Value.int .i64 x10)] w20 fun e116 w117 =>
  ∃ b115, e116 = Ending.returned (Value.bool b115) ∧
  R (Ending.returned (Value.bool b115)) w117)
  (V.sel (n21 == 5)
  (∃ s118, World.cell? w20 (Addr.add ⟨Array.size (World.heap w), 0, none⟩ 3) = some (Value.string s118) ∧
  Calls Try.prog 15 #[(Value.pointer p15), (Value.string s118)] w20 fun e122 w123 =>
  ∃ n119, ∃ n120, ∃ b121, e122 = Ending.returned (Value.tuple #[(Value.int .i64 n119), (Value.int .i64 n120), (Value.bool b121)]) ∧
  ∃ n124, ∃ A125, ∃ A125l, ∃ A125c, V.cellsC (fun a_ x_ => World.cell? w123 a_ = some x_) ⟨Array.size (World.heap (World.drew (World.drew w7))), 0, none⟩ [(Value.int .i64 n124), (Value.slice A125 A125l A125c)] ∧
  ∃ s126, World.cell? w123 (Addr.add ⟨Array.size (World.heap w), 0, none⟩ 3) = some (Value.string s126) ∧
  Calls Try.prog 34 #[(Value.agg #[(Value.int .i64 n124), (Value.slice A125 A125l A125c)]), (Value.string s126)] w123 fun e128 w129 =>
  ∃ n127, e128 = Ending.returned (Value.int .i64 n127) ∧
  V.sel (decide (n127 < 0))
  (V.sel (n119 == 0)
  (V.sel (n120 == 0)
  (R (Ending.returned (Value.bool (!b121))) w129)
  (R (Ending.returned (Value.bool false)) w129))
  (R (Ending.returned (Value.bool false)) w129))
  (V.sel b121
  (∃ A130, ∃ A130l, ∃ A130c, World.cell? w129 (Addr.add ⟨Array.size (World.heap (World.drew (World.drew w7))), 0, none⟩ 1) = some (Value.slice A130 A130l A130c) ∧
  V.when (decide ((0 : Int) ≤ n127 ∧ (n127 : Int) < ((A130l : Nat) : Int))) (V.ptr A130 fun a131 =>
  ∃ n132, World.cell? w129 (Addr.add (Addr.add a131 ((Int.toNat n127) * 3)) 0) = some (Value.int .i64 n132) ∧
  V.sel (n119 == n132)
  (∃ A133, ∃ A133l, ∃ A133c, World.cell? w129 (Addr.add ⟨Array.size (World.heap (World.drew (World.drew w7))), 0, none⟩ 1) = some (Value.slice A133 A133l A133c) ∧
  V.when (decide ((0 : Int) ≤ n127 ∧ (n127 : Int) < ((A133l : Nat) : Int))) (V.ptr A133 fun a134 =>
  ∃ n135, World.cell? w129 (Addr.add (Addr.add a134 ((Int.toNat n127) * 3)) 2) = some (Value.int .i64 n135) ∧
  R (Ending.returned (Value.bool (n120 == n135))) w129))
  (R (Ending.returned (Value.bool false)) w129)))
  (R (Ending.returned (Value.bool false)) w129)))
  (V.sel (n21 == 6)
  (∃ n136, World.cell? w20 (Addr.add ⟨Array.size (World.heap w), 0, none⟩ 4) = some (Value.int .i64 n136) ∧
  Calls Try.prog 18 #[(Value.pointer p15), (Value.int .i64 n136)] w20 fun e140 w141 =>
  ∃ s137, ∃ n138, ∃ b139, e140 = Ending.returned (Value.tuple #[(Value.string s137), (Value.int .i64 n138), (Value.bool b139)]) ∧
  ∃ n142, ∃ A143, ∃ A143l, ∃ A143c, V.cellsC (fun a_ x_ => World.cell? w141 a_ = some x_) ⟨Array.size (World.heap (World.drew (World.drew w7))), 0, none⟩ [(Value.int .i64 n142), (Value.slice A143 A143l A143c)] ∧
  ∃ n144, World.cell? w141 (Addr.add ⟨Array.size (World.heap w), 0, none⟩ 4) = some (Value.int .i64 n144) ∧
  Calls Try.prog 35 #[(Value.agg #[(Value.int .i64 n142), (Value.slice A143 A143l A143c)]), (Value.int .i64 n144)] w141 fun e146 w147 =>
  ∃ n145, e146 = Ending.returned (Value.int .i64 n145) ∧
  V.sel (decide (n145 < 0))
  (V.sel (ByteArray.toList s137 == ByteArray.toList ByteArray.empty)
  (V.sel (n138 == 0)
  (R (Ending.returned (Value.bool (!b139))) w147)
  (R (Ending.returned (Value.bool false)) w147))
  (R (Ending.returned (Value.bool false)) w147))
  (V.sel b139
  (∃ A148, ∃ A148l, ∃ A148c, World.cell? w147 (Addr.add ⟨Array.size (World.heap (World.drew (World.drew w7))), 0, none⟩ 1) = some (Value.slice A148 A148l A148c) ∧
  V.when (decide ((0 : Int) ≤ n145 ∧ (n145 : Int) < ((A148l : Nat) : Int))) (V.ptr A148 fun a149 =>
  ∃ s150, World.cell? w147 (Addr.add (Addr.add a149 ((Int.toNat n145) * 3)) 1) = some (Value.string s150) ∧
  V.sel (ByteArray.toList s137 == ByteArray.toList s150)
  (∃ A151, ∃ A151l, ∃ A151c, World.cell? w147 (Addr.add ⟨Array.size (World.heap (World.drew (World.drew w7))), 0, none⟩ 1) = some (Value.slice A151 A151l A151c) ∧
  V.when (decide ((0 : Int) ≤ n145 ∧ (n145 : Int) < ((A151l : Nat) : Int))) (V.ptr A151 fun a152 =>
  ∃ n153, World.cell? w147 (Addr.add (Addr.add a152 ((Int.toNat n145) * 3)) 2) = some (Value.int .i64 n153) ∧
  R (Ending.returned (Value.bool (n138 == n153))) w147))
  (R (Ending.returned (Value.bool false)) w147)))
  (R (Ending.returned (Value.bool false)) w147)))
  (V.sel (n21 == 7)
  (∃ S154 : World → Prop, S154 (World.drew w20) ∧
  ∃ A156, ∃ A156l, ∃ A156c, (∀ w155, S154 w155 → World.cell? w155 (Addr.add ⟨Array.size (World.heap (World.drew (World.drew w7))), 0, none⟩ 1) = some (Value.slice A156 A156l A156c)) ∧
  Calls Try.prog 14 #[(Value.pointer p15)] (World.drew w20) fun e158 w159 =>
  ∃ n157, e158 = Ending.returned (Value.int .i64 n157) ∧
  S154 w159 ∧
  V.sel (n157 == ((A156l : Nat) : Int))
  (∃ n160, ∃ A161, ∃ A161l, ∃ A161c, V.cellsC (fun a_ x_ => ∀ w155, S154 w155 → World.cell? w155 a_ = some x_) ⟨Array.size (World.heap (World.drew (World.drew w7))), 0, none⟩ [(Value.int .i64 n160), (Value.slice A161 A161l A161c)] ∧
  Calls Try.prog 32 #[(Value.pointer p15)] w159 fun e163 w164 =>
  ∃ n162, e163 = Ending.returned (Value.int .i64 n162) ∧
  S154 w164 ∧
  Calls Try.prog 36 #[(Value.agg #[(Value.int .i64 n160), (Value.slice A161 A161l A161c)])] w164 fun e166 w167 =>
  ∃ n165, e166 = Ending.returned (Value.int .i64 n165) ∧
  S154 w167 ∧
  R (Ending.returned (Value.bool (n162 == n165))) w167)
  (R (Ending.returned (Value.bool false)) w159))
  (V.sel (n21 == 8)
  (∃ S168 : World → Prop, S168 (World.drew w20) ∧
  ∃ n170, ∃ A171, ∃ A171l, ∃ A171c, V.cellsC (fun a_ x_ => ∀ w169, S168 w169 → World.cell? w169 a_ = some x_) ⟨Array.size (World.heap (World.drew (World.drew w7))), 0, none⟩ [(Value.int .i64 n170), (Value.slice A171 A171l A171c)] ∧
  Calls Try.prog 17 #[(Value.pointer p15)] (World.drew w20) fun e173 w174 =>
  ∃ A172, ∃ A172l, ∃ A172c, e173 = Ending.returned (Value.slice A172 A172l A172c) ∧
  S168 w174 ∧
  Calls Try.prog 37 #[(Value.agg #[(Value.int .i64 n170), (Value.slice A171 A171l A171c)])] w174 fun e176 w177 =>
  ∃ A175, ∃ A175l, ∃ A175c, e176 = Ending.returned (Value.slice A175 A175l A175c) ∧
  S168 w177 ∧
  Calls Try.prog 16 #[(Value.slice A172 A172l A172c), (Value.slice A175 A175l A175c)] w177 fun e179 w180 =>
  ∃ b178, e179 = Ending.returned (Value.bool b178) ∧
  S168 w180 ∧
  R (Ending.returned (Value.bool b178)) w180)
  (V.sel (n21 == 9)
  (∃ n181, World.cell? w20 (Addr.add ⟨Array.size (World.heap w), 0, none⟩ 4) = some (Value.int .i64 n181) ∧
  ∃ S182 : World → Prop, S182 (World.drew w20) ∧
  ∃ n184, ∃ A185, ∃ A185l, ∃ A185c, V.cellsC (fun a_ x_ => ∀ w183, S182 w183 → World.cell? w183 a_ = some x_) ⟨Array.size (World.heap (World.drew (World.drew w7))), 0, none⟩ [(Value.int .i64 n184), (Value.slice A185 A185l A185c)] ∧
  Calls Try.prog 38 #[(Value.pointer p15), (Value.int .i64 (if 66000 < n181 then 66000 else n181))] (World.drew w20) fun e187 w188 =>
  ∃ A186, ∃ A186l, ∃ A186c, e187 = Ending.returned (Value.slice A186 A186l A186c) ∧
  S182 w188 ∧
  Calls Try.prog 23 #[(Value.agg #[(Value.int .i64 n184), (Value.slice A185 A185l A185c)])] w188 fun e190 w191 =>
  ∃ A189, ∃ A189l, ∃ A189c, e190 = Ending.returned (Value.slice A189 A189l A189c) ∧
  S182 w191 ∧
  Calls Try.prog 24 #[(Value.slice A186 A186l A186c), (Value.slice A189 A189l A189c), (Value.int .i64 (if 66000 < n181 then 66000 else n181))] w191 fun e193 w194 =>
  ∃ b192, e193 = Ending.returned (Value.bool b192) ∧
  S182 w194 ∧
  R (Ending.returned (Value.bool b192)) w194)
  (V.sel (n21 == 10)
  (Calls Try.prog 39 #[(Value.pointer w_1), (Value.int .i64 x10), (Value.int .i64 x11)] w20 fun e196 w197 =>
  ∃ b195, e196 = Ending.returned (Value.bool b195) ∧
  R (Ending.returned (Value.bool b195)) w197)
  (R (Ending.returned (Value.bool true)) w20))))))))
  (V.sel (n21 == 3)
  (V.sel (n21 == 3)
  (∃ n198, ∃ n199, ∃ n200, ∃ s201, ∃ n202, V.cellsC (fun a_ x_ => World.cell? w20 a_ = some x_) ⟨Array.size (World.heap w), 0, none⟩ [(Value.int .i64 n198), (Value.int .i64 n199), (Value.int .i64 n200), (Value.string s201), (Value.int .i64 n202)] ∧
  Calls Try.prog 33 #[(Value.pointer w_1), (Value.agg #[(Value.int .i64 n198), (Value.int .i64 n199), (Value.int .i64 n200), (Value.string s201), (Value.int .i64 n202)]), (Value.int .i64 x10)] w20 fun e204 w205 =>
  ∃ b203, e204 = Ending.returned (Value.bool b203) ∧
  R (Ending.returned (Value.bool b203)) w205)
  (V.sel (n21 == 5)
  (∃ s206, World.cell? w20 (Addr.add ⟨Array.size (World.heap w), 0, none⟩ 3) = some (Value.string s206) ∧
  Calls Try.prog 15 #[(Value.pointer p15), (Value.string s206)] w20 fun e210 w211 =>
  ∃ n207, ∃ n208, ∃ b209, e210 = Ending.returned (Value.tuple #[(Value.int .i64 n207), (Value.int .i64 n208), (Value.bool b209)]) ∧
  ∃ n212, ∃ A213, ∃ A213l, ∃ A213c, V.cellsC (fun a_ x_ => World.cell? w211 a_ = some x_) ⟨Array.size (World.heap (World.drew (World.drew w7))), 0, none⟩ [(Value.int .i64 n212), (Value.slice A213 A213l A213c)] ∧
  ∃ s214, World.cell? w211 (Addr.add ⟨Array.size (World.heap w), 0, none⟩ 3) = some (Value.string s214) ∧
  Calls Try.prog 34 #[(Value.agg #[(Value.int .i64 n212), (Value.slice A213 A213l A213c)]), (Value.string s214)] w211 fun e216 w217 =>
  ∃ n215, e216 = Ending.returned (Value.int .i64 n215) ∧
  V.sel (decide (n215 < 0))
  (V.sel (n207 == 0)
  (V.sel (n208 == 0)
  (R (Ending.returned (Value.bool (!b209))) w217)
  (R (Ending.returned (Value.bool false)) w217))
  (R (Ending.returned (Value.bool false)) w217))
  (V.sel b209
  (∃ A218, ∃ A218l, ∃ A218c, World.cell? w217 (Addr.add ⟨Array.size (World.heap (World.drew (World.drew w7))), 0, none⟩ 1) = some (Value.slice A218 A218l A218c) ∧
  V.when (decide ((0 : Int) ≤ n215 ∧ (n215 : Int) < ((A218l : Nat) : Int))) (V.ptr A218 fun a219 =>
  ∃ n220, World.cell? w217 (Addr.add (Addr.add a219 ((Int.toNat n215) * 3)) 0) = some (Value.int .i64 n220) ∧
  V.sel (n207 == n220)
  (∃ A221, ∃ A221l, ∃ A221c, World.cell? w217 (Addr.add ⟨Array.size (World.heap (World.drew (World.drew w7))), 0, none⟩ 1) = some (Value.slice A221 A221l A221c) ∧
  V.when (decide ((0 : Int) ≤ n215 ∧ (n215 : Int) < ((A221l : Nat) : Int))) (V.ptr A221 fun a222 =>
  ∃ n223, World.cell? w217 (Addr.add (Addr.add a222 ((Int.toNat n215) * 3)) 2) = some (Value.int .i64 n223) ∧
  R (Ending.returned (Value.bool (n208 == n223))) w217))
  (R (Ending.returned (Value.bool false)) w217)))
  (R (Ending.returned (Value.bool false)) w217)))
  (V.sel (n21 == 6)
  (∃ n224, World.cell? w20 (Addr.add ⟨Array.size (World.heap w), 0, none⟩ 4) = some (Value.int .i64 n224) ∧
  Calls Try.prog 18 #[(Value.pointer p15), (Value.int .i64 n224)] w20 fun e228 w229 =>
  ∃ s225, ∃ n226, ∃ b227, e228 = Ending.returned (Value.tuple #[(Value.string s225), (Value.int .i64 n226), (Value.bool b227)]) ∧
  ∃ n230, ∃ A231, ∃ A231l, ∃ A231c, V.cellsC (fun a_ x_ => World.cell? w229 a_ = some x_) ⟨Array.size (World.heap (World.drew (World.drew w7))), 0, none⟩ [(Value.int .i64 n230), (Value.slice A231 A231l A231c)] ∧
  ∃ n232, World.cell? w229 (Addr.add ⟨Array.size (World.heap w), 0, none⟩ 4) = some (Value.int .i64 n232) ∧
  Calls Try.prog 35 #[(Value.agg #[(Value.int .i64 n230), (Value.slice A231 A231l A231c)]), (Value.int .i64 n232)] w229 fun e234 w235 =>
  ∃ n233, e234 = Ending.returned (Value.int .i64 n233) ∧
  V.sel (decide (n233 < 0))
  (V.sel (ByteArray.toList s225 == ByteArray.toList ByteArray.empty)
  (V.sel (n226 == 0)
  (R (Ending.returned (Value.bool (!b227))) w235)
  (R (Ending.returned (Value.bool false)) w235))
  (R (Ending.returned (Value.bool false)) w235))
  (V.sel b227
  (∃ A236, ∃ A236l, ∃ A236c, World.cell? w235 (Addr.add ⟨Array.size (World.heap (World.drew (World.drew w7))), 0, none⟩ 1) = some (Value.slice A236 A236l A236c) ∧
  V.when (decide ((0 : Int) ≤ n233 ∧ (n233 : Int) < ((A236l : Nat) : Int))) (V.ptr A236 fun a237 =>
  ∃ s238, World.cell? w235 (Addr.add (Addr.add a237 ((Int.toNat n233) * 3)) 1) = some (Value.string s238) ∧
  V.sel (ByteArray.toList s225 == ByteArray.toList s238)
  (∃ A239, ∃ A239l, ∃ A239c, World.cell? w235 (Addr.add ⟨Array.size (World.heap (World.drew (World.drew w7))), 0, none⟩ 1) = some (Value.slice A239 A239l A239c) ∧
  V.when (decide ((0 : Int) ≤ n233 ∧ (n233 : Int) < ((A239l : Nat) : Int))) (V.ptr A239 fun a240 =>
  ∃ n241, World.cell? w235 (Addr.add (Addr.add a240 ((Int.toNat n233) * 3)) 2) = some (Value.int .i64 n241) ∧
  R (Ending.returned (Value.bool (n226 == n241))) w235))
  (R (Ending.returned (Value.bool false)) w235)))
  (R (Ending.returned (Value.bool false)) w235)))
  (V.sel (n21 == 7)
  (∃ S242 : World → Prop, S242 (World.drew w20) ∧
  ∃ A244, ∃ A244l, ∃ A244c, (∀ w243, S242 w243 → World.cell? w243 (Addr.add ⟨Array.size (World.heap (World.drew (World.drew w7))), 0, none⟩ 1) = some (Value.slice A244 A244l A244c)) ∧
  Calls Try.prog 14 #[(Value.pointer p15)] (World.drew w20) fun e246 w247 =>
  ∃ n245, e246 = Ending.returned (Value.int .i64 n245) ∧
  S242 w247 ∧
  V.sel (n245 == ((A244l : Nat) : Int))
  (∃ n248, ∃ A249, ∃ A249l, ∃ A249c, V.cellsC (fun a_ x_ => ∀ w243, S242 w243 → World.cell? w243 a_ = some x_) ⟨Array.size (World.heap (World.drew (World.drew w7))), 0, none⟩ [(Value.int .i64 n248), (Value.slice A249 A249l A249c)] ∧
  Calls Try.prog 32 #[(Value.pointer p15)] w247 fun e251 w252 =>
  ∃ n250, e251 = Ending.returned (Value.int .i64 n250) ∧
  S242 w252 ∧
  Calls Try.prog 36 #[(Value.agg #[(Value.int .i64 n248), (Value.slice A249 A249l A249c)])] w252 fun e254 w255 =>
  ∃ n253, e254 = Ending.returned (Value.int .i64 n253) ∧
  S242 w255 ∧
  R (Ending.returned (Value.bool (n250 == n253))) w255)
  (R (Ending.returned (Value.bool false)) w247))
  (V.sel (n21 == 8)
  (∃ S256 : World → Prop, S256 (World.drew w20) ∧
  ∃ n258, ∃ A259, ∃ A259l, ∃ A259c, V.cellsC (fun a_ x_ => ∀ w257, S256 w257 → World.cell? w257 a_ = some x_) ⟨Array.size (World.heap (World.drew (World.drew w7))), 0, none⟩ [(Value.int .i64 n258), (Value.slice A259 A259l A259c)] ∧
  Calls Try.prog 17 #[(Value.pointer p15)] (World.drew w20) fun e261 w262 =>
  ∃ A260, ∃ A260l, ∃ A260c, e261 = Ending.returned (Value.slice A260 A260l A260c) ∧
  S256 w262 ∧
  Calls Try.prog 37 #[(Value.agg #[(Value.int .i64 n258), (Value.slice A259 A259l A259c)])] w262 fun e264 w265 =>
  ∃ A263, ∃ A263l, ∃ A263c, e264 = Ending.returned (Value.slice A263 A263l A263c) ∧
  S256 w265 ∧
  Calls Try.prog 16 #[(Value.slice A260 A260l A260c), (Value.slice A263 A263l A263c)] w265 fun e267 w268 =>
  ∃ b266, e267 = Ending.returned (Value.bool b266) ∧
  S256 w268 ∧
  R (Ending.returned (Value.bool b266)) w268)
  (V.sel (n21 == 9)
  (∃ n269, World.cell? w20 (Addr.add ⟨Array.size (World.heap w), 0, none⟩ 4) = some (Value.int .i64 n269) ∧
  ∃ S270 : World → Prop, S270 (World.drew w20) ∧
  ∃ n272, ∃ A273, ∃ A273l, ∃ A273c, V.cellsC (fun a_ x_ => ∀ w271, S270 w271 → World.cell? w271 a_ = some x_) ⟨Array.size (World.heap (World.drew (World.drew w7))), 0, none⟩ [(Value.int .i64 n272), (Value.slice A273 A273l A273c)] ∧
  Calls Try.prog 38 #[(Value.pointer p15), (Value.int .i64 (if 66000 < n269 then 66000 else n269))] (World.drew w20) fun e275 w276 =>
  ∃ A274, ∃ A274l, ∃ A274c, e275 = Ending.returned (Value.slice A274 A274l A274c) ∧
  S270 w276 ∧
  Calls Try.prog 23 #[(Value.agg #[(Value.int .i64 n272), (Value.slice A273 A273l A273c)])] w276 fun e278 w279 =>
  ∃ A277, ∃ A277l, ∃ A277c, e278 = Ending.returned (Value.slice A277 A277l A277c) ∧
  S270 w279 ∧
  Calls Try.prog 24 #[(Value.slice A274 A274l A274c), (Value.slice A277 A277l A277c), (Value.int .i64 (if 66000 < n269 then 66000 else n269))] w279 fun e281 w282 =>
  ∃ b280, e281 = Ending.returned (Value.bool b280) ∧
  S270 w282 ∧
  R (Ending.returned (Value.bool b280)) w282)
  (V.sel (n21 == 10)
  (Calls Try.prog 39 #[(Value.pointer w_1), (Value.int .i64 x10), (Value.int .i64 x11)] w20 fun e284 w285 =>
  ∃ b283, e284 = Ending.returned (Value.bool b283) ∧
  R (Ending.returned (Value.bool b283)) w285)
  (R (Ending.returned (Value.bool true)) w20))))))))
  (V.sel (n21 == 4)
  (∃ n286, ∃ n287, ∃ n288, ∃ s289, ∃ n290, V.cellsC (fun a_ x_ => World.cell? w20 a_ = some x_) ⟨Array.size (World.heap w), 0, none⟩ [(Value.int .i64 n286), (Value.int .i64 n287), (Value.int .i64 n288), (Value.string s289), (Value.int .i64 n290)] ∧
  Calls Try.prog 33 #[(Value.pointer w_1), (Value.agg #[(Value.int .i64 n286), (Value.int .i64 n287), (Value.int .i64 n288), (Value.string s289), (Value.int .i64 n290)]), (Value.int .i64 x10)] w20 fun e292 w293 =>
  ∃ b291, e292 = Ending.returned (Value.bool b291) ∧
  R (Ending.returned (Value.bool b291)) w293)
  (V.sel (n21 == 5)
  (∃ s294, World.cell? w20 (Addr.add ⟨Array.size (World.heap w), 0, none⟩ 3) = some (Value.string s294) ∧
  Calls Try.prog 15 #[(Value.pointer p15), (Value.string s294)] w20 fun e298 w299 =>
  ∃ n295, ∃ n296, ∃ b297, e298 = Ending.returned (Value.tuple #[(Value.int .i64 n295), (Value.int .i64 n296), (Value.bool b297)]) ∧
  ∃ n300, ∃ A301, ∃ A301l, ∃ A301c, V.cellsC (fun a_ x_ => World.cell? w299 a_ = some x_) ⟨Array.size (World.heap (World.drew (World.drew w7))), 0, none⟩ [(Value.int .i64 n300), (Value.slice A301 A301l A301c)] ∧
  ∃ s302, World.cell? w299 (Addr.add ⟨Array.size (World.heap w), 0, none⟩ 3) = some (Value.string s302) ∧
  Calls Try.prog 34 #[(Value.agg #[(Value.int .i64 n300), (Value.slice A301 A301l A301c)]), (Value.string s302)] w299 fun e304 w305 =>
  ∃ n303, e304 = Ending.returned (Value.int .i64 n303) ∧
  V.sel (decide (n303 < 0))
  (V.sel (n295 == 0)
  (V.sel (n296 == 0)
  (R (Ending.returned (Value.bool (!b297))) w305)
  (R (Ending.returned (Value.bool false)) w305))
  (R (Ending.returned (Value.bool false)) w305))
  (V.sel b297
  (∃ A306, ∃ A306l, ∃ A306c, World.cell? w305 (Addr.add ⟨Array.size (World.heap (World.drew (World.drew w7))), 0, none⟩ 1) = some (Value.slice A306 A306l A306c) ∧
  V.when (decide ((0 : Int) ≤ n303 ∧ (n303 : Int) < ((A306l : Nat) : Int))) (V.ptr A306 fun a307 =>
  ∃ n308, World.cell? w305 (Addr.add (Addr.add a307 ((Int.toNat n303) * 3)) 0) = some (Value.int .i64 n308) ∧
  V.sel (n295 == n308)
  (∃ A309, ∃ A309l, ∃ A309c, World.cell? w305 (Addr.add ⟨Array.size (World.heap (World.drew (World.drew w7))), 0, none⟩ 1) = some (Value.slice A309 A309l A309c) ∧
  V.when (decide ((0 : Int) ≤ n303 ∧ (n303 : Int) < ((A309l : Nat) : Int))) (V.ptr A309 fun a310 =>
  ∃ n311, World.cell? w305 (Addr.add (Addr.add a310 ((Int.toNat n303) * 3)) 2) = some (Value.int .i64 n311) ∧
  R (Ending.returned (Value.bool (n296 == n311))) w305))
  (R (Ending.returned (Value.bool false)) w305)))
  (R (Ending.returned (Value.bool false)) w305)))
  (V.sel (n21 == 6)
  (∃ n312, World.cell? w20 (Addr.add ⟨Array.size (World.heap w), 0, none⟩ 4) = some (Value.int .i64 n312) ∧
  Calls Try.prog 18 #[(Value.pointer p15), (Value.int .i64 n312)] w20 fun e316 w317 =>
  ∃ s313, ∃ n314, ∃ b315, e316 = Ending.returned (Value.tuple #[(Value.string s313), (Value.int .i64 n314), (Value.bool b315)]) ∧
  ∃ n318, ∃ A319, ∃ A319l, ∃ A319c, V.cellsC (fun a_ x_ => World.cell? w317 a_ = some x_) ⟨Array.size (World.heap (World.drew (World.drew w7))), 0, none⟩ [(Value.int .i64 n318), (Value.slice A319 A319l A319c)] ∧
  ∃ n320, World.cell? w317 (Addr.add ⟨Array.size (World.heap w), 0, none⟩ 4) = some (Value.int .i64 n320) ∧
  Calls Try.prog 35 #[(Value.agg #[(Value.int .i64 n318), (Value.slice A319 A319l A319c)]), (Value.int .i64 n320)] w317 fun e322 w323 =>
  ∃ n321, e322 = Ending.returned (Value.int .i64 n321) ∧
  V.sel (decide (n321 < 0))
  (V.sel (ByteArray.toList s313 == ByteArray.toList ByteArray.empty)
  (V.sel (n314 == 0)
  (R (Ending.returned (Value.bool (!b315))) w323)
  (R (Ending.returned (Value.bool false)) w323))
  (R (Ending.returned (Value.bool false)) w323))
  (V.sel b315
  (∃ A324, ∃ A324l, ∃ A324c, World.cell? w323 (Addr.add ⟨Array.size (World.heap (World.drew (World.drew w7))), 0, none⟩ 1) = some (Value.slice A324 A324l A324c) ∧
  V.when (decide ((0 : Int) ≤ n321 ∧ (n321 : Int) < ((A324l : Nat) : Int))) (V.ptr A324 fun a325 =>
  ∃ s326, World.cell? w323 (Addr.add (Addr.add a325 ((Int.toNat n321) * 3)) 1) = some (Value.string s326) ∧
  V.sel (ByteArray.toList s313 == ByteArray.toList s326)
  (∃ A327, ∃ A327l, ∃ A327c, World.cell? w323 (Addr.add ⟨Array.size (World.heap (World.drew (World.drew w7))), 0, none⟩ 1) = some (Value.slice A327 A327l A327c) ∧
  V.when (decide ((0 : Int) ≤ n321 ∧ (n321 : Int) < ((A327l : Nat) : Int))) (V.ptr A327 fun a328 =>
  ∃ n329, World.cell? w323 (Addr.add (Addr.add a328 ((Int.toNat n321) * 3)) 2) = some (Value.int .i64 n329) ∧
  R (Ending.returned (Value.bool (n314 == n329))) w323))
  (R (Ending.returned (Value.bool false)) w323)))
  (R (Ending.returned (Value.bool false)) w323)))
  (V.sel (n21 == 7)
  (∃ S330 : World → Prop, S330 (World.drew w20) ∧
  ∃ A332, ∃ A332l, ∃ A332c, (∀ w331, S330 w331 → World.cell? w331 (Addr.add ⟨Array.size (World.heap (World.drew (World.drew w7))), 0, none⟩ 1) = some (Value.slice A332 A332l A332c)) ∧
  Calls Try.prog 14 #[(Value.pointer p15)] (World.drew w20) fun e334 w335 =>
  ∃ n333, e334 = Ending.returned (Value.int .i64 n333) ∧
  S330 w335 ∧
  V.sel (n333 == ((A332l : Nat) : Int))
  (∃ n336, ∃ A337, ∃ A337l, ∃ A337c, V.cellsC (fun a_ x_ => ∀ w331, S330 w331 → World.cell? w331 a_ = some x_) ⟨Array.size (World.heap (World.drew (World.drew w7))), 0, none⟩ [(Value.int .i64 n336), (Value.slice A337 A337l A337c)] ∧
  Calls Try.prog 32 #[(Value.pointer p15)] w335 fun e339 w340 =>
  ∃ n338, e339 = Ending.returned (Value.int .i64 n338) ∧
  S330 w340 ∧
  Calls Try.prog 36 #[(Value.agg #[(Value.int .i64 n336), (Value.slice A337 A337l A337c)])] w340 fun e342 w343 =>
  ∃ n341, e342 = Ending.returned (Value.int .i64 n341) ∧
  S330 w343 ∧
  R (Ending.returned (Value.bool (n338 == n341))) w343)
  (R (Ending.returned (Value.bool false)) w335))
  (V.sel (n21 == 8)
  (∃ S344 : World → Prop, S344 (World.drew w20) ∧
  ∃ n346, ∃ A347, ∃ A347l, ∃ A347c, V.cellsC (fun a_ x_ => ∀ w345, S344 w345 → World.cell? w345 a_ = some x_) ⟨Array.size (World.heap (World.drew (World.drew w7))), 0, none⟩ [(Value.int .i64 n346), (Value.slice A347 A347l A347c)] ∧
  Calls Try.prog 17 #[(Value.pointer p15)] (World.drew w20) fun e349 w350 =>
  ∃ A348, ∃ A348l, ∃ A348c, e349 = Ending.returned (Value.slice A348 A348l A348c) ∧
  S344 w350 ∧
  Calls Try.prog 37 #[(Value.agg #[(Value.int .i64 n346), (Value.slice A347 A347l A347c)])] w350 fun e352 w353 =>
  ∃ A351, ∃ A351l, ∃ A351c, e352 = Ending.returned (Value.slice A351 A351l A351c) ∧
  S344 w353 ∧
  Calls Try.prog 16 #[(Value.slice A348 A348l A348c), (Value.slice A351 A351l A351c)] w353 fun e355 w356 =>
  ∃ b354, e355 = Ending.returned (Value.bool b354) ∧
  S344 w356 ∧
  R (Ending.returned (Value.bool b354)) w356)
  (V.sel (n21 == 9)
  (∃ n357, World.cell? w20 (Addr.add ⟨Array.size (World.heap w), 0, none⟩ 4) = some (Value.int .i64 n357) ∧
  ∃ S358 : World → Prop, S358 (World.drew w20) ∧
  ∃ n360, ∃ A361, ∃ A361l, ∃ A361c, V.cellsC (fun a_ x_ => ∀ w359, S358 w359 → World.cell? w359 a_ = some x_) ⟨Array.size (World.heap (World.drew (World.drew w7))), 0, none⟩ [(Value.int .i64 n360), (Value.slice A361 A361l A361c)] ∧
  Calls Try.prog 38 #[(Value.pointer p15), (Value.int .i64 (if 66000 < n357 then 66000 else n357))] (World.drew w20) fun e363 w364 =>
  ∃ A362, ∃ A362l, ∃ A362c, e363 = Ending.returned (Value.slice A362 A362l A362c) ∧
  S358 w364 ∧
  Calls Try.prog 23 #[(Value.agg #[(Value.int .i64 n360), (Value.slice A361 A361l A361c)])] w364 fun e366 w367 =>
  ∃ A365, ∃ A365l, ∃ A365c, e366 = Ending.returned (Value.slice A365 A365l A365c) ∧
  S358 w367 ∧
  Calls Try.prog 24 #[(Value.slice A362 A362l A362c), (Value.slice A365 A365l A365c), (Value.int .i64 (if 66000 < n357 then 66000 else n357))] w367 fun e369 w370 =>
  ∃ b368, e369 = Ending.returned (Value.bool b368) ∧
  S358 w370 ∧
  R (Ending.returned (Value.bool b368)) w370)
  (V.sel (n21 == 10)
  (Calls Try.prog 39 #[(Value.pointer w_1), (Value.int .i64 x10), (Value.int .i64 x11)] w20 fun e372 w373 =>
  ∃ b371, e372 = Ending.returned (Value.bool b371) ∧
  R (Ending.returned (Value.bool b371)) w373)
  (R (Ending.returned (Value.bool true)) w20))))))))))))) :
  Calls Try.prog 20 #[(Value.pointer w_1), (Value.agg #[(Value.int .i64 o_2), (Value.int .i64 o_3), (Value.int .i64 o_4), (Value.string o_5), (Value.int .i64 o_6)])] w R :=
  V.calls_of_R ⟨V.assoc [], V.assocP [(1, V.line [0, 1, 2, 3, 4, 5, 6, 7]), (2, V.line [0, 1, 2, 3, 4, 5, 6, 7, 8, 9, 10, 11, 12, 13, 14]), (22, V.line [0, 2, 3, 4, 1, 5, 6, 7, 9, 8, 10, 11, 12, 13]), (24, V.line [0, 2, 1, 3, 4, 5]), (27, V.line [0, 1, 3, 5, 2, 4, 6, 7])], V.assocC [], V.assocS [], ⟨[], true⟩⟩ Try.func20 rfl (Eq.mp (by kernel_rfl) h)

theorem berthlaw05_seen_nf (t_1 : Option Addr) (m_2 : Int) (m_3 : Option Addr) (m_3l : Nat) (m_3c : Nat) (w : World) (R : Ending → World → Prop) (h :
  ∀ w4, w4 = (World.alloc w (.cells #[(Value.int .i64 m_2), (Value.slice m_3 m_3l m_3c)] 54)) →
  ∃ S5 : World → Prop, S5 (World.drew w4) ∧
  ∃ A7, ∃ A7l, ∃ A7c, (∀ w6, S5 w6 → World.cell? w6 (Addr.add ⟨Array.size (World.heap w), 0, none⟩ 1) = some (Value.slice A7 A7l A7c)) ∧
  Calls Try.prog 14 #[(Value.pointer t_1)] (World.drew w4) fun e9 w10 =>
  ∃ n8, e9 = Ending.returned (Value.int .i64 n8) ∧
  S5 w10 ∧
  V.sel (n8 != ((A7l : Nat) : Int))
  (R (Ending.returned (Value.bool false)) w10)
  (∃ n11, ∃ A12, ∃ A12l, ∃ A12c, V.cellsC (fun a_ x_ => ∀ w6, S5 w6 → World.cell? w6 a_ = some x_) ⟨Array.size (World.heap w), 0, none⟩ [(Value.int .i64 n11), (Value.slice A12 A12l A12c)] ∧
  Calls Try.prog 32 #[(Value.pointer t_1)] w10 fun e14 w15 =>
  ∃ n13, e14 = Ending.returned (Value.int .i64 n13) ∧
  S5 w15 ∧
  Calls Try.prog 36 #[(Value.agg #[(Value.int .i64 n11), (Value.slice A12 A12l A12c)])] w15 fun e17 w18 =>
  ∃ n16, e17 = Ending.returned (Value.int .i64 n16) ∧
  S5 w18 ∧
  V.sel (n13 != n16)
  (R (Ending.returned (Value.bool false)) w18)
  (∃ n19, ∃ A20, ∃ A20l, ∃ A20c, V.cellsC (fun a_ x_ => ∀ w6, S5 w6 → World.cell? w6 a_ = some x_) ⟨Array.size (World.heap w), 0, none⟩ [(Value.int .i64 n19), (Value.slice A20 A20l A20c)] ∧
  Calls Try.prog 17 #[(Value.pointer t_1)] w18 fun e22 w23 =>
  ∃ A21, ∃ A21l, ∃ A21c, e22 = Ending.returned (Value.slice A21 A21l A21c) ∧
  S5 w23 ∧
  Calls Try.prog 37 #[(Value.agg #[(Value.int .i64 n19), (Value.slice A20 A20l A20c)])] w23 fun e25 w26 =>
  ∃ A24, ∃ A24l, ∃ A24c, e25 = Ending.returned (Value.slice A24 A24l A24c) ∧
  S5 w26 ∧
  Calls Try.prog 16 #[(Value.slice A21 A21l A21c), (Value.slice A24 A24l A24c)] w26 fun e28 w29 =>
  ∃ b27, e28 = Ending.returned (Value.bool b27) ∧
  S5 w29 ∧
  V.sel (!b27)
  (R (Ending.returned (Value.bool false)) w29)
  (∃ A30, ∃ A30l, ∃ A30c, (∀ w6, S5 w6 → World.cell? w6 (Addr.add ⟨Array.size (World.heap w), 0, none⟩ 1) = some (Value.slice A30 A30l A30c)) ∧
  ∃ n31, ∃ A32, ∃ A32l, ∃ A32c, V.cellsC (fun a_ x_ => ∀ w6, S5 w6 → World.cell? w6 a_ = some x_) ⟨Array.size (World.heap w), 0, none⟩ [(Value.int .i64 n31), (Value.slice A32 A32l A32c)] ∧
  ∃ A33, ∃ A33l, ∃ A33c, (∀ w6, S5 w6 → World.cell? w6 (Addr.add ⟨Array.size (World.heap w), 0, none⟩ 1) = some (Value.slice A33 A33l A33c)) ∧
  Calls Try.prog 38 #[(Value.pointer t_1), (Value.int .i64 (IntKind.wrap .i64 (((A30l : Nat) : Int) + 2)))] w29 fun e35 w36 =>
  ∃ A34, ∃ A34l, ∃ A34c, e35 = Ending.returned (Value.slice A34 A34l A34c) ∧
  S5 w36 ∧
  Calls Try.prog 23 #[(Value.agg #[(Value.int .i64 n31), (Value.slice A32 A32l A32c)])] w36 fun e38 w39 =>
  ∃ A37, ∃ A37l, ∃ A37c, e38 = Ending.returned (Value.slice A37 A37l A37c) ∧
  S5 w39 ∧
  Calls Try.prog 24 #[(Value.slice A34 A34l A34c), (Value.slice A37 A37l A37c), (Value.int .i64 (IntKind.wrap .i64 (((A33l : Nat) : Int) + 2)))] w39 fun e41 w42 =>
  ∃ b40, e41 = Ending.returned (Value.bool b40) ∧
  S5 w42 ∧
  V.sel (!b40)
  (R (Ending.returned (Value.bool false)) w42)
  (∃ A43, ∃ A43l, ∃ A43c, World.cell? w42 (Addr.add ⟨Array.size (World.heap w), 0, none⟩ 1) = some (Value.slice A43 A43l A43c) ∧
  ∃ I44 : Int → World → Prop, ∃ μ45 : Int → World → Nat, I44 0 w42 ∧
  ∀ t57_46 (j47 : Nat → Value) (w48 : World), I44 t57_46 w48 →
  (V.sel (decide (t57_46 < ((A43l : Nat) : Int)))
  (V.when (decide ((0 : Int) ≤ t57_46 ∧ (t57_46 : Int) < ((A43l : Nat) : Int))) (V.ptr A43 fun a49 =>
  ∃ n50, ∃ s51, ∃ n52, V.cellsC (fun a_ x_ => World.cell? w48 a_ = some x_) (Addr.add a49 ((Int.toNat t57_46) * 3)) [(Value.int .i64 n50), (Value.string s51), (Value.int .i64 n52)] ∧
  ∀ w53, w53 = (World.alloc w48 (.cells #[(Value.int .i64 0), (Value.string ByteArray.empty), (Value.int .i64 0)] 66)) →
  ∃ w54, Sem.run Try.prog (Instr.storeAt 66 (Value.pointer (some ⟨Array.size (World.heap w48), 0, none⟩)) (Value.agg #[(Value.int .i64 n50), (Value.string s51), (Value.int .i64 n52)])) w53 = .ok () w54 ∧
  ∃ s55, World.cell? w54 (Addr.add ⟨Array.size (World.heap w48), 0, none⟩ 1) = some (Value.string s55) ∧
  Calls Try.prog 15 #[(Value.pointer t_1), (Value.string s55)] w54 fun e59 w60 =>
  ∃ n56, ∃ n57, ∃ b58, e59 = Ending.returned (Value.tuple #[(Value.int .i64 n56), (Value.int .i64 n57), (Value.bool b58)]) ∧
  ∃ n61, World.cell? w60 (Addr.add ⟨Array.size (World.heap w48), 0, none⟩ 0) = some (Value.int .i64 n61) ∧
  Calls Try.prog 18 #[(Value.pointer t_1), (Value.int .i64 n61)] w60 fun e65 w66 =>
  ∃ s62, ∃ n63, ∃ b64, e65 = Ending.returned (Value.tuple #[(Value.string s62), (Value.int .i64 n63), (Value.bool b64)]) ∧
  V.sel (!b58)
  (R (Ending.returned (Value.bool false)) w66)
  (V.sel (!b64)
  (R (Ending.returned (Value.bool false)) w66)
  (∃ n67, World.cell? w66 (Addr.add ⟨Array.size (World.heap w48), 0, none⟩ 0) = some (Value.int .i64 n67) ∧
  V.sel (n56 != n67)
  (R (Ending.returned (Value.bool false)) w66)
  (∃ n68, World.cell? w66 (Addr.add ⟨Array.size (World.heap w48), 0, none⟩ 2) = some (Value.int .i64 n68) ∧
  V.sel (n57 != n68)
  (R (Ending.returned (Value.bool false)) w66)
  (∃ s69, World.cell? w66 (Addr.add ⟨Array.size (World.heap w48), 0, none⟩ 1) = some (Value.string s69) ∧
  V.sel (!(ByteArray.toList s62 == ByteArray.toList s69))
  (R (Ending.returned (Value.bool false)) w66)
  (∃ n70, World.cell? w66 (Addr.add ⟨Array.size (World.heap w48), 0, none⟩ 2) = some (Value.int .i64 n70) ∧
  V.sel (n63 != n70)
  (R (Ending.returned (Value.bool false)) w66)
  (I44 (IntKind.wrap .i64 (t57_46 + 1)) w66 ∧ μ45 (IntKind.wrap .i64 (t57_46 + 1)) w66 < μ45 t57_46 w48))))))))
  (∃ I71 : Int → World → Prop, ∃ μ72 : Int → World → Nat, I71 (-1) w48 ∧
  ∀ slot_73 (j74 : Nat → Value) (w75 : World), I71 slot_73 w75 →
  (∃ n76, ∃ A77, ∃ A77l, ∃ A77c, V.cellsC (fun a_ x_ => World.cell? w75 a_ = some x_) ⟨Array.size (World.heap w), 0, none⟩ [(Value.int .i64 n76), (Value.slice A77 A77l A77c)] ∧
  Calls Try.prog 36 #[(Value.agg #[(Value.int .i64 n76), (Value.slice A77 A77l A77c)])] w75 fun e79 w80 =>
  ∃ n78, e79 = Ending.returned (Value.int .i64 n78) ∧
  V.sel (decide (slot_73 ≤ n78))
  (∃ n81, ∃ A82, ∃ A82l, ∃ A82c, V.cellsC (fun a_ x_ => World.cell? w80 a_ = some x_) ⟨Array.size (World.heap w), 0, none⟩ [(Value.int .i64 n81), (Value.slice A82 A82l A82c)] ∧
  Calls Try.prog 35 #[(Value.agg #[(Value.int .i64 n81), (Value.slice A82 A82l A82c)]), (Value.int .i64 slot_73)] w80 fun e84 w85 =>
  ∃ n83, e84 = Ending.returned (Value.int .i64 n83) ∧
  V.sel (decide (n83 < 0))
  (Calls Try.prog 18 #[(Value.pointer t_1), (Value.int .i64 slot_73)] w85 fun e89 w90 =>
  ∃ s86, ∃ n87, ∃ b88, e89 = Ending.returned (Value.tuple #[(Value.string s86), (Value.int .i64 n87), (Value.bool b88)]) ∧
  V.sel (!(ByteArray.toList s86 == ByteArray.toList ByteArray.empty))
  (R (Ending.returned (Value.bool false)) w90)
  (V.sel (n87 != 0)
  (R (Ending.returned (Value.bool false)) w90)
  (V.sel b88
  (R (Ending.returned (Value.bool false)) w90)
  (I71 (IntKind.wrap .i64 (slot_73 + 1)) w90 ∧ μ72 (IntKind.wrap .i64 (slot_73 + 1)) w90 < μ72 slot_73 w75))))
  (I71 (IntKind.wrap .i64 (slot_73 + 1)) w85 ∧ μ72 (IntKind.wrap .i64 (slot_73 + 1)) w85 < μ72 slot_73 w75))
  (R (Ending.returned (Value.bool true)) w80))))))))) :
  Calls Try.prog 21 #[(Value.pointer t_1), (Value.agg #[(Value.int .i64 m_2), (Value.slice m_3 m_3l m_3c)])] w R :=
  V.calls_of_R ⟨V.assoc [(0, [57]), (1, [13])], V.assocP [(1, V.line [0, 2, 3, 4, 1, 5, 6, 7, 9, 8, 10, 11, 12, 13, 14, 16, 15, 17, 18, 19, 20, 21, 22, 23, 24, 25, 26, 28, 30, 31, 32, 33, 27, 29, 34, 35, 36])], V.assocC [], V.assocS [], ⟨[], true⟩⟩ Try.func21 rfl (Eq.mp (by kernel_rfl) h)

theorem slots_Table_int__All_nf (t_1 : Option Addr) (w : World) (R : Ending → World → Prop) (h :
  ∀ w2, w2 = (World.alloc w (.cells #[(Value.slice none 0 0)] 77)) →
  V.sel (!(Option.isNone t_1))
  (V.ptr t_1 fun a3 =>
  ∃ A4, ∃ A4l, ∃ A4c, World.cell? w2 (Addr.add a3 2) = some (Value.slice A4 A4l A4c) ∧
  Calls Try.prog 40 #[(Value.slice A4 A4l A4c)] w2 fun e6 w7 =>
  ∃ A5, ∃ A5l, ∃ A5c, e6 = Ending.returned (Value.slice A5 A5l A5c) ∧
  ∃ w8, Sem.run Try.prog (Instr.storeAt 77 (Value.pointer (some ⟨Array.size (World.heap w), 0, none⟩)) (Value.slice A5 A5l A5c)) w7 = .ok () w8 ∧
  R (Ending.returned (Value.func (.func 41) #[] #[(Value.pointer (some ⟨Array.size (World.heap w), 0, none⟩))])) w8)
  (R (Ending.returned (Value.func (.func 41) #[] #[(Value.pointer (some ⟨Array.size (World.heap w), 0, none⟩))])) w2)) :
  Calls Try.prog 22 #[(Value.pointer t_1)] w R :=
  V.calls_of_R ⟨V.assoc [], V.assocP [], V.assocC [], V.assocS [], ⟨[], true⟩⟩ Try.func22 rfl (Eq.mp (by kernel_rfl) h)

theorem berthref05_Table_BySlot_nf (t_1 : Int) (t_2 : Option Addr) (t_2l : Nat) (t_2c : Nat) (w : World) (R : Ending → World → Prop) (h :
  ∀ w3, w3 = (World.alloc w (.cells #[(Value.int .i64 t_1), (Value.slice t_2 t_2l t_2c)] 54)) →
  ∀ w4, w4 = (World.alloc w3 (.cells #[] 66)) →
  ∃ I5 : Option Addr → Nat → Nat → Int → World → Prop, ∃ μ6 : Option Addr → Nat → Nat → Int → World → Nat, I5 (some ⟨Array.size (World.heap w3), 0, none⟩) 0 0 0 w4 ∧
  ∀ out_7 out_7l out_7c slot_8 (j9 : Nat → Value) (w10 : World), I5 out_7 out_7l out_7c slot_8 w10 →
  (∃ n11, ∃ A12, ∃ A12l, ∃ A12c, V.cellsC (fun a_ x_ => World.cell? w10 a_ = some x_) ⟨Array.size (World.heap w), 0, none⟩ [(Value.int .i64 n11), (Value.slice A12 A12l A12c)] ∧
  Calls Try.prog 36 #[(Value.agg #[(Value.int .i64 n11), (Value.slice A12 A12l A12c)])] w10 fun e14 w15 =>
  ∃ n13, e14 = Ending.returned (Value.int .i64 n13) ∧
  V.sel (decide (slot_8 < n13))
  (∃ n16, ∃ A17, ∃ A17l, ∃ A17c, V.cellsC (fun a_ x_ => World.cell? w15 a_ = some x_) ⟨Array.size (World.heap w), 0, none⟩ [(Value.int .i64 n16), (Value.slice A17 A17l A17c)] ∧
  Calls Try.prog 35 #[(Value.agg #[(Value.int .i64 n16), (Value.slice A17 A17l A17c)]), (Value.int .i64 slot_8)] w15 fun e19 w20 =>
  ∃ n18, e19 = Ending.returned (Value.int .i64 n18) ∧
  V.sel (decide (n18 ≥ 0))
  (∃ A21, ∃ A21l, ∃ A21c, World.cell? w20 (Addr.add ⟨Array.size (World.heap w), 0, none⟩ 1) = some (Value.slice A21 A21l A21c) ∧
  V.when (decide ((0 : Int) ≤ n18 ∧ (n18 : Int) < ((A21l : Nat) : Int))) (V.ptr A21 fun a22 =>
  ∃ n23, ∃ s24, ∃ n25, V.cellsC (fun a_ x_ => World.cell? w20 a_ = some x_) (Addr.add a22 ((Int.toNat n18) * 3)) [(Value.int .i64 n23), (Value.string s24), (Value.int .i64 n25)] ∧
  ∀ w26, w26 = (World.alloc w20 (.cells #[(Value.int .i64 n23), (Value.string s24), (Value.int .i64 n25)] 66)) →
  ∃ A27, ∃ A27l, ∃ A27c, ∃ w28, Sem.run Try.prog (Builtin.append_ #[52, 52] 52 #[(Value.slice out_7 out_7l out_7c), (Value.slice (some ⟨Array.size (World.heap w20), 0, none⟩) 1 1)]) w26 = .ok (Value.slice A27 A27l A27c) w28 ∧
  I5 A27 A27l A27c (IntKind.wrap .i64 (slot_8 + 1)) w28 ∧ μ6 A27 A27l A27c (IntKind.wrap .i64 (slot_8 + 1)) w28 < μ6 out_7 out_7l out_7c slot_8 w10))
  (I5 out_7 out_7l out_7c (IntKind.wrap .i64 (slot_8 + 1)) w20 ∧ μ6 out_7 out_7l out_7c (IntKind.wrap .i64 (slot_8 + 1)) w20 < μ6 out_7 out_7l out_7c slot_8 w10))
  (R (Ending.returned (Value.slice out_7 out_7l out_7c)) w15))) :
  Calls Try.prog 23 #[(Value.agg #[(Value.int .i64 t_1), (Value.slice t_2 t_2l t_2c)])] w R :=
  V.calls_of_R ⟨V.assoc [(0, [3, 4])], V.assocP [], V.assocC [], V.assocS [], ⟨[], true⟩⟩ Try.func23 rfl (Eq.mp (by kernel_rfl) h)

theorem berthlaw05_rowsAre_nf (got_1 : Option Addr) (got_1l : Nat) (got_1c : Nat) (want_2 : Option Addr) (want_2l : Nat) (want_2c : Nat) (n_3 : Int) (w : World) (R : Ending → World → Prop) (h :
  V.sel (((got_1l : Nat) : Int) != (if (if ((want_2l : Nat) : Int) < n_3 then ((want_2l : Nat) : Int) else n_3) > 0 then (if ((want_2l : Nat) : Int) < n_3 then ((want_2l : Nat) : Int) else n_3) else 0))
  (R (Ending.returned (Value.bool false)) w)
  (∃ I4 : Int → World → Prop, ∃ μ5 : Int → World → Nat, I4 0 w ∧
  ∀ t18_6 (j7 : Nat → Value) (w8 : World), I4 t18_6 w8 →
  (V.sel (decide (t18_6 < ((got_1l : Nat) : Int)))
  (V.when (decide ((0 : Int) ≤ t18_6 ∧ (t18_6 : Int) < ((got_1l : Nat) : Int))) (V.ptr got_1 fun a9 =>
  ∃ n10, World.cell? w8 (Addr.add (Addr.add a9 ((Int.toNat t18_6) * 2)) 0) = some (Value.int .i64 n10) ∧
  V.when (decide ((0 : Int) ≤ t18_6 ∧ (t18_6 : Int) < ((want_2l : Nat) : Int))) (V.ptr want_2 fun a11 =>
  ∃ n12, World.cell? w8 (Addr.add (Addr.add a11 ((Int.toNat t18_6) * 3)) 0) = some (Value.int .i64 n12) ∧
  V.sel (n10 != n12)
  (R (Ending.returned (Value.bool false)) (World.drew w8))
  (V.when (decide ((0 : Int) ≤ t18_6 ∧ (t18_6 : Int) < ((got_1l : Nat) : Int))) (V.ptr got_1 fun a13 =>
  ∃ s14, World.cell? w8 (Addr.add (Addr.add a13 ((Int.toNat t18_6) * 2)) 1) = some (Value.string s14) ∧
  V.when (decide ((0 : Int) ≤ t18_6 ∧ (t18_6 : Int) < ((want_2l : Nat) : Int))) (V.ptr want_2 fun a15 =>
  ∃ s16, World.cell? w8 (Addr.add (Addr.add a15 ((Int.toNat t18_6) * 3)) 1) = some (Value.string s16) ∧
  V.sel (!(ByteArray.toList s14 == ByteArray.toList s16))
  (R (Ending.returned (Value.bool false)) (World.drew w8))
  (I4 (IntKind.wrap .i64 (t18_6 + 1)) (World.drew w8) ∧ μ5 (IntKind.wrap .i64 (t18_6 + 1)) (World.drew w8) < μ5 t18_6 w8)))))))
  (R (Ending.returned (Value.bool true)) w8)))) :
  Calls Try.prog 24 #[(Value.slice got_1 got_1l got_1c), (Value.slice want_2 want_2l want_2c), (Value.int .i64 n_3)] w R :=
  V.calls_of_R ⟨V.assoc [(0, [18])], V.assocP [(6, V.line [0, 1, 2, 3, 4, 5, 6, 7, 8, 9, 10, 11, 12, 13, 14, 15, 16, 17, 18, 19, 20, 21, 22, 23])], V.assocC [], V.assocS [], ⟨[], true⟩⟩ Try.func24 rfl (Eq.mp (by kernel_rfl) h)

theorem berthref05_New_nf (most_1 : Int) (w : World) (R : Ending → World → Prop) (h :
  ∀ w2, w2 = (World.alloc w (.cells #[(Value.int .i64 0), (Value.slice none 0 0)] 54)) →
  V.sel (decide (most_1 < 0))
  (∃ w3, Sem.run Try.prog (Instr.storeAt 54 (Value.pointer (some ⟨Array.size (World.heap w), 0, none⟩)) (Value.agg #[(Value.int .i64 0), (Value.slice none 0 0)])) w2 = .ok () w3 ∧
  ∃ n4, ∃ A5, ∃ A5l, ∃ A5c, V.cellsC (fun a_ x_ => World.cell? w3 a_ = some x_) ⟨Array.size (World.heap w), 0, none⟩ [(Value.int .i64 n4), (Value.slice A5 A5l A5c)] ∧
  R (Ending.returned (Value.tuple #[(Value.agg #[(Value.int .i64 n4), (Value.slice A5 A5l A5c)]), (Value.int .i64 50)])) w3)
  (V.sel (decide (most_1 > 65536))
  (∃ w6, Sem.run Try.prog (Instr.storeAt 54 (Value.pointer (some ⟨Array.size (World.heap w), 0, none⟩)) (Value.agg #[(Value.int .i64 0), (Value.slice none 0 0)])) w2 = .ok () w6 ∧
  ∃ n7, ∃ A8, ∃ A8l, ∃ A8c, V.cellsC (fun a_ x_ => World.cell? w6 a_ = some x_) ⟨Array.size (World.heap w), 0, none⟩ [(Value.int .i64 n7), (Value.slice A8 A8l A8c)] ∧
  R (Ending.returned (Value.tuple #[(Value.agg #[(Value.int .i64 n7), (Value.slice A8 A8l A8c)]), (Value.int .i64 50)])) w6)
  (∃ w9, Sem.run Try.prog (Instr.storeAt 54 (Value.pointer (some ⟨Array.size (World.heap w), 0, none⟩)) (Value.agg #[(Value.int .i64 most_1), (Value.slice none 0 0)])) w2 = .ok () w9 ∧
  ∃ n10, ∃ A11, ∃ A11l, ∃ A11c, V.cellsC (fun a_ x_ => World.cell? w9 a_ = some x_) ⟨Array.size (World.heap w), 0, none⟩ [(Value.int .i64 n10), (Value.slice A11 A11l A11c)] ∧
  R (Ending.returned (Value.tuple #[(Value.agg #[(Value.int .i64 n10), (Value.slice A11 A11l A11c)]), (Value.int .i64 0)])) w9))) :
  Calls Try.prog 25 #[(Value.int .i64 most_1)] w R :=
  V.calls_of_R ⟨V.assoc [], V.assocP [], V.assocC [], V.assocS [], ⟨[], true⟩⟩ Try.func25 rfl (Eq.mp (by kernel_rfl) h)

theorem berthlaw05_after_nf (t_1 : Option Addr) (m_2 : Int) (m_3 : Option Addr) (m_3l : Nat) (m_3c : Nat) (script_4 : Option Addr) (script_4l : Nat) (script_4c : Nat) (w : World) (R : Ending → World → Prop) (h :
  ∀ w5, w5 = (World.alloc w (.cells #[(Value.int .i64 m_2), (Value.slice m_3 m_3l m_3c)] 54)) →
  ∀ w6, w6 = (World.alloc w5 (.cells #[(Value.int .i64 0), (Value.slice none 0 0)] 54)) →
  ∀ w7, w7 = (World.alloc w6 (.cells #[(Value.pointer none), (Value.pointer none), (Value.pointer none), (Value.pointer none), (Value.int .i64 0), (Value.slice none 0 0), (Value.int .i64 0), (Value.slice none 0 0), (Value.int .i64 0), (Value.slice none 0 0), (Value.int .i64 0), (Value.slice none 0 0)] 57)) →
  ∃ S8 : World → Prop, S8 (World.drew w7) ∧
  ∃ n10, ∃ A11, ∃ A11l, ∃ A11c, V.cellsC (fun a_ x_ => ∀ w9, S8 w9 → World.cell? w9 a_ = some x_) ⟨Array.size (World.heap w), 0, none⟩ [(Value.int .i64 n10), (Value.slice A11 A11l A11c)] ∧
  ∃ w12, Sem.run Try.prog (Instr.storeAt 24 (Value.pointer (some (Addr.add (Addr.add ⟨Array.size (World.heap w6), 0, none⟩ 0) 1))) (Value.pointer t_1)) (World.drew w7) = .ok () w12 ∧
  S8 w12 ∧
  ∃ w13, Sem.run Try.prog (Instr.storeAt 54 (Value.pointer (some (Addr.add (Addr.add ⟨Array.size (World.heap w6), 0, none⟩ 4) 2))) (Value.agg #[(Value.int .i64 n10), (Value.slice A11 A11l A11c)])) w12 = .ok () w13 ∧
  S8 w13 ∧
  ∃ I14 : Int → World → Prop, ∃ μ15 : Int → World → Nat, I14 0 w13 ∧
  ∀ t25_16 (j17 : Nat → Value) (w18 : World), I14 t25_16 w18 →
  (V.sel (decide (t25_16 < ((script_4l : Nat) : Int)))
  (V.when (decide ((0 : Int) ≤ t25_16 ∧ (t25_16 : Int) < ((script_4l : Nat) : Int))) (V.ptr script_4 fun a19 =>
  ∃ n20, ∃ n21, ∃ n22, ∃ s23, ∃ n24, V.cellsC (fun a_ x_ => World.cell? w18 a_ = some x_) (Addr.add a19 ((Int.toNat t25_16) * 5)) [(Value.int .i64 n20), (Value.int .i64 n21), (Value.int .i64 n22), (Value.string s23), (Value.int .i64 n24)] ∧
  ∀ w25, w25 = (World.alloc w18 (.cells #[(Value.int .i64 0), (Value.int .i64 0), (Value.int .i64 0), (Value.string ByteArray.empty), (Value.int .i64 0)] 31)) →
  ∃ w26, Sem.run Try.prog (Instr.storeAt 31 (Value.pointer (some ⟨Array.size (World.heap w18), 0, none⟩)) (Value.agg #[(Value.int .i64 n20), (Value.int .i64 n21), (Value.int .i64 n22), (Value.string s23), (Value.int .i64 n24)])) w25 = .ok () w26 ∧
  ∃ w27, Sem.run Try.prog (Instr.storeAt 3 (Value.pointer (some (Addr.add ⟨Array.size (World.heap w18), 0, none⟩ 1))) (Value.int .i64 1)) w26 = .ok () w27 ∧
  ∃ n28, World.cell? w27 (Addr.add ⟨Array.size (World.heap w18), 0, none⟩ 0) = some (Value.int .i64 n28) ∧
  V.sel (decide (n28 ≥ 2))
  (∃ n29, World.cell? w27 (Addr.add ⟨Array.size (World.heap w18), 0, none⟩ 0) = some (Value.int .i64 n29) ∧
  V.sel (decide (n29 ≤ 4))
  (∃ n30, ∃ n31, ∃ n32, ∃ s33, ∃ n34, V.cellsC (fun a_ x_ => World.cell? w27 a_ = some x_) ⟨Array.size (World.heap w18), 0, none⟩ [(Value.int .i64 n30), (Value.int .i64 n31), (Value.int .i64 n32), (Value.string s33), (Value.int .i64 n34)] ∧
  Calls Try.prog 33 #[(Value.pointer (some ⟨Array.size (World.heap w6), 0, none⟩)), (Value.agg #[(Value.int .i64 n30), (Value.int .i64 n31), (Value.int .i64 n32), (Value.string s33), (Value.int .i64 n34)]), (Value.int .i64 1)] w27 fun e36 w37 =>
  ∃ b35, e36 = Ending.returned (Value.bool b35) ∧
  V.sel (!b35)
  (∃ n38, ∃ A39, ∃ A39l, ∃ A39c, V.cellsC (fun a_ x_ => World.cell? w37 a_ = some x_) ⟨Array.size (World.heap w), 0, none⟩ [(Value.int .i64 n38), (Value.slice A39 A39l A39c)] ∧
  ∃ w40, Sem.run Try.prog (Instr.storeAt 54 (Value.pointer (some ⟨Array.size (World.heap w5), 0, none⟩)) (Value.agg #[(Value.int .i64 n38), (Value.slice A39 A39l A39c)])) w37 = .ok () w40 ∧
  ∃ n41, ∃ A42, ∃ A42l, ∃ A42c, V.cellsC (fun a_ x_ => World.cell? w40 a_ = some x_) ⟨Array.size (World.heap w5), 0, none⟩ [(Value.int .i64 n41), (Value.slice A42 A42l A42c)] ∧
  R (Ending.returned (Value.tuple #[(Value.agg #[(Value.int .i64 n41), (Value.slice A42 A42l A42c)]), (Value.bool false)])) w40)
  (I14 (IntKind.wrap .i64 (t25_16 + 1)) w37 ∧ μ15 (IntKind.wrap .i64 (t25_16 + 1)) w37 < μ15 t25_16 w18))
  (I14 (IntKind.wrap .i64 (t25_16 + 1)) w27 ∧ μ15 (IntKind.wrap .i64 (t25_16 + 1)) w27 < μ15 t25_16 w18))
  (I14 (IntKind.wrap .i64 (t25_16 + 1)) w27 ∧ μ15 (IntKind.wrap .i64 (t25_16 + 1)) w27 < μ15 t25_16 w18)))
  (∃ n43, ∃ A44, ∃ A44l, ∃ A44c, V.cellsC (fun a_ x_ => World.cell? w18 a_ = some x_) (Addr.add (Addr.add ⟨Array.size (World.heap w6), 0, none⟩ 4) 2) [(Value.int .i64 n43), (Value.slice A44 A44l A44c)] ∧
  ∃ w45, Sem.run Try.prog (Instr.storeAt 54 (Value.pointer (some ⟨Array.size (World.heap w5), 0, none⟩)) (Value.agg #[(Value.int .i64 n43), (Value.slice A44 A44l A44c)])) w18 = .ok () w45 ∧
  ∃ n46, ∃ A47, ∃ A47l, ∃ A47c, V.cellsC (fun a_ x_ => World.cell? w45 a_ = some x_) ⟨Array.size (World.heap w5), 0, none⟩ [(Value.int .i64 n46), (Value.slice A47 A47l A47c)] ∧
  R (Ending.returned (Value.tuple #[(Value.agg #[(Value.int .i64 n46), (Value.slice A47 A47l A47c)]), (Value.bool true)])) w45))) :
  Calls Try.prog 26 #[(Value.pointer t_1), (Value.agg #[(Value.int .i64 m_2), (Value.slice m_3 m_3l m_3c)]), (Value.slice script_4 script_4l script_4c)] w R :=
  V.calls_of_R ⟨V.assoc [(0, [25])], V.assocP [(2, V.line [0, 1, 2, 3, 4, 5, 6, 8, 9, 7, 10, 11])], V.assocC [], V.assocS [], ⟨[], true⟩⟩ Try.func26 rfl (Eq.mp (by kernel_rfl) h)

end Go.Proofs.Ytcampkaenlohbaa
