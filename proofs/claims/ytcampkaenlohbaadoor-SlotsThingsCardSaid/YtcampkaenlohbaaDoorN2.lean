/- Normal forms of the program's functions, printed by a program of mine; the kernel checks each. -/
import Derived.Test.YtcampkaenlohbaaDoorProg
import Derived.Test.YtcampkaenlohbaaDoorV2
set_option linter.unusedVariables false
set_option maxRecDepth 100000
namespace Go.Proofs.YtcampkaenlohbaaDoor
open Go

theorem berthlaw05_World_step_nf (w_1 : Option Addr) (o_2 : Int) (o_3 : Int) (o_4 : Int) (o_5 : ByteArray) (o_6 : Int) (w : World) (R : Ending → World → Prop) (h :
  ∀ w7, w7 = (World.alloc w (.cells #[(Value.int .i64 o_2), (Value.int .i64 o_3), (Value.int .i64 o_4), (Value.string o_5), (Value.int .i64 o_6)] 49)) →
  ∃ n8, World.cell? w7 (Addr.add ⟨Array.size (World.heap w), 0, none⟩ 1) = some (Value.int .i64 n8) ∧
  ∃ n9, World.cell? w7 (Addr.add ⟨Array.size (World.heap w), 0, none⟩ 2) = some (Value.int .i64 n9) ∧
  V.lt (IntKind.wrap .i64 ((BitVec.toNat (BitVec.ofInt 64 n8 &&& BitVec.ofInt 64 3) : Nat) : Int)) fun x10 =>
  V.lt (IntKind.wrap .i64 ((BitVec.toNat (BitVec.ofInt 64 n9 &&& BitVec.ofInt 64 3) : Nat) : Int)) fun x11 =>
  ∃ S12 : World → Prop, S12 (World.drew (World.drew w7)) ∧
  V.ptr w_1 fun a14 =>
  V.when (decide ((0 : Int) ≤ x10 ∧ (x10 : Int) < 4)) (∃ p15, (∀ w13, S12 w13 → World.cell? w13 (Addr.add (Addr.add a14 0) ((Int.toNat x10) * 1)) = some (Value.pointer p15)) ∧
  V.ptr w_1 fun a16 =>
  V.when (decide ((0 : Int) ≤ x10 ∧ (x10 : Int) < 4)) (∃ n17, ∃ A18, ∃ A18l, ∃ A18c, V.cellsC (fun a_ x_ => ∀ w13, S12 w13 → World.cell? w13 a_ = some x_) (Addr.add (Addr.add a16 4) ((Int.toNat x10) * 2)) [(Value.int .i64 n17), (Value.slice A18 A18l A18c)] ∧
  ∀ w19, w19 = (World.alloc (World.drew (World.drew w7)) (.cells #[(Value.int .i64 0), (Value.slice none 0 0)] 45)) →
  S12 w19 ∧
  ∃ w20, Sem.run Tryd.prog (Instr.storeAt 45 (Value.pointer (some ⟨Array.size (World.heap (World.drew (World.drew w7))), 0, none⟩)) (Value.agg #[(Value.int .i64 n17), (Value.slice A18 A18l A18c)])) w19 = .ok () w20 ∧
  ∃ n21, World.cell? w20 (Addr.add ⟨Array.size (World.heap w), 0, none⟩ 0) = some (Value.int .i64 n21) ∧
  V.sel (n21 == 1)
  (V.sel (n21 == 1)
  (∃ n22, ∃ n23, ∃ n24, ∃ s25, ∃ n26, V.cellsC (fun a_ x_ => World.cell? w20 a_ = some x_) ⟨Array.size (World.heap w), 0, none⟩ [(Value.int .i64 n22), (Value.int .i64 n23), (Value.int .i64 n24), (Value.string s25), (Value.int .i64 n26)] ∧
  Calls Tryd.prog 50 #[(Value.pointer w_1), (Value.agg #[(Value.int .i64 n22), (Value.int .i64 n23), (Value.int .i64 n24), (Value.string s25), (Value.int .i64 n26)]), (Value.int .i64 x10)] w20 fun e28 w29 =>
  ∃ b27, e28 = Ending.returned (Value.bool b27) ∧
  R (Ending.returned (Value.bool b27)) w29)
  (V.sel (n21 == 5)
  (∃ s30, World.cell? w20 (Addr.add ⟨Array.size (World.heap w), 0, none⟩ 3) = some (Value.string s30) ∧
  Calls Tryd.prog 51 #[(Value.pointer p15), (Value.string s30)] w20 fun e34 w35 =>
  ∃ n31, ∃ n32, ∃ b33, e34 = Ending.returned (Value.tuple #[(Value.int .i64 n31), (Value.int .i64 n32), (Value.bool b33)]) ∧
  ∃ n36, ∃ A37, ∃ A37l, ∃ A37c, V.cellsC (fun a_ x_ => World.cell? w35 a_ = some x_) ⟨Array.size (World.heap (World.drew (World.drew w7))), 0, none⟩ [(Value.int .i64 n36), (Value.slice A37 A37l A37c)] ∧
  ∃ s38, World.cell? w35 (Addr.add ⟨Array.size (World.heap w), 0, none⟩ 3) = some (Value.string s38) ∧
  Calls Tryd.prog 42 #[(Value.agg #[(Value.int .i64 n36), (Value.slice A37 A37l A37c)]), (Value.string s38)] w35 fun e40 w41 =>
  ∃ n39, e40 = Ending.returned (Value.int .i64 n39) ∧
  V.sel (decide (n39 < 0))
  (V.sel (n31 == 0)
  (V.sel (n32 == 0)
  (R (Ending.returned (Value.bool (!b33))) w41)
  (R (Ending.returned (Value.bool false)) w41))
  (R (Ending.returned (Value.bool false)) w41))
  (V.sel b33
  (∃ A42, ∃ A42l, ∃ A42c, World.cell? w41 (Addr.add ⟨Array.size (World.heap (World.drew (World.drew w7))), 0, none⟩ 1) = some (Value.slice A42 A42l A42c) ∧
  V.when (decide ((0 : Int) ≤ n39 ∧ (n39 : Int) < ((A42l : Nat) : Int))) (V.ptr A42 fun a43 =>
  ∃ n44, World.cell? w41 (Addr.add (Addr.add a43 ((Int.toNat n39) * 3)) 0) = some (Value.int .i64 n44) ∧
  V.sel (n31 == n44)
  (∃ A45, ∃ A45l, ∃ A45c, World.cell? w41 (Addr.add ⟨Array.size (World.heap (World.drew (World.drew w7))), 0, none⟩ 1) = some (Value.slice A45 A45l A45c) ∧
  V.when (decide ((0 : Int) ≤ n39 ∧ (n39 : Int) < ((A45l : Nat) : Int))) (V.ptr A45 fun a46 =>
  ∃ n47, World.cell? w41 (Addr.add (Addr.add a46 ((Int.toNat n39) * 3)) 2) = some (Value.int .i64 n47) ∧
  R (Ending.returned (Value.bool (n32 == n47))) w41))
  (R (Ending.returned (Value.bool false)) w41)))
  (R (Ending.returned (Value.bool false)) w41)))
  (V.sel (n21 == 6)
  (∃ n48, World.cell? w20 (Addr.add ⟨Array.size (World.heap w), 0, none⟩ 4) = some (Value.int .i64 n48) ∧
  Calls Tryd.prog 52 #[(Value.pointer p15), (Value.int .i64 n48)] w20 fun e52 w53 =>
  ∃ s49, ∃ n50, ∃ b51, e52 = Ending.returned (Value.tuple #[(Value.string s49), (Value.int .i64 n50), (Value.bool b51)]) ∧
  ∃ n54, ∃ A55, ∃ A55l, ∃ A55c, V.cellsC (fun a_ x_ => World.cell? w53 a_ = some x_) ⟨Array.size (World.heap (World.drew (World.drew w7))), 0, none⟩ [(Value.int .i64 n54), (Value.slice A55 A55l A55c)] ∧
  ∃ n56, World.cell? w53 (Addr.add ⟨Array.size (World.heap w), 0, none⟩ 4) = some (Value.int .i64 n56) ∧
  Calls Tryd.prog 28 #[(Value.agg #[(Value.int .i64 n54), (Value.slice A55 A55l A55c)]), (Value.int .i64 n56)] w53 fun e58 w59 =>
  ∃ n57, e58 = Ending.returned (Value.int .i64 n57) ∧
  V.sel (decide (n57 < 0))
  (V.sel (ByteArray.toList s49 == ByteArray.toList ByteArray.empty)
  (V.sel (n50 == 0)
  (R (Ending.returned (Value.bool (!b51))) w59)
  (R (Ending.returned (Value.bool false)) w59))
  (R (Ending.returned (Value.bool false)) w59))
  (V.sel b51
  (∃ A60, ∃ A60l, ∃ A60c, World.cell? w59 (Addr.add ⟨Array.size (World.heap (World.drew (World.drew w7))), 0, none⟩ 1) = some (Value.slice A60 A60l A60c) ∧
  V.when (decide ((0 : Int) ≤ n57 ∧ (n57 : Int) < ((A60l : Nat) : Int))) (V.ptr A60 fun a61 =>
  ∃ s62, World.cell? w59 (Addr.add (Addr.add a61 ((Int.toNat n57) * 3)) 1) = some (Value.string s62) ∧
  V.sel (ByteArray.toList s49 == ByteArray.toList s62)
  (∃ A63, ∃ A63l, ∃ A63c, World.cell? w59 (Addr.add ⟨Array.size (World.heap (World.drew (World.drew w7))), 0, none⟩ 1) = some (Value.slice A63 A63l A63c) ∧
  V.when (decide ((0 : Int) ≤ n57 ∧ (n57 : Int) < ((A63l : Nat) : Int))) (V.ptr A63 fun a64 =>
  ∃ n65, World.cell? w59 (Addr.add (Addr.add a64 ((Int.toNat n57) * 3)) 2) = some (Value.int .i64 n65) ∧
  R (Ending.returned (Value.bool (n50 == n65))) w59))
  (R (Ending.returned (Value.bool false)) w59)))
  (R (Ending.returned (Value.bool false)) w59)))
  (V.sel (n21 == 7)
  (∃ S66 : World → Prop, S66 (World.drew w20) ∧
  ∃ A68, ∃ A68l, ∃ A68c, (∀ w67, S66 w67 → World.cell? w67 (Addr.add ⟨Array.size (World.heap (World.drew (World.drew w7))), 0, none⟩ 1) = some (Value.slice A68 A68l A68c)) ∧
  Calls Tryd.prog 10 #[(Value.pointer p15)] (World.drew w20) fun e70 w71 =>
  ∃ n69, e70 = Ending.returned (Value.int .i64 n69) ∧
  S66 w71 ∧
  V.sel (n69 == ((A68l : Nat) : Int))
  (∃ n72, ∃ A73, ∃ A73l, ∃ A73c, V.cellsC (fun a_ x_ => ∀ w67, S66 w67 → World.cell? w67 a_ = some x_) ⟨Array.size (World.heap (World.drew (World.drew w7))), 0, none⟩ [(Value.int .i64 n72), (Value.slice A73 A73l A73c)] ∧
  Calls Tryd.prog 11 #[(Value.pointer p15)] w71 fun e75 w76 =>
  ∃ n74, e75 = Ending.returned (Value.int .i64 n74) ∧
  S66 w76 ∧
  Calls Tryd.prog 53 #[(Value.agg #[(Value.int .i64 n72), (Value.slice A73 A73l A73c)])] w76 fun e78 w79 =>
  ∃ n77, e78 = Ending.returned (Value.int .i64 n77) ∧
  S66 w79 ∧
  R (Ending.returned (Value.bool (n74 == n77))) w79)
  (R (Ending.returned (Value.bool false)) w71))
  (V.sel (n21 == 8)
  (∃ S80 : World → Prop, S80 (World.drew w20) ∧
  ∃ n82, ∃ A83, ∃ A83l, ∃ A83c, V.cellsC (fun a_ x_ => ∀ w81, S80 w81 → World.cell? w81 a_ = some x_) ⟨Array.size (World.heap (World.drew (World.drew w7))), 0, none⟩ [(Value.int .i64 n82), (Value.slice A83 A83l A83c)] ∧
  Calls Tryd.prog 35 #[(Value.pointer p15)] (World.drew w20) fun e85 w86 =>
  ∃ A84, ∃ A84l, ∃ A84c, e85 = Ending.returned (Value.slice A84 A84l A84c) ∧
  S80 w86 ∧
  Calls Tryd.prog 31 #[(Value.agg #[(Value.int .i64 n82), (Value.slice A83 A83l A83c)])] w86 fun e88 w89 =>
  ∃ A87, ∃ A87l, ∃ A87c, e88 = Ending.returned (Value.slice A87 A87l A87c) ∧
  S80 w89 ∧
  Calls Tryd.prog 29 #[(Value.slice A84 A84l A84c), (Value.slice A87 A87l A87c)] w89 fun e91 w92 =>
  ∃ b90, e91 = Ending.returned (Value.bool b90) ∧
  S80 w92 ∧
  R (Ending.returned (Value.bool b90)) w92)
  (V.sel (n21 == 9)
  (∃ n93, World.cell? w20 (Addr.add ⟨Array.size (World.heap w), 0, none⟩ 4) = some (Value.int .i64 n93) ∧
  ∃ S94 : World → Prop, S94 (World.drew w20) ∧
  ∃ n96, ∃ A97, ∃ A97l, ∃ A97c, V.cellsC (fun a_ x_ => ∀ w95, S94 w95 → World.cell? w95 a_ = some x_) ⟨Array.size (World.heap (World.drew (World.drew w7))), 0, none⟩ [(Value.int .i64 n96), (Value.slice A97 A97l A97c)] ∧
  Calls Tryd.prog 55 #[(Value.pointer p15), (Value.int .i64 (if 66000 < n93 then 66000 else n93))] (World.drew w20) fun e99 w100 =>
  ∃ A98, ∃ A98l, ∃ A98c, e99 = Ending.returned (Value.slice A98 A98l A98c) ∧
  S94 w100 ∧
  Calls Tryd.prog 56 #[(Value.agg #[(Value.int .i64 n96), (Value.slice A97 A97l A97c)])] w100 fun e102 w103 =>
  ∃ A101, ∃ A101l, ∃ A101c, e102 = Ending.returned (Value.slice A101 A101l A101c) ∧
  S94 w103 ∧
  Calls Tryd.prog 54 #[(Value.slice A98 A98l A98c), (Value.slice A101 A101l A101c), (Value.int .i64 (if 66000 < n93 then 66000 else n93))] w103 fun e105 w106 =>
  ∃ b104, e105 = Ending.returned (Value.bool b104) ∧
  S94 w106 ∧
  R (Ending.returned (Value.bool b104)) w106)
  (V.sel (n21 == 10)
  (Calls Tryd.prog 57 #[(Value.pointer w_1), (Value.int .i64 x10), (Value.int .i64 x11)] w20 fun e108 w109 =>
  ∃ b107, e108 = Ending.returned (Value.bool b107) ∧
  R (Ending.returned (Value.bool b107)) w109)
  (R (Ending.returned (Value.bool true)) w20))))))))
  (V.sel (n21 == 2)
  (V.sel (n21 == 2)
  (∃ n110, ∃ n111, ∃ n112, ∃ s113, ∃ n114, V.cellsC (fun a_ x_ => World.cell? w20 a_ = some x_) ⟨Array.size (World.heap w), 0, none⟩ [(Value.int .i64 n110), (Value.int .i64 n111), (Value.int .i64 n112), (Value.string s113), (Value.int .i64 n114)] ∧
  Calls Tryd.prog 50 #[(Value.pointer w_1), (Value.agg #[(Value.int .i64 n110), (Value.int .i64 n111), (Value.int .i64 n112), (Value.string s113), (Value.int .i64 n114)]), (Value.int .i64 x10)] w20 fun e116 w117 =>
  ∃ b115, e116 = Ending.returned (Value.bool b115) ∧
  R (Ending.returned (Value.bool b115)) w117)
  (V.sel (n21 == 5)
  (∃ s118, World.cell? w20 (Addr.add ⟨Array.size (World.heap w), 0, none⟩ 3) = some (Value.string s118) ∧
  Calls Tryd.prog 51 #[(Value.pointer p15), (Value.string s118)] w20 fun e122 w123 =>
  ∃ n119, ∃ n120, ∃ b121, e122 = Ending.returned (Value.tuple #[(Value.int .i64 n119), (Value.int .i64 n120), (Value.bool b121)]) ∧
  ∃ n124, ∃ A125, ∃ A125l, ∃ A125c, V.cellsC (fun a_ x_ => World.cell? w123 a_ = some x_) ⟨Array.size (World.heap (World.drew (World.drew w7))), 0, none⟩ [(Value.int .i64 n124), (Value.slice A125 A125l A125c)] ∧
  ∃ s126, World.cell? w123 (Addr.add ⟨Array.size (World.heap w), 0, none⟩ 3) = some (Value.string s126) ∧
  Calls Tryd.prog 42 #[(Value.agg #[(Value.int .i64 n124), (Value.slice A125 A125l A125c)]), (Value.string s126)] w123 fun e128 w129 =>
  ∃ n127, e128 = Ending.returned (Value.int .i64 n127) ∧
  V.sel (decide (n127 < 0))
  (V.sel (n119 == 0)
  (V.sel (n120 == 0)
  (R (Ending.returned (Value.bool (!b121))) w129)
  (R (Ending.returned (Value.bool false)) w129))
  (R (Ending.returned (Value.bool false)) w129))
  (V.sel b121
  (∃ A130, ∃ A130l, ∃ A130c, World.cell? w129 (Addr.add ⟨Array.size (World.heap (World.drew (World.drew w7))), 0, none⟩ 1) = some (Value.slice A130 A130l A130c) ∧
  V.when (decide ((0 : Int) ≤ n127 ∧ (n127 : Int) < ((A130l : Nat) : Int))) (V.ptr A130 fun a131 =>
  ∃ n132, World.cell? w129 (Addr.add (Addr.add a131 ((Int.toNat n127) * 3)) 0) = some (Value.int .i64 n132) ∧
  V.sel (n119 == n132)
  (∃ A133, ∃ A133l, ∃ A133c, World.cell? w129 (Addr.add ⟨Array.size (World.heap (World.drew (World.drew w7))), 0, none⟩ 1) = some (Value.slice A133 A133l A133c) ∧
  V.when (decide ((0 : Int) ≤ n127 ∧ (n127 : Int) < ((A133l : Nat) : Int))) (V.ptr A133 fun a134 =>
  ∃ n135, World.cell? w129 (Addr.add (Addr.add a134 ((Int.toNat n127) * 3)) 2) = some (Value.int .i64 n135) ∧
  R (Ending.returned (Value.bool (n120 == n135))) w129))
  (R (Ending.returned (Value.bool false)) w129)))
  (R (Ending.returned (Value.bool false)) w129)))
  (V.sel (n21 == 6)
  (∃ n136, World.cell? w20 (Addr.add ⟨Array.size (World.heap w), 0, none⟩ 4) = some (Value.int .i64 n136) ∧
  Calls Tryd.prog 52 #[(Value.pointer p15), (Value.int .i64 n136)] w20 fun e140 w141 =>
  ∃ s137, ∃ n138, ∃ b139, e140 = Ending.returned (Value.tuple #[(Value.string s137), (Value.int .i64 n138), (Value.bool b139)]) ∧
  ∃ n142, ∃ A143, ∃ A143l, ∃ A143c, V.cellsC (fun a_ x_ => World.cell? w141 a_ = some x_) ⟨Array.size (World.heap (World.drew (World.drew w7))), 0, none⟩ [(Value.int .i64 n142), (Value.slice A143 A143l A143c)] ∧
  ∃ n144, World.cell? w141 (Addr.add ⟨Array.size (World.heap w), 0, none⟩ 4) = some (Value.int .i64 n144) ∧
  Calls Tryd.prog 28 #[(Value.agg #[(Value.int .i64 n142), (Value.slice A143 A143l A143c)]), (Value.int .i64 n144)] w141 fun e146 w147 =>
  ∃ n145, e146 = Ending.returned (Value.int .i64 n145) ∧
  V.sel (decide (n145 < 0))
  (V.sel (ByteArray.toList s137 == ByteArray.toList ByteArray.empty)
  (V.sel (n138 == 0)
  (R (Ending.returned (Value.bool (!b139))) w147)
  (R (Ending.returned (Value.bool false)) w147))
  (R (Ending.returned (Value.bool false)) w147))
  (V.sel b139
  (∃ A148, ∃ A148l, ∃ A148c, World.cell? w147 (Addr.add ⟨Array.size (World.heap (World.drew (World.drew w7))), 0, none⟩ 1) = some (Value.slice A148 A148l A148c) ∧
  V.when (decide ((0 : Int) ≤ n145 ∧ (n145 : Int) < ((A148l : Nat) : Int))) (V.ptr A148 fun a149 =>
  ∃ s150, World.cell? w147 (Addr.add (Addr.add a149 ((Int.toNat n145) * 3)) 1) = some (Value.string s150) ∧
  V.sel (ByteArray.toList s137 == ByteArray.toList s150)
  (∃ A151, ∃ A151l, ∃ A151c, World.cell? w147 (Addr.add ⟨Array.size (World.heap (World.drew (World.drew w7))), 0, none⟩ 1) = some (Value.slice A151 A151l A151c) ∧
  V.when (decide ((0 : Int) ≤ n145 ∧ (n145 : Int) < ((A151l : Nat) : Int))) (V.ptr A151 fun a152 =>
  ∃ n153, World.cell? w147 (Addr.add (Addr.add a152 ((Int.toNat n145) * 3)) 2) = some (Value.int .i64 n153) ∧
  R (Ending.returned (Value.bool (n138 == n153))) w147))
  (R (Ending.returned (Value.bool false)) w147)))
  (R (Ending.returned (Value.bool false)) w147)))
  (V.sel (n21 == 7)
  (∃ S154 : World → Prop, S154 (World.drew w20) ∧
  ∃ A156, ∃ A156l, ∃ A156c, (∀ w155, S154 w155 → World.cell? w155 (Addr.add ⟨Array.size (World.heap (World.drew (World.drew w7))), 0, none⟩ 1) = some (Value.slice A156 A156l A156c)) ∧
  Calls Tryd.prog 10 #[(Value.pointer p15)] (World.drew w20) fun e158 w159 =>
  ∃ n157, e158 = Ending.returned (Value.int .i64 n157) ∧
  S154 w159 ∧
  V.sel (n157 == ((A156l : Nat) : Int))
  (∃ n160, ∃ A161, ∃ A161l, ∃ A161c, V.cellsC (fun a_ x_ => ∀ w155, S154 w155 → World.cell? w155 a_ = some x_) ⟨Array.size (World.heap (World.drew (World.drew w7))), 0, none⟩ [(Value.int .i64 n160), (Value.slice A161 A161l A161c)] ∧
  Calls Tryd.prog 11 #[(Value.pointer p15)] w159 fun e163 w164 =>
  ∃ n162, e163 = Ending.returned (Value.int .i64 n162) ∧
  S154 w164 ∧
  Calls Tryd.prog 53 #[(Value.agg #[(Value.int .i64 n160), (Value.slice A161 A161l A161c)])] w164 fun e166 w167 =>
  ∃ n165, e166 = Ending.returned (Value.int .i64 n165) ∧
  S154 w167 ∧
  R (Ending.returned (Value.bool (n162 == n165))) w167)
  (R (Ending.returned (Value.bool false)) w159))
  (V.sel (n21 == 8)
  (∃ S168 : World → Prop, S168 (World.drew w20) ∧
  ∃ n170, ∃ A171, ∃ A171l, ∃ A171c, V.cellsC (fun a_ x_ => ∀ w169, S168 w169 → World.cell? w169 a_ = some x_) ⟨Array.size (World.heap (World.drew (World.drew w7))), 0, none⟩ [(Value.int .i64 n170), (Value.slice A171 A171l A171c)] ∧
  Calls Tryd.prog 35 #[(Value.pointer p15)] (World.drew w20) fun e173 w174 =>
  ∃ A172, ∃ A172l, ∃ A172c, e173 = Ending.returned (Value.slice A172 A172l A172c) ∧
  S168 w174 ∧
  Calls Tryd.prog 31 #[(Value.agg #[(Value.int .i64 n170), (Value.slice A171 A171l A171c)])] w174 fun e176 w177 =>
  ∃ A175, ∃ A175l, ∃ A175c, e176 = Ending.returned (Value.slice A175 A175l A175c) ∧
  S168 w177 ∧
  Calls Tryd.prog 29 #[(Value.slice A172 A172l A172c), (Value.slice A175 A175l A175c)] w177 fun e179 w180 =>
  ∃ b178, e179 = Ending.returned (Value.bool b178) ∧
  S168 w180 ∧
  R (Ending.returned (Value.bool b178)) w180)
  (V.sel (n21 == 9)
  (∃ n181, World.cell? w20 (Addr.add ⟨Array.size (World.heap w), 0, none⟩ 4) = some (Value.int .i64 n181) ∧
  ∃ S182 : World → Prop, S182 (World.drew w20) ∧
  ∃ n184, ∃ A185, ∃ A185l, ∃ A185c, V.cellsC (fun a_ x_ => ∀ w183, S182 w183 → World.cell? w183 a_ = some x_) ⟨Array.size (World.heap (World.drew (World.drew w7))), 0, none⟩ [(Value.int .i64 n184), (Value.slice A185 A185l A185c)] ∧
  Calls Tryd.prog 55 #[(Value.pointer p15), (Value.int .i64 (if 66000 < n181 then 66000 else n181))] (World.drew w20) fun e187 w188 =>
  ∃ A186, ∃ A186l, ∃ A186c, e187 = Ending.returned (Value.slice A186 A186l A186c) ∧
  S182 w188 ∧
  Calls Tryd.prog 56 #[(Value.agg #[(Value.int .i64 n184), (Value.slice A185 A185l A185c)])] w188 fun e190 w191 =>
  ∃ A189, ∃ A189l, ∃ A189c, e190 = Ending.returned (Value.slice A189 A189l A189c) ∧
  S182 w191 ∧
  Calls Tryd.prog 54 #[(Value.slice A186 A186l A186c), (Value.slice A189 A189l A189c), (Value.int .i64 (if 66000 < n181 then 66000 else n181))] w191 fun e193 w194 =>
  ∃ b192, e193 = Ending.returned (Value.bool b192) ∧
  S182 w194 ∧
  R (Ending.returned (Value.bool b192)) w194)
  (V.sel (n21 == 10)
  (Calls Tryd.prog 57 #[(Value.pointer w_1), (Value.int .i64 x10), (Value.int .i64 x11)] w20 fun e196 w197 =>
  ∃ b195, e196 = Ending.returned (Value.bool b195) ∧
  R (Ending.returned (Value.bool b195)) w197)
  (R (Ending.returned (Value.bool true)) w20))))))))
  (V.sel (n21 == 3)
  (V.sel (n21 == 3)
  (∃ n198, ∃ n199, ∃ n200, ∃ s201, ∃ n202, V.cellsC (fun a_ x_ => World.cell? w20 a_ = some x_) ⟨Array.size (World.heap w), 0, none⟩ [(Value.int .i64 n198), (Value.int .i64 n199), (Value.int .i64 n200), (Value.string s201), (Value.int .i64 n202)] ∧
  Calls Tryd.prog 50 #[(Value.pointer w_1), (Value.agg #[(Value.int .i64 n198), (Value.int .i64 n199), (Value.int .i64 n200), (Value.string s201), (Value.int .i64 n202)]), (Value.int .i64 x10)] w20 fun e204 w205 =>
  ∃ b203, e204 = Ending.returned (Value.bool b203) ∧
  R (Ending.returned (Value.bool b203)) w205)
  (V.sel (n21 == 5)
  (∃ s206, World.cell? w20 (Addr.add ⟨Array.size (World.heap w), 0, none⟩ 3) = some (Value.string s206) ∧
  Calls Tryd.prog 51 #[(Value.pointer p15), (Value.string s206)] w20 fun e210 w211 =>
  ∃ n207, ∃ n208, ∃ b209, e210 = Ending.returned (Value.tuple #[(Value.int .i64 n207), (Value.int .i64 n208), (Value.bool b209)]) ∧
  ∃ n212, ∃ A213, ∃ A213l, ∃ A213c, V.cellsC (fun a_ x_ => World.cell? w211 a_ = some x_) ⟨Array.size (World.heap (World.drew (World.drew w7))), 0, none⟩ [(Value.int .i64 n212), (Value.slice A213 A213l A213c)] ∧
  ∃ s214, World.cell? w211 (Addr.add ⟨Array.size (World.heap w), 0, none⟩ 3) = some (Value.string s214) ∧
  Calls Tryd.prog 42 #[(Value.agg #[(Value.int .i64 n212), (Value.slice A213 A213l A213c)]), (Value.string s214)] w211 fun e216 w217 =>
  ∃ n215, e216 = Ending.returned (Value.int .i64 n215) ∧
  V.sel (decide (n215 < 0))
  (V.sel (n207 == 0)
  (V.sel (n208 == 0)
  (R (Ending.returned (Value.bool (!b209))) w217)
  (R (Ending.returned (Value.bool false)) w217))
  (R (Ending.returned (Value.bool false)) w217))
  (V.sel b209
  (∃ A218, ∃ A218l, ∃ A218c, World.cell? w217 (Addr.add ⟨Array.size (World.heap (World.drew (World.drew w7))), 0, none⟩ 1) = some (Value.slice A218 A218l A218c) ∧
  V.when (decide ((0 : Int) ≤ n215 ∧ (n215 : Int) < ((A218l : Nat) : Int))) (V.ptr A218 fun a219 =>
  ∃ n220, World.cell? w217 (Addr.add (Addr.add a219 ((Int.toNat n215) * 3)) 0) = some (Value.int .i64 n220) ∧
  V.sel (n207 == n220)
  (∃ A221, ∃ A221l, ∃ A221c, World.cell? w217 (Addr.add ⟨Array.size (World.heap (World.drew (World.drew w7))), 0, none⟩ 1) = some (Value.slice A221 A221l A221c) ∧
  V.when (decide ((0 : Int) ≤ n215 ∧ (n215 : Int) < ((A221l : Nat) : Int))) (V.ptr A221 fun a222 =>
  ∃ n223, World.cell? w217 (Addr.add (Addr.add a222 ((Int.toNat n215) * 3)) 2) = some (Value.int .i64 n223) ∧
  R (Ending.returned (Value.bool (n208 == n223))) w217))
  (R (Ending.returned (Value.bool false)) w217)))
  (R (Ending.returned (Value.bool false)) w217)))
  (V.sel (n21 == 6)
  (∃ n224, World.cell? w20 (Addr.add ⟨Array.size (World.heap w), 0, none⟩ 4) = some (Value.int .i64 n224) ∧
  Calls Tryd.prog 52 #[(Value.pointer p15), (Value.int .i64 n224)] w20 fun e228 w229 =>
  ∃ s225, ∃ n226, ∃ b227, e228 = Ending.returned (Value.tuple #[(Value.string s225), (Value.int .i64 n226), (Value.bool b227)]) ∧
  ∃ n230, ∃ A231, ∃ A231l, ∃ A231c, V.cellsC (fun a_ x_ => World.cell? w229 a_ = some x_) ⟨Array.size (World.heap (World.drew (World.drew w7))), 0, none⟩ [(Value.int .i64 n230), (Value.slice A231 A231l A231c)] ∧
  ∃ n232, World.cell? w229 (Addr.add ⟨Array.size (World.heap w), 0, none⟩ 4) = some (Value.int .i64 n232) ∧
  Calls Tryd.prog 28 #[(Value.agg #[(Value.int .i64 n230), (Value.slice A231 A231l A231c)]), (Value.int .i64 n232)] w229 fun e234 w235 =>
  ∃ n233, e234 = Ending.returned (Value.int .i64 n233) ∧
  V.sel (decide (n233 < 0))
  (V.sel (ByteArray.toList s225 == ByteArray.toList ByteArray.empty)
  (V.sel (n226 == 0)
  (R (Ending.returned (Value.bool (!b227))) w235)
  (R (Ending.returned (Value.bool false)) w235))
  (R (Ending.returned (Value.bool false)) w235))
  (V.sel b227
  (∃ A236, ∃ A236l, ∃ A236c, World.cell? w235 (Addr.add ⟨Array.size (World.heap (World.drew (World.drew w7))), 0, none⟩ 1) = some (Value.slice A236 A236l A236c) ∧
  V.when (decide ((0 : Int) ≤ n233 ∧ (n233 : Int) < ((A236l : Nat) : Int))) (V.ptr A236 fun a237 =>
  ∃ s238, World.cell? w235 (Addr.add (Addr.add a237 ((Int.toNat n233) * 3)) 1) = some (Value.string s238) ∧
  V.sel (ByteArray.toList s225 == ByteArray.toList s238)
  (∃ A239, ∃ A239l, ∃ A239c, World.cell? w235 (Addr.add ⟨Array.size (World.heap (World.drew (World.drew w7))), 0, none⟩ 1) = some (Value.slice A239 A239l A239c) ∧
  V.when (decide ((0 : Int) ≤ n233 ∧ (n233 : Int) < ((A239l : Nat) : Int))) (V.ptr A239 fun a240 =>
  ∃ n241, World.cell? w235 (Addr.add (Addr.add a240 ((Int.toNat n233) * 3)) 2) = some (Value.int .i64 n241) ∧
  R (Ending.returned (Value.bool (n226 == n241))) w235))
  (R (Ending.returned (Value.bool false)) w235)))
  (R (Ending.returned (Value.bool false)) w235)))
  (V.sel (n21 == 7)
  (∃ S242 : World → Prop, S242 (World.drew w20) ∧
  ∃ A244, ∃ A244l, ∃ A244c, (∀ w243, S242 w243 → World.cell? w243 (Addr.add ⟨Array.size (World.heap (World.drew (World.drew w7))), 0, none⟩ 1) = some (Value.slice A244 A244l A244c)) ∧
  Calls Tryd.prog 10 #[(Value.pointer p15)] (World.drew w20) fun e246 w247 =>
  ∃ n245, e246 = Ending.returned (Value.int .i64 n245) ∧
  S242 w247 ∧
  V.sel (n245 == ((A244l : Nat) : Int))
  (∃ n248, ∃ A249, ∃ A249l, ∃ A249c, V.cellsC (fun a_ x_ => ∀ w243, S242 w243 → World.cell? w243 a_ = some x_) ⟨Array.size (World.heap (World.drew (World.drew w7))), 0, none⟩ [(Value.int .i64 n248), (Value.slice A249 A249l A249c)] ∧
  Calls Tryd.prog 11 #[(Value.pointer p15)] w247 fun e251 w252 =>
  ∃ n250, e251 = Ending.returned (Value.int .i64 n250) ∧
  S242 w252 ∧
  Calls Tryd.prog 53 #[(Value.agg #[(Value.int .i64 n248), (Value.slice A249 A249l A249c)])] w252 fun e254 w255 =>
  ∃ n253, e254 = Ending.returned (Value.int .i64 n253) ∧
  S242 w255 ∧
  R (Ending.returned (Value.bool (n250 == n253))) w255)
  (R (Ending.returned (Value.bool false)) w247))
  (V.sel (n21 == 8)
  (∃ S256 : World → Prop, S256 (World.drew w20) ∧
  ∃ n258, ∃ A259, ∃ A259l, ∃ A259c, V.cellsC (fun a_ x_ => ∀ w257, S256 w257 → World.cell? w257 a_ = some x_) ⟨Array.size (World.heap (World.drew (World.drew w7))), 0, none⟩ [(Value.int .i64 n258), (Value.slice A259 A259l A259c)] ∧
  Calls Tryd.prog 35 #[(Value.pointer p15)] (World.drew w20) fun e261 w262 =>
  ∃ A260, ∃ A260l, ∃ A260c, e261 = Ending.returned (Value.slice A260 A260l A260c) ∧
  S256 w262 ∧
  Calls Tryd.prog 31 #[(Value.agg #[(Value.int .i64 n258), (Value.slice A259 A259l A259c)])] w262 fun e264 w265 =>
  ∃ A263, ∃ A263l, ∃ A263c, e264 = Ending.returned (Value.slice A263 A263l A263c) ∧
  S256 w265 ∧
  Calls Tryd.prog 29 #[(Value.slice A260 A260l A260c), (Value.slice A263 A263l A263c)] w265 fun e267 w268 =>
  ∃ b266, e267 = Ending.returned (Value.bool b266) ∧
  S256 w268 ∧
  R (Ending.returned (Value.bool b266)) w268)
  (V.sel (n21 == 9)
  (∃ n269, World.cell? w20 (Addr.add ⟨Array.size (World.heap w), 0, none⟩ 4) = some (Value.int .i64 n269) ∧
  ∃ S270 : World → Prop, S270 (World.drew w20) ∧
  ∃ n272, ∃ A273, ∃ A273l, ∃ A273c, V.cellsC (fun a_ x_ => ∀ w271, S270 w271 → World.cell? w271 a_ = some x_) ⟨Array.size (World.heap (World.drew (World.drew w7))), 0, none⟩ [(Value.int .i64 n272), (Value.slice A273 A273l A273c)] ∧
  Calls Tryd.prog 55 #[(Value.pointer p15), (Value.int .i64 (if 66000 < n269 then 66000 else n269))] (World.drew w20) fun e275 w276 =>
  ∃ A274, ∃ A274l, ∃ A274c, e275 = Ending.returned (Value.slice A274 A274l A274c) ∧
  S270 w276 ∧
  Calls Tryd.prog 56 #[(Value.agg #[(Value.int .i64 n272), (Value.slice A273 A273l A273c)])] w276 fun e278 w279 =>
  ∃ A277, ∃ A277l, ∃ A277c, e278 = Ending.returned (Value.slice A277 A277l A277c) ∧
  S270 w279 ∧
  Calls Tryd.prog 54 #[(Value.slice A274 A274l A274c), (Value.slice A277 A277l A277c), (Value.int .i64 (if 66000 < n269 then 66000 else n269))] w279 fun e281 w282 =>
  ∃ b280, e281 = Ending.returned (Value.bool b280) ∧
  S270 w282 ∧
  R (Ending.returned (Value.bool b280)) w282)
  (V.sel (n21 == 10)
  (Calls Tryd.prog 57 #[(Value.pointer w_1), (Value.int .i64 x10), (Value.int .i64 x11)] w20 fun e284 w285 =>
  ∃ b283, e284 = Ending.returned (Value.bool b283) ∧
  R (Ending.returned (Value.bool b283)) w285)
  (R (Ending.returned (Value.bool true)) w20))))))))
  (V.sel (n21 == 4)
  (∃ n286, ∃ n287, ∃ n288, ∃ s289, ∃ n290, V.cellsC (fun a_ x_ => World.cell? w20 a_ = some x_) ⟨Array.size (World.heap w), 0, none⟩ [(Value.int .i64 n286), (Value.int .i64 n287), (Value.int .i64 n288), (Value.string s289), (Value.int .i64 n290)] ∧
  Calls Tryd.prog 50 #[(Value.pointer w_1), (Value.agg #[(Value.int .i64 n286), (Value.int .i64 n287), (Value.int .i64 n288), (Value.string s289), (Value.int .i64 n290)]), (Value.int .i64 x10)] w20 fun e292 w293 =>
  ∃ b291, e292 = Ending.returned (Value.bool b291) ∧
  R (Ending.returned (Value.bool b291)) w293)
  (V.sel (n21 == 5)
  (∃ s294, World.cell? w20 (Addr.add ⟨Array.size (World.heap w), 0, none⟩ 3) = some (Value.string s294) ∧
  Calls Tryd.prog 51 #[(Value.pointer p15), (Value.string s294)] w20 fun e298 w299 =>
  ∃ n295, ∃ n296, ∃ b297, e298 = Ending.returned (Value.tuple #[(Value.int .i64 n295), (Value.int .i64 n296), (Value.bool b297)]) ∧
  ∃ n300, ∃ A301, ∃ A301l, ∃ A301c, V.cellsC (fun a_ x_ => World.cell? w299 a_ = some x_) ⟨Array.size (World.heap (World.drew (World.drew w7))), 0, none⟩ [(Value.int .i64 n300), (Value.slice A301 A301l A301c)] ∧
  ∃ s302, World.cell? w299 (Addr.add ⟨Array.size (World.heap w), 0, none⟩ 3) = some (Value.string s302) ∧
  Calls Tryd.prog 42 #[(Value.agg #[(Value.int .i64 n300), (Value.slice A301 A301l A301c)]), (Value.string s302)] w299 fun e304 w305 =>
  ∃ n303, e304 = Ending.returned (Value.int .i64 n303) ∧
  V.sel (decide (n303 < 0))
  (V.sel (n295 == 0)
  (V.sel (n296 == 0)
  (R (Ending.returned (Value.bool (!b297))) w305)
  (R (Ending.returned (Value.bool false)) w305))
  (R (Ending.returned (Value.bool false)) w305))
  (V.sel b297
  (∃ A306, ∃ A306l, ∃ A306c, World.cell? w305 (Addr.add ⟨Array.size (World.heap (World.drew (World.drew w7))), 0, none⟩ 1) = some (Value.slice A306 A306l A306c) ∧
  V.when (decide ((0 : Int) ≤ n303 ∧ (n303 : Int) < ((A306l : Nat) : Int))) (V.ptr A306 fun a307 =>
  ∃ n308, World.cell? w305 (Addr.add (Addr.add a307 ((Int.toNat n303) * 3)) 0) = some (Value.int .i64 n308) ∧
  V.sel (n295 == n308)
  (∃ A309, ∃ A309l, ∃ A309c, World.cell? w305 (Addr.add ⟨Array.size (World.heap (World.drew (World.drew w7))), 0, none⟩ 1) = some (Value.slice A309 A309l A309c) ∧
  V.when (decide ((0 : Int) ≤ n303 ∧ (n303 : Int) < ((A309l : Nat) : Int))) (V.ptr A309 fun a310 =>
  ∃ n311, World.cell? w305 (Addr.add (Addr.add a310 ((Int.toNat n303) * 3)) 2) = some (Value.int .i64 n311) ∧
  R (Ending.returned (Value.bool (n296 == n311))) w305))
  (R (Ending.returned (Value.bool false)) w305)))
  (R (Ending.returned (Value.bool false)) w305)))
  (V.sel (n21 == 6)
  (∃ n312, World.cell? w20 (Addr.add ⟨Array.size (World.heap w), 0, none⟩ 4) = some (Value.int .i64 n312) ∧
  Calls Tryd.prog 52 #[(Value.pointer p15), (Value.int .i64 n312)] w20 fun e316 w317 =>
  ∃ s313, ∃ n314, ∃ b315, e316 = Ending.returned (Value.tuple #[(Value.string s313), (Value.int .i64 n314), (Value.bool b315)]) ∧
  ∃ n318, ∃ A319, ∃ A319l, ∃ A319c, V.cellsC (fun a_ x_ => World.cell? w317 a_ = some x_) ⟨Array.size (World.heap (World.drew (World.drew w7))), 0, none⟩ [(Value.int .i64 n318), (Value.slice A319 A319l A319c)] ∧
  ∃ n320, World.cell? w317 (Addr.add ⟨Array.size (World.heap w), 0, none⟩ 4) = some (Value.int .i64 n320) ∧
  Calls Tryd.prog 28 #[(Value.agg #[(Value.int .i64 n318), (Value.slice A319 A319l A319c)]), (Value.int .i64 n320)] w317 fun e322 w323 =>
  ∃ n321, e322 = Ending.returned (Value.int .i64 n321) ∧
  V.sel (decide (n321 < 0))
  (V.sel (ByteArray.toList s313 == ByteArray.toList ByteArray.empty)
  (V.sel (n314 == 0)
  (R (Ending.returned (Value.bool (!b315))) w323)
  (R (Ending.returned (Value.bool false)) w323))
  (R (Ending.returned (Value.bool false)) w323))
  (V.sel b315
  (∃ A324, ∃ A324l, ∃ A324c, World.cell? w323 (Addr.add ⟨Array.size (World.heap (World.drew (World.drew w7))), 0, none⟩ 1) = some (Value.slice A324 A324l A324c) ∧
  V.when (decide ((0 : Int) ≤ n321 ∧ (n321 : Int) < ((A324l : Nat) : Int))) (V.ptr A324 fun a325 =>
  ∃ s326, World.cell? w323 (Addr.add (Addr.add a325 ((Int.toNat n321) * 3)) 1) = some (Value.string s326) ∧
  V.sel (ByteArray.toList s313 == ByteArray.toList s326)
  (∃ A327, ∃ A327l, ∃ A327c, World.cell? w323 (Addr.add ⟨Array.size (World.heap (World.drew (World.drew w7))), 0, none⟩ 1) = some (Value.slice A327 A327l A327c) ∧
  V.when (decide ((0 : Int) ≤ n321 ∧ (n321 : Int) < ((A327l : Nat) : Int))) (V.ptr A327 fun a328 =>
  ∃ n329, World.cell? w323 (Addr.add (Addr.add a328 ((Int.toNat n321) * 3)) 2) = some (Value.int .i64 n329) ∧
  R (Ending.returned (Value.bool (n314 == n329))) w323))
  (R (Ending.returned (Value.bool false)) w323)))
  (R (Ending.returned (Value.bool false)) w323)))
  (V.sel (n21 == 7)
  (∃ S330 : World → Prop, S330 (World.drew w20) ∧
  ∃ A332, ∃ A332l, ∃ A332c, (∀ w331, S330 w331 → World.cell? w331 (Addr.add ⟨Array.size (World.heap (World.drew (World.drew w7))), 0, none⟩ 1) = some (Value.slice A332 A332l A332c)) ∧
  Calls Tryd.prog 10 #[(Value.pointer p15)] (World.drew w20) fun e334 w335 =>
  ∃ n333, e334 = Ending.returned (Value.int .i64 n333) ∧
  S330 w335 ∧
  V.sel (n333 == ((A332l : Nat) : Int))
  (∃ n336, ∃ A337, ∃ A337l, ∃ A337c, V.cellsC (fun a_ x_ => ∀ w331, S330 w331 → World.cell? w331 a_ = some x_) ⟨Array.size (World.heap (World.drew (World.drew w7))), 0, none⟩ [(Value.int .i64 n336), (Value.slice A337 A337l A337c)] ∧
  Calls Tryd.prog 11 #[(Value.pointer p15)] w335 fun e339 w340 =>
  ∃ n338, e339 = Ending.returned (Value.int .i64 n338) ∧
  S330 w340 ∧
  Calls Tryd.prog 53 #[(Value.agg #[(Value.int .i64 n336), (Value.slice A337 A337l A337c)])] w340 fun e342 w343 =>
  ∃ n341, e342 = Ending.returned (Value.int .i64 n341) ∧
  S330 w343 ∧
  R (Ending.returned (Value.bool (n338 == n341))) w343)
  (R (Ending.returned (Value.bool false)) w335))
  (V.sel (n21 == 8)
  (∃ S344 : World → Prop, S344 (World.drew w20) ∧
  ∃ n346, ∃ A347, ∃ A347l, ∃ A347c, V.cellsC (fun a_ x_ => ∀ w345, S344 w345 → World.cell? w345 a_ = some x_) ⟨Array.size (World.heap (World.drew (World.drew w7))), 0, none⟩ [(Value.int .i64 n346), (Value.slice A347 A347l A347c)] ∧
  Calls Tryd.prog 35 #[(Value.pointer p15)] (World.drew w20) fun e349 w350 =>
  ∃ A348, ∃ A348l, ∃ A348c, e349 = Ending.returned (Value.slice A348 A348l A348c) ∧
  S344 w350 ∧
  Calls Tryd.prog 31 #[(Value.agg #[(Value.int .i64 n346), (Value.slice A347 A347l A347c)])] w350 fun e352 w353 =>
  ∃ A351, ∃ A351l, ∃ A351c, e352 = Ending.returned (Value.slice A351 A351l A351c) ∧
  S344 w353 ∧
  Calls Tryd.prog 29 #[(Value.slice A348 A348l A348c), (Value.slice A351 A351l A351c)] w353 fun e355 w356 =>
  ∃ b354, e355 = Ending.returned (Value.bool b354) ∧
  S344 w356 ∧
  R (Ending.returned (Value.bool b354)) w356)
  (V.sel (n21 == 9)
  (∃ n357, World.cell? w20 (Addr.add ⟨Array.size (World.heap w), 0, none⟩ 4) = some (Value.int .i64 n357) ∧
  ∃ S358 : World → Prop, S358 (World.drew w20) ∧
  ∃ n360, ∃ A361, ∃ A361l, ∃ A361c, V.cellsC (fun a_ x_ => ∀ w359, S358 w359 → World.cell? w359 a_ = some x_) ⟨Array.size (World.heap (World.drew (World.drew w7))), 0, none⟩ [(Value.int .i64 n360), (Value.slice A361 A361l A361c)] ∧
  Calls Tryd.prog 55 #[(Value.pointer p15), (Value.int .i64 (if 66000 < n357 then 66000 else n357))] (World.drew w20) fun e363 w364 =>
  ∃ A362, ∃ A362l, ∃ A362c, e363 = Ending.returned (Value.slice A362 A362l A362c) ∧
  S358 w364 ∧
  Calls Tryd.prog 56 #[(Value.agg #[(Value.int .i64 n360), (Value.slice A361 A361l A361c)])] w364 fun e366 w367 =>
  ∃ A365, ∃ A365l, ∃ A365c, e366 = Ending.returned (Value.slice A365 A365l A365c) ∧
  S358 w367 ∧
  Calls Tryd.prog 54 #[(Value.slice A362 A362l A362c), (Value.slice A365 A365l A365c), (Value.int .i64 (if 66000 < n357 then 66000 else n357))] w367 fun e369 w370 =>
  ∃ b368, e369 = Ending.returned (Value.bool b368) ∧
  S358 w370 ∧
  R (Ending.returned (Value.bool b368)) w370)
  (V.sel (n21 == 10)
  (Calls Tryd.prog 57 #[(Value.pointer w_1), (Value.int .i64 x10), (Value.int .i64 x11)] w20 fun e372 w373 =>
  ∃ b371, e372 = Ending.returned (Value.bool b371) ∧
  R (Ending.returned (Value.bool b371)) w373)
  (R (Ending.returned (Value.bool true)) w20))))))))))))) :
  Calls Tryd.prog 34 #[(Value.pointer w_1), (Value.agg #[(Value.int .i64 o_2), (Value.int .i64 o_3), (Value.int .i64 o_4), (Value.string o_5), (Value.int .i64 o_6)])] w R :=
  V.calls_of_R ⟨V.assoc [], V.assocP [(1, V.line [0, 1, 2, 3, 4, 5, 6, 7]), (2, V.line [0, 1, 2, 3, 4, 5, 6, 7, 8, 9, 10, 11, 12, 13, 14]), (22, V.line [0, 2, 3, 4, 1, 5, 6, 7, 9, 8, 10, 11, 12, 13]), (24, V.line [0, 2, 1, 3, 4, 5]), (27, V.line [0, 1, 3, 5, 2, 4, 6, 7])], V.assocC [], V.assocS [], ⟨[], true⟩⟩ Tryd.func34 rfl (Eq.mp (by kernel_rfl) h)

theorem slots_Table_int__Names_nf (t_1 : Option Addr) (w : World) (R : Ending → World → Prop) (h :
  Calls Tryd.prog 10 #[(Value.pointer t_1)] w fun e3 w4 =>
  ∃ n2, e3 = Ending.returned (Value.int .i64 n2) ∧
  V.when (decide ((0 : Int) ≤ 0 ∧ (0 : Int) ≤ n2 ∧ (n2 : Int) ≤ 281474976710656 ∧ (16 : Int) * n2 ≤ 281474976710656)) (∀ w5, w5 = (World.alloc w4 (.cells ⟨V.rep (Int.toNat n2) [(Value.string ByteArray.empty)]⟩ 9)) →
  ∀ w6, w6 = (World.alloc w5 (.cells #[(Value.slice none 0 0)] 68)) →
  ∃ w7, Sem.run Tryd.prog (Instr.storeAt 68 (Value.pointer (some ⟨Array.size (World.heap w5), 0, none⟩)) (Value.slice (some ⟨Array.size (World.heap w4), 0, none⟩) 0 (Int.toNat n2))) w6 = .ok () w7 ∧
  Calls Tryd.prog 58 #[(Value.pointer t_1)] w7 fun e9 w10 =>
  ∃ f8, ∃ f8a, ∃ f8c, e9 = Ending.returned (Value.func (.func f8) f8a f8c) ∧
  V.when (V.hasB Tryd.prog f8 && true) (∀ (Rc11 : Loop) (l12 : Nat) (w13 : World), l12 = Array.size (World.heap w10) + 1 → w13 = World.alloc (World.alloc w10 (.deferred (some []))) (.loop { Rc11 with state := .ready, pending := none }) →
  (∀ y11_16 y12_17 (W14 : World) (R15 : Ending → World → Prop), V.LoopSt W14 l12 Rc11 .ready none →
  (V.LoopSt W14 l12 Rc11 .ready none ∧
  ∃ A18, ∃ A18l, ∃ A18c, World.cell? (V.setLoop W14 l12 Rc11 .busy none) ⟨Array.size (World.heap w5), 0, none⟩ = some (Value.slice A18 A18l A18c) ∧
  ∀ w19, w19 = (World.alloc (V.setLoop W14 l12 Rc11 .busy none) (.cells #[(Value.string y12_17)] 9)) →
  ∃ A20, ∃ A20l, ∃ A20c, ∃ w21, Sem.run Tryd.prog (Builtin.append_ #[68, 68] 68 #[(Value.slice A18 A18l A18c), (Value.slice (some ⟨Array.size (World.heap (V.setLoop W14 l12 Rc11 .busy none)), 0, none⟩) 1 1)]) w19 = .ok (Value.slice A20 A20l A20c) w21 ∧
  ∃ w22, Sem.run Tryd.prog (Instr.storeAt 68 (Value.pointer (some ⟨Array.size (World.heap w5), 0, none⟩)) (Value.slice A20 A20l A20c)) w21 = .ok () w22 ∧
  V.LoopSt w22 l12 Rc11 .busy none ∧ R15 (Ending.returned (Value.bool true)) (V.setLoop w22 l12 Rc11 .ready none)) →
  V.Yield Tryd.prog l12 [(Value.int .i64 y11_16), (Value.string y12_17)] W14 R15) →
  Calls Tryd.prog f8 ⟨Array.toList f8a ++ [(Value.func (.yield l12) #[] #[])] ++ Array.toList f8c⟩ w13 fun e23 w25 => (∃ v24, e23 = Ending.returned v24) ∧
  ((V.LoopSt w25 l12 Rc11 .ready none ∧
  ∃ A26, ∃ A26l, ∃ A26c, World.cell? (V.setLoop w25 l12 Rc11 .exhausted none) ⟨Array.size (World.heap w5), 0, none⟩ = some (Value.slice A26 A26l A26c) ∧
  Calls Tryd.prog 47 #[(Value.slice A26 A26l A26c)] (V.setLoop w25 l12 Rc11 .exhausted none) fun e27 w28 =>
  e27 = Ending.returned undef ∧
  ∃ A29, ∃ A29l, ∃ A29c, World.cell? w28 ⟨Array.size (World.heap w5), 0, none⟩ = some (Value.slice A29 A29l A29c) ∧
  V.closeR (Array.size (World.heap w10) :: []) w28 fun w30 =>
  R (Ending.returned (Value.slice A29 A29l A29c)) w30) ∨
  False)))) :
  Calls Tryd.prog 35 #[(Value.pointer t_1)] w R :=
  V.calls_of_R ⟨V.assoc [], V.assocP [], V.assocC [], V.assocS [(0, [V.Sh.one (.int .i64), V.Sh.one .str])], ⟨[], true⟩⟩ Tryd.func35 rfl (Eq.mp (by kernel_rfl) h)

end Go.Proofs.YtcampkaenlohbaaDoor
