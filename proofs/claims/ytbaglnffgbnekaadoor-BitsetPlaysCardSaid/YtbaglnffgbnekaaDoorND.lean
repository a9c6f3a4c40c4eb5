/- Normal forms of the program's functions, printed by a program of mine; the kernel checks each. -/
import Derived.Test.YtbaglnffgbnekaaDoorProg
import Derived.Test.YtbaglnffgbnekaaDoorV3
set_option linter.unusedVariables false
set_option maxRecDepth 100000
namespace Go.Proofs.YtbaglnffgbnekaaDoor
open Go

theorem berthlaw01_Regs_changing_nfd (g_1 : Option Addr) (o_2 : Int) (o_3 : Int) (o_4 : Int) (o_5 : Int) (o_6 : Int) (o_7 : Option Addr) (o_7l : Nat) (o_7c : Nat) (o_8 : Option Addr) (o_8l : Nat) (o_8c : Nat) (w : World) (R : Ending → World → Prop) (h :
  ∀ w9, w9 = (World.alloc w (.cells #[(Value.int .i64 o_2), (Value.int .i64 o_3), (Value.int .i64 o_4), (Value.int .i64 o_5), (Value.int .i64 o_6), (Value.slice o_7 o_7l o_7c), (Value.slice o_8 o_8l o_8c)] 56)) →
  ∃ n10, World.cell? w9 (Addr.add ⟨Array.size (World.heap w), 0, none⟩ 1) = some (Value.int .i64 n10) ∧
  ∃ n11, World.cell? w9 (Addr.add ⟨Array.size (World.heap w), 0, none⟩ 2) = some (Value.int .i64 n11) ∧
  V.lt (IntKind.wrap .i64 ((BitVec.toNat (BitVec.ofInt 64 n10 &&& BitVec.ofInt 64 3) : Nat) : Int)) fun x12 =>
  V.lt (IntKind.wrap .i64 ((BitVec.toNat (BitVec.ofInt 64 n11 &&& BitVec.ofInt 64 3) : Nat) : Int)) fun x13 =>
  ∃ n14, World.cell? (World.drew w9) (Addr.add ⟨Array.size (World.heap w), 0, none⟩ 0) = some (Value.int .i64 n14) ∧
  V.sel (n14 == 11)
  (∃ S15 : World → Prop, S15 (World.drew (World.drew w9)) ∧
  V.ptr g_1 fun a17 =>
  V.when (decide ((0 : Int) ≤ x12 ∧ (x12 : Int) < 4)) (∃ p18, (∀ w16, S15 w16 → World.cell? w16 (Addr.add (Addr.add a17 0) ((Int.toNat x12) * 1)) = some (Value.pointer p18)) ∧
  ∃ n19, (∀ w16, S15 w16 → World.cell? w16 (Addr.add ⟨Array.size (World.heap w), 0, none⟩ 4) = some (Value.int .i64 n19)) ∧
  Calls Tryd.prog 18 #[(Value.pointer p18), (Value.int .i64 n19)] (World.drew (World.drew w9)) fun e21 w22 =>
  ∃ b20, e21 = Ending.returned (Value.bool b20) ∧
  S15 w22 ∧
  ∃ J23 : Option Addr → Bool → World → Prop, (∃ S24 : World → Prop, S24 (World.drew w22) ∧
  V.ptr g_1 fun a26 =>
  V.when (decide ((0 : Int) ≤ x12 ∧ (x12 : Int) < 4)) (∃ n27, ∃ A28, ∃ A28l, ∃ A28c, V.cellsC (fun a_ x_ => ∀ w25, S24 w25 → World.cell? w25 a_ = some x_) (Addr.add (Addr.add a26 4) ((Int.toNat x12) * 2)) [(Value.int .i64 n27), (Value.slice A28 A28l A28c)] ∧
  ∃ n29, (∀ w25, S24 w25 → World.cell? w25 (Addr.add ⟨Array.size (World.heap w), 0, none⟩ 4) = some (Value.int .i64 n29)) ∧
  (Calls Tryd.prog 73 #[(Value.agg #[(Value.int .i64 n27), (Value.slice A28 A28l A28c)]), (Value.int .i64 n29)] (World.drew w22) fun e33 w34 =>
  ∃ n30, ∃ A31, ∃ A31l, ∃ A31c, ∃ b32, e33 = Ending.returned (Value.tuple #[(Value.agg #[(Value.int .i64 n30), (Value.slice A31 A31l A31c)]), (Value.bool b32)]) ∧
  S24 w34 ∧
  ∀ w35, w35 = (World.alloc w34 (.cells #[(Value.int .i64 0), (Value.slice none 0 0)] 50)) →
  S24 w35 ∧
  ∃ w36, Sem.run Tryd.prog (Instr.storeAt 50 (Value.pointer (some ⟨Array.size (World.heap w34), 0, none⟩)) (Value.agg #[(Value.int .i64 n30), (Value.slice A31 A31l A31c)])) w35 = .ok () w36 ∧
  S24 w36 ∧
  J23 (some ⟨Array.size (World.heap w34), 0, none⟩) b32 w36) ∧
  (∀ w37, w37 = (World.alloc (World.drew w22) (.cells #[(Value.int .i64 0), (Value.slice none 0 0)] 50)) →
  S24 w37 ∧
  Calls Tryd.prog 73 #[(Value.agg #[(Value.int .i64 n27), (Value.slice A28 A28l A28c)]), (Value.int .i64 n29)] w37 fun e41 w42 =>
  ∃ n38, ∃ A39, ∃ A39l, ∃ A39c, ∃ b40, e41 = Ending.returned (Value.tuple #[(Value.agg #[(Value.int .i64 n38), (Value.slice A39 A39l A39c)]), (Value.bool b40)]) ∧
  S24 w42 ∧
  ∃ w43, Sem.run Tryd.prog (Instr.storeAt 50 (Value.pointer (some ⟨Array.size (World.heap (World.drew w22)), 0, none⟩)) (Value.agg #[(Value.int .i64 n38), (Value.slice A39 A39l A39c)])) w42 = .ok () w43 ∧
  S24 w43 ∧
  J23 (some ⟨Array.size (World.heap (World.drew w22)), 0, none⟩) b40 w43) ∧ True)) ∧
  ∀ r_44 want_45 (j46 : Nat → Value) (w47 : World), J23 r_44 want_45 w47 →
  V.ptr r_44 fun a48 =>
  ∃ n49, ∃ A50, ∃ A50l, ∃ A50c, V.cellsC (fun a_ x_ => World.cell? w47 a_ = some x_) a48 [(Value.int .i64 n49), (Value.slice A50 A50l A50c)] ∧
  V.ptr g_1 fun a51 =>
  V.when (decide ((0 : Int) ≤ x12 ∧ (x12 : Int) < 4)) (∃ w52, Sem.run Tryd.prog (Instr.storeAt 50 (Value.pointer (some (Addr.add (Addr.add a51 4) ((Int.toNat x12) * 2)))) (Value.agg #[(Value.int .i64 n49), (Value.slice A50 A50l A50c)])) (World.drew w47) = .ok () w52 ∧
  R (Ending.returned (Value.bool (b20 == want_45))) w52)))
  (V.sel (n14 == 12)
  (∃ S53 : World → Prop, S53 (World.drew (World.drew w9)) ∧
  V.ptr g_1 fun a55 =>
  V.when (decide ((0 : Int) ≤ x12 ∧ (x12 : Int) < 4)) (∃ p56, (∀ w54, S53 w54 → World.cell? w54 (Addr.add (Addr.add a55 0) ((Int.toNat x12) * 1)) = some (Value.pointer p56)) ∧
  ∃ n57, (∀ w54, S53 w54 → World.cell? w54 (Addr.add ⟨Array.size (World.heap w), 0, none⟩ 4) = some (Value.int .i64 n57)) ∧
  Calls Tryd.prog 19 #[(Value.pointer p56), (Value.int .i64 n57)] (World.drew (World.drew w9)) fun e59 w60 =>
  ∃ b58, e59 = Ending.returned (Value.bool b58) ∧
  S53 w60 ∧
  ∃ J61 : Option Addr → Bool → World → Prop, (∃ S62 : World → Prop, S62 (World.drew w60) ∧
  V.ptr g_1 fun a64 =>
  V.when (decide ((0 : Int) ≤ x12 ∧ (x12 : Int) < 4)) (∃ n65, ∃ A66, ∃ A66l, ∃ A66c, V.cellsC (fun a_ x_ => ∀ w63, S62 w63 → World.cell? w63 a_ = some x_) (Addr.add (Addr.add a64 4) ((Int.toNat x12) * 2)) [(Value.int .i64 n65), (Value.slice A66 A66l A66c)] ∧
  ∃ n67, (∀ w63, S62 w63 → World.cell? w63 (Addr.add ⟨Array.size (World.heap w), 0, none⟩ 4) = some (Value.int .i64 n67)) ∧
  (Calls Tryd.prog 74 #[(Value.agg #[(Value.int .i64 n65), (Value.slice A66 A66l A66c)]), (Value.int .i64 n67)] (World.drew w60) fun e71 w72 =>
  ∃ n68, ∃ A69, ∃ A69l, ∃ A69c, ∃ b70, e71 = Ending.returned (Value.tuple #[(Value.agg #[(Value.int .i64 n68), (Value.slice A69 A69l A69c)]), (Value.bool b70)]) ∧
  S62 w72 ∧
  ∀ w73, w73 = (World.alloc w72 (.cells #[(Value.int .i64 0), (Value.slice none 0 0)] 50)) →
  S62 w73 ∧
  ∃ w74, Sem.run Tryd.prog (Instr.storeAt 50 (Value.pointer (some ⟨Array.size (World.heap w72), 0, none⟩)) (Value.agg #[(Value.int .i64 n68), (Value.slice A69 A69l A69c)])) w73 = .ok () w74 ∧
  S62 w74 ∧
  J61 (some ⟨Array.size (World.heap w72), 0, none⟩) b70 w74) ∧
  (∀ w75, w75 = (World.alloc (World.drew w60) (.cells #[(Value.int .i64 0), (Value.slice none 0 0)] 50)) →
  S62 w75 ∧
  Calls Tryd.prog 74 #[(Value.agg #[(Value.int .i64 n65), (Value.slice A66 A66l A66c)]), (Value.int .i64 n67)] w75 fun e79 w80 =>
  ∃ n76, ∃ A77, ∃ A77l, ∃ A77c, ∃ b78, e79 = Ending.returned (Value.tuple #[(Value.agg #[(Value.int .i64 n76), (Value.slice A77 A77l A77c)]), (Value.bool b78)]) ∧
  S62 w80 ∧
  ∃ w81, Sem.run Tryd.prog (Instr.storeAt 50 (Value.pointer (some ⟨Array.size (World.heap (World.drew w60)), 0, none⟩)) (Value.agg #[(Value.int .i64 n76), (Value.slice A77 A77l A77c)])) w80 = .ok () w81 ∧
  S62 w81 ∧
  J61 (some ⟨Array.size (World.heap (World.drew w60)), 0, none⟩) b78 w81) ∧ True)) ∧
  ∀ r_82 want_83 (j84 : Nat → Value) (w85 : World), J61 r_82 want_83 w85 →
  V.ptr r_82 fun a86 =>
  ∃ n87, ∃ A88, ∃ A88l, ∃ A88c, V.cellsC (fun a_ x_ => World.cell? w85 a_ = some x_) a86 [(Value.int .i64 n87), (Value.slice A88 A88l A88c)] ∧
  V.ptr g_1 fun a89 =>
  V.when (decide ((0 : Int) ≤ x12 ∧ (x12 : Int) < 4)) (∃ w90, Sem.run Tryd.prog (Instr.storeAt 50 (Value.pointer (some (Addr.add (Addr.add a89 4) ((Int.toNat x12) * 2)))) (Value.agg #[(Value.int .i64 n87), (Value.slice A88 A88l A88c)])) (World.drew w85) = .ok () w90 ∧
  R (Ending.returned (Value.bool (b58 == want_83))) w90)))
  (V.sel (n14 == 13)
  (∃ S91 : World → Prop, S91 (World.drew (World.drew w9)) ∧
  V.ptr g_1 fun a93 =>
  V.when (decide ((0 : Int) ≤ x12 ∧ (x12 : Int) < 4)) (∃ p94, (∀ w92, S91 w92 → World.cell? w92 (Addr.add (Addr.add a93 0) ((Int.toNat x12) * 1)) = some (Value.pointer p94)) ∧
  ∃ n95, (∀ w92, S91 w92 → World.cell? w92 (Addr.add ⟨Array.size (World.heap w), 0, none⟩ 4) = some (Value.int .i64 n95)) ∧
  Calls Tryd.prog 21 #[(Value.pointer p94), (Value.int .i64 n95)] (World.drew (World.drew w9)) fun e97 w98 =>
  ∃ n96, e97 = Ending.returned (Value.int .i64 n96) ∧
  S91 w98 ∧
  V.ptr g_1 fun a99 =>
  V.when (decide ((0 : Int) ≤ x12 ∧ (x12 : Int) < 4)) (∃ b100, World.cell? w98 (Addr.add (Addr.add a99 12) ((Int.toNat x12) * 1)) = some (Value.bool b100) ∧
  V.sel b100
  (Calls Tryd.prog 20 #[(Value.int .i64 n96)] w98 fun e102 w103 =>
  ∃ n101, e102 = Ending.returned (Value.int .i64 n101) ∧
  R (Ending.returned (Value.bool (n101 == 1))) w103)
  (∃ J104 : Option Addr → Int → World → Prop, (∃ S105 : World → Prop, S105 (World.drew w98) ∧
  V.ptr g_1 fun a107 =>
  V.when (decide ((0 : Int) ≤ x12 ∧ (x12 : Int) < 4)) (∃ n108, ∃ A109, ∃ A109l, ∃ A109c, V.cellsC (fun a_ x_ => ∀ w106, S105 w106 → World.cell? w106 a_ = some x_) (Addr.add (Addr.add a107 4) ((Int.toNat x12) * 2)) [(Value.int .i64 n108), (Value.slice A109 A109l A109c)] ∧
  ∃ n110, (∀ w106, S105 w106 → World.cell? w106 (Addr.add ⟨Array.size (World.heap w), 0, none⟩ 4) = some (Value.int .i64 n110)) ∧
  (Calls Tryd.prog 75 #[(Value.agg #[(Value.int .i64 n108), (Value.slice A109 A109l A109c)]), (Value.int .i64 n110)] (World.drew w98) fun e114 w115 =>
  ∃ n111, ∃ A112, ∃ A112l, ∃ A112c, ∃ n113, e114 = Ending.returned (Value.tuple #[(Value.agg #[(Value.int .i64 n111), (Value.slice A112 A112l A112c)]), (Value.int .i64 n113)]) ∧
  S105 w115 ∧
  ∀ w116, w116 = (World.alloc w115 (.cells #[(Value.int .i64 0), (Value.slice none 0 0)] 50)) →
  S105 w116 ∧
  ∃ w117, Sem.run Tryd.prog (Instr.storeAt 50 (Value.pointer (some ⟨Array.size (World.heap w115), 0, none⟩)) (Value.agg #[(Value.int .i64 n111), (Value.slice A112 A112l A112c)])) w116 = .ok () w117 ∧
  S105 w117 ∧
  J104 (some ⟨Array.size (World.heap w115), 0, none⟩) n113 w117) ∧
  (∀ w118, w118 = (World.alloc (World.drew w98) (.cells #[(Value.int .i64 0), (Value.slice none 0 0)] 50)) →
  S105 w118 ∧
  Calls Tryd.prog 75 #[(Value.agg #[(Value.int .i64 n108), (Value.slice A109 A109l A109c)]), (Value.int .i64 n110)] w118 fun e122 w123 =>
  ∃ n119, ∃ A120, ∃ A120l, ∃ A120c, ∃ n121, e122 = Ending.returned (Value.tuple #[(Value.agg #[(Value.int .i64 n119), (Value.slice A120 A120l A120c)]), (Value.int .i64 n121)]) ∧
  S105 w123 ∧
  ∃ w124, Sem.run Tryd.prog (Instr.storeAt 50 (Value.pointer (some ⟨Array.size (World.heap (World.drew w98)), 0, none⟩)) (Value.agg #[(Value.int .i64 n119), (Value.slice A120 A120l A120c)])) w123 = .ok () w124 ∧
  S105 w124 ∧
  J104 (some ⟨Array.size (World.heap (World.drew w98)), 0, none⟩) n121 w124) ∧ True)) ∧
  ∀ r_125 f_126 (j127 : Nat → Value) (w128 : World), J104 r_125 f_126 w128 →
  V.ptr r_125 fun a129 =>
  ∃ n130, ∃ A131, ∃ A131l, ∃ A131c, V.cellsC (fun a_ x_ => World.cell? w128 a_ = some x_) a129 [(Value.int .i64 n130), (Value.slice A131 A131l A131c)] ∧
  V.ptr g_1 fun a132 =>
  V.when (decide ((0 : Int) ≤ x12 ∧ (x12 : Int) < 4)) (∃ w133, Sem.run Tryd.prog (Instr.storeAt 50 (Value.pointer (some (Addr.add (Addr.add a132 4) ((Int.toNat x12) * 2)))) (Value.agg #[(Value.int .i64 n130), (Value.slice A131 A131l A131c)])) (World.drew w128) = .ok () w133 ∧
  Calls Tryd.prog 20 #[(Value.int .i64 n96)] w133 fun e135 w136 =>
  ∃ n134, e135 = Ending.returned (Value.int .i64 n134) ∧
  R (Ending.returned (Value.bool (n134 == f_126))) w136)))))
  (V.sel (n14 == 14)
  (V.ptr g_1 fun a137 =>
  V.when (decide ((0 : Int) ≤ x12 ∧ (x12 : Int) < 4)) (∃ p138, World.cell? (World.drew w9) (Addr.add (Addr.add a137 0) ((Int.toNat x12) * 1)) = some (Value.pointer p138) ∧
  V.ptr g_1 fun a139 =>
  V.when (decide ((0 : Int) ≤ x13 ∧ (x13 : Int) < 4)) (∃ p140, World.cell? (World.drew w9) (Addr.add (Addr.add a139 0) ((Int.toNat x13) * 1)) = some (Value.pointer p140) ∧
  Calls Tryd.prog 22 #[(Value.pointer p138), (Value.pointer p140)] (World.drew (World.drew w9)) fun e141 w142 =>
  e141 = Ending.returned undef ∧
  ∃ S143 : World → Prop, S143 (World.drew w142) ∧
  V.ptr g_1 fun a145 =>
  V.when (decide ((0 : Int) ≤ x12 ∧ (x12 : Int) < 4)) (∃ n146, ∃ A147, ∃ A147l, ∃ A147c, V.cellsC (fun a_ x_ => ∀ w144, S143 w144 → World.cell? w144 a_ = some x_) (Addr.add (Addr.add a145 4) ((Int.toNat x12) * 2)) [(Value.int .i64 n146), (Value.slice A147 A147l A147c)] ∧
  V.ptr g_1 fun a148 =>
  V.when (decide ((0 : Int) ≤ x13 ∧ (x13 : Int) < 4)) (∃ n149, ∃ A150, ∃ A150l, ∃ A150c, V.cellsC (fun a_ x_ => ∀ w144, S143 w144 → World.cell? w144 a_ = some x_) (Addr.add (Addr.add a148 4) ((Int.toNat x13) * 2)) [(Value.int .i64 n149), (Value.slice A150 A150l A150c)] ∧
  V.ptr g_1 fun a151 =>
  Calls Tryd.prog 76 #[(Value.agg #[(Value.int .i64 n146), (Value.slice A147 A147l A147c)]), (Value.agg #[(Value.int .i64 n149), (Value.slice A150 A150l A150c)])] (World.drew w142) fun e154 w155 =>
  ∃ n152, ∃ A153, ∃ A153l, ∃ A153c, e154 = Ending.returned (Value.agg #[(Value.int .i64 n152), (Value.slice A153 A153l A153c)]) ∧
  S143 w155 ∧
  V.when (decide ((0 : Int) ≤ x12 ∧ (x12 : Int) < 4)) (∃ w156, Sem.run Tryd.prog (Instr.storeAt 50 (Value.pointer (some (Addr.add (Addr.add a151 4) ((Int.toNat x12) * 2)))) (Value.agg #[(Value.int .i64 n152), (Value.slice A153 A153l A153c)])) w155 = .ok () w156 ∧
  R (Ending.returned (Value.bool true)) w156))))))
  (V.sel (n14 == 15)
  (V.ptr g_1 fun a157 =>
  V.when (decide ((0 : Int) ≤ x12 ∧ (x12 : Int) < 4)) (∃ p158, World.cell? (World.drew w9) (Addr.add (Addr.add a157 0) ((Int.toNat x12) * 1)) = some (Value.pointer p158) ∧
  V.ptr g_1 fun a159 =>
  V.when (decide ((0 : Int) ≤ x13 ∧ (x13 : Int) < 4)) (∃ p160, World.cell? (World.drew w9) (Addr.add (Addr.add a159 0) ((Int.toNat x13) * 1)) = some (Value.pointer p160) ∧
  Calls Tryd.prog 23 #[(Value.pointer p158), (Value.pointer p160)] (World.drew (World.drew w9)) fun e161 w162 =>
  e161 = Ending.returned undef ∧
  ∃ S163 : World → Prop, S163 (World.drew w162) ∧
  V.ptr g_1 fun a165 =>
  V.when (decide ((0 : Int) ≤ x12 ∧ (x12 : Int) < 4)) (∃ n166, ∃ A167, ∃ A167l, ∃ A167c, V.cellsC (fun a_ x_ => ∀ w164, S163 w164 → World.cell? w164 a_ = some x_) (Addr.add (Addr.add a165 4) ((Int.toNat x12) * 2)) [(Value.int .i64 n166), (Value.slice A167 A167l A167c)] ∧
  V.ptr g_1 fun a168 =>
  V.when (decide ((0 : Int) ≤ x13 ∧ (x13 : Int) < 4)) (∃ n169, ∃ A170, ∃ A170l, ∃ A170c, V.cellsC (fun a_ x_ => ∀ w164, S163 w164 → World.cell? w164 a_ = some x_) (Addr.add (Addr.add a168 4) ((Int.toNat x13) * 2)) [(Value.int .i64 n169), (Value.slice A170 A170l A170c)] ∧
  V.ptr g_1 fun a171 =>
  Calls Tryd.prog 77 #[(Value.agg #[(Value.int .i64 n166), (Value.slice A167 A167l A167c)]), (Value.agg #[(Value.int .i64 n169), (Value.slice A170 A170l A170c)])] (World.drew w162) fun e174 w175 =>
  ∃ n172, ∃ A173, ∃ A173l, ∃ A173c, e174 = Ending.returned (Value.agg #[(Value.int .i64 n172), (Value.slice A173 A173l A173c)]) ∧
  S163 w175 ∧
  V.when (decide ((0 : Int) ≤ x12 ∧ (x12 : Int) < 4)) (∃ w176, Sem.run Tryd.prog (Instr.storeAt 50 (Value.pointer (some (Addr.add (Addr.add a171 4) ((Int.toNat x12) * 2)))) (Value.agg #[(Value.int .i64 n172), (Value.slice A173 A173l A173c)])) w175 = .ok () w176 ∧
  R (Ending.returned (Value.bool true)) w176))))))
  (V.ptr g_1 fun a177 =>
  V.when (decide ((0 : Int) ≤ x12 ∧ (x12 : Int) < 4)) (∃ p178, World.cell? (World.drew w9) (Addr.add (Addr.add a177 0) ((Int.toNat x12) * 1)) = some (Value.pointer p178) ∧
  V.ptr g_1 fun a179 =>
  V.when (decide ((0 : Int) ≤ x13 ∧ (x13 : Int) < 4)) (∃ p180, World.cell? (World.drew w9) (Addr.add (Addr.add a179 0) ((Int.toNat x13) * 1)) = some (Value.pointer p180) ∧
  Calls Tryd.prog 24 #[(Value.pointer p178), (Value.pointer p180)] (World.drew (World.drew w9)) fun e181 w182 =>
  e181 = Ending.returned undef ∧
  ∃ S183 : World → Prop, S183 (World.drew w182) ∧
  V.ptr g_1 fun a185 =>
  V.when (decide ((0 : Int) ≤ x12 ∧ (x12 : Int) < 4)) (∃ n186, ∃ A187, ∃ A187l, ∃ A187c, V.cellsC (fun a_ x_ => ∀ w184, S183 w184 → World.cell? w184 a_ = some x_) (Addr.add (Addr.add a185 4) ((Int.toNat x12) * 2)) [(Value.int .i64 n186), (Value.slice A187 A187l A187c)] ∧
  V.ptr g_1 fun a188 =>
  V.when (decide ((0 : Int) ≤ x13 ∧ (x13 : Int) < 4)) (∃ n189, ∃ A190, ∃ A190l, ∃ A190c, V.cellsC (fun a_ x_ => ∀ w184, S183 w184 → World.cell? w184 a_ = some x_) (Addr.add (Addr.add a188 4) ((Int.toNat x13) * 2)) [(Value.int .i64 n189), (Value.slice A190 A190l A190c)] ∧
  V.ptr g_1 fun a191 =>
  Calls Tryd.prog 78 #[(Value.agg #[(Value.int .i64 n186), (Value.slice A187 A187l A187c)]), (Value.agg #[(Value.int .i64 n189), (Value.slice A190 A190l A190c)])] (World.drew w182) fun e194 w195 =>
  ∃ n192, ∃ A193, ∃ A193l, ∃ A193c, e194 = Ending.returned (Value.agg #[(Value.int .i64 n192), (Value.slice A193 A193l A193c)]) ∧
  S183 w195 ∧
  V.when (decide ((0 : Int) ≤ x12 ∧ (x12 : Int) < 4)) (∃ w196, Sem.run Tryd.prog (Instr.storeAt 50 (Value.pointer (some (Addr.add (Addr.add a191 4) ((Int.toNat x12) * 2)))) (Value.agg #[(Value.int .i64 n192), (Value.slice A193 A193l A193c)])) w195 = .ok () w196 ∧
  R (Ending.returned (Value.bool true)) w196))))))))))) :
  Calls Tryd.prog 55 #[(Value.pointer g_1), (Value.agg #[(Value.int .i64 o_2), (Value.int .i64 o_3), (Value.int .i64 o_4), (Value.int .i64 o_5), (Value.int .i64 o_6), (Value.slice o_7 o_7l o_7c), (Value.slice o_8 o_8l o_8c)])] w R :=
  V.D.calls_of_R ⟨V.assoc [], V.D.assocP [(1, V.D.line [0, 1, 2, 3, 4, 5, 6, 7]), (6, V.D.line [0, 1, 2, 3, 4, 5, 6, 7, 8, 9]), (7, (V.D.Plan.one 0 (V.D.Plan.one 1 (V.D.Plan.one 2 (V.D.Plan.one 3 (V.D.Plan.one 4 (V.D.Plan.one 5 (V.D.Plan.one 6 (V.D.Plan.one 7 (V.D.Plan.alt 8 (V.D.Plan.one 9 (V.D.Plan.one 10 (V.D.Plan.one 11 (V.D.Plan.one 12 (V.D.Plan.one 13 (V.D.Plan.one 14 V.D.Plan.done)))))) (V.D.Plan.alt 12 (V.D.Plan.one 8 (V.D.Plan.one 9 (V.D.Plan.one 10 (V.D.Plan.one 11 (V.D.Plan.one 13 (V.D.Plan.one 14 V.D.Plan.done)))))) V.D.Plan.stop))))))))))), (8, V.D.line [0, 1, 2, 3, 4, 5, 6]), (11, V.D.line [0, 1, 2, 3, 4, 5, 6, 7, 8, 9]), (12, (V.D.Plan.one 0 (V.D.Plan.one 1 (V.D.Plan.one 2 (V.D.Plan.one 3 (V.D.Plan.one 4 (V.D.Plan.one 5 (V.D.Plan.one 6 (V.D.Plan.one 7 (V.D.Plan.alt 8 (V.D.Plan.one 9 (V.D.Plan.one 10 (V.D.Plan.one 11 (V.D.Plan.one 12 (V.D.Plan.one 13 (V.D.Plan.one 14 V.D.Plan.done)))))) (V.D.Plan.alt 12 (V.D.Plan.one 8 (V.D.Plan.one 9 (V.D.Plan.one 10 (V.D.Plan.one 11 (V.D.Plan.one 13 (V.D.Plan.one 14 V.D.Plan.done)))))) V.D.Plan.stop))))))))))), (13, V.D.line [0, 1, 2, 3, 4, 5, 6]), (16, V.D.line [0, 1, 2, 3, 4, 5, 6, 7, 8, 9]), (19, (V.D.Plan.one 0 (V.D.Plan.one 1 (V.D.Plan.one 2 (V.D.Plan.one 3 (V.D.Plan.one 4 (V.D.Plan.one 5 (V.D.Plan.one 6 (V.D.Plan.one 7 (V.D.Plan.alt 8 (V.D.Plan.one 9 (V.D.Plan.one 10 (V.D.Plan.one 11 (V.D.Plan.one 12 (V.D.Plan.one 13 (V.D.Plan.one 14 V.D.Plan.done)))))) (V.D.Plan.alt 12 (V.D.Plan.one 8 (V.D.Plan.one 9 (V.D.Plan.one 10 (V.D.Plan.one 11 (V.D.Plan.one 13 (V.D.Plan.one 14 V.D.Plan.done)))))) V.D.Plan.stop))))))))))), (20, V.D.line [0, 1, 2, 3, 4, 5, 6]), (23, V.D.line [0, 1, 2, 3, 4, 5, 6, 7, 8, 9, 10, 11, 12]), (24, V.D.line [0, 1, 2, 3, 4, 5, 6, 7, 8, 9, 10, 11, 12, 13, 15, 16, 14, 17, 18]), (26, V.D.line [0, 1, 2, 3, 4, 5, 6, 7, 8, 9, 10, 11, 12]), (27, V.D.line [0, 1, 2, 3, 4, 5, 6, 7, 8, 9, 10, 11, 12, 13, 15, 16, 14, 17, 18]), (3, V.D.line [0, 1, 2, 3, 4, 5, 6, 7, 8, 9, 10, 11, 12]), (4, V.D.line [0, 1, 2, 3, 4, 5, 6, 7, 8, 9, 10, 11, 12, 13, 15, 16, 14, 17, 18])], V.D.assocC [(7, ([8, 9], [V.Sh.one .ptr, V.Sh.one .bool])), (12, ([11, 12], [V.Sh.one .ptr, V.Sh.one .bool])), (19, ([14, 15], [V.Sh.one .ptr, V.Sh.one (.int .i64)]))], V.D.assocS [], ⟨[], true⟩⟩ Tryd.func55 rfl (Eq.mp (by kernel_rfl) h)

end Go.Proofs.YtbaglnffgbnekaaDoor
