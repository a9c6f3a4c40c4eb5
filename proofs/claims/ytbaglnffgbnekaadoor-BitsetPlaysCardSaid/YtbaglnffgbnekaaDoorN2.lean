/- Normal forms of the program's functions, printed by a program of mine; the kernel checks each. -/
import Derived.Test.YtbaglnffgbnekaaDoorProg
import Derived.Test.YtbaglnffgbnekaaDoorV2
set_option linter.unusedVariables false
set_option maxRecDepth 100000
namespace Go.Proofs.YtbaglnffgbnekaaDoor
open Go

theorem berthlaw01_Regs_making_nf (g_1 : Option Addr) (o_2 : Int) (o_3 : Int) (o_4 : Int) (o_5 : Int) (o_6 : Int) (o_7 : Option Addr) (o_7l : Nat) (o_7c : Nat) (o_8 : Option Addr) (o_8l : Nat) (o_8c : Nat) (w : World) (R : Ending → World → Prop) (h :
  ∀ w9, w9 = (World.alloc w (.cells #[(Value.int .i64 o_2), (Value.int .i64 o_3), (Value.int .i64 o_4), (Value.int .i64 o_5), (Value.int .i64 o_6), (Value.slice o_7 o_7l o_7c), (Value.slice o_8 o_8l o_8c)] 56)) →
  ∃ n10, World.cell? w9 (Addr.add ⟨Array.size (World.heap w), 0, none⟩ 1) = some (Value.int .i64 n10) ∧
  V.lt (IntKind.wrap .i64 ((BitVec.toNat (BitVec.ofInt 64 n10 &&& BitVec.ofInt 64 3) : Nat) : Int)) fun x11 =>
  ∃ n12, World.cell? w9 (Addr.add ⟨Array.size (World.heap w), 0, none⟩ 0) = some (Value.int .i64 n12) ∧
  V.sel (n12 == 1)
  (∃ n13, World.cell? w9 (Addr.add ⟨Array.size (World.heap w), 0, none⟩ 4) = some (Value.int .i64 n13) ∧
  Calls Tryd.prog 57 #[(Value.int .i64 n13)] w9 fun e16 w17 =>
  ∃ p14, ∃ n15, e16 = Ending.returned (Value.tuple #[(Value.pointer p14), (Value.int .i64 n15)]) ∧
  ∃ n18, World.cell? w17 (Addr.add ⟨Array.size (World.heap w), 0, none⟩ 4) = some (Value.int .i64 n18) ∧
  Calls Tryd.prog 60 #[(Value.int .i64 n18)] w17 fun e22 w23 =>
  ∃ n19, ∃ A20, ∃ A20l, ∃ A20c, ∃ n21, e22 = Ending.returned (Value.tuple #[(Value.agg #[(Value.int .i64 n19), (Value.slice A20 A20l A20c)]), (Value.int .i64 n21)]) ∧
  ∀ w24, w24 = (World.alloc w23 (.cells #[(Value.int .i64 0), (Value.slice none 0 0)] 50)) →
  ∃ w25, Sem.run Tryd.prog (Instr.storeAt 50 (Value.pointer (some ⟨Array.size (World.heap w23), 0, none⟩)) (Value.agg #[(Value.int .i64 n19), (Value.slice A20 A20l A20c)])) w24 = .ok () w25 ∧
  ∃ n26, ∃ A27, ∃ A27l, ∃ A27c, V.cellsC (fun a_ x_ => World.cell? w25 a_ = some x_) ⟨Array.size (World.heap w23), 0, none⟩ [(Value.int .i64 n26), (Value.slice A27 A27l A27c)] ∧
  Calls Tryd.prog 61 #[(Value.pointer g_1), (Value.int .i64 x11), (Value.pointer p14), (Value.int .i64 n15), (Value.agg #[(Value.int .i64 n26), (Value.slice A27 A27l A27c)]), (Value.int .i64 n21)] w25 fun e29 w30 =>
  ∃ b28, e29 = Ending.returned (Value.bool b28) ∧
  R (Ending.returned (Value.bool b28)) w30)
  (V.sel (n12 == 2)
  (∃ S31 : World → Prop, S31 (World.drew w9) ∧
  ∃ n33, (∀ w32, S31 w32 → World.cell? w32 (Addr.add ⟨Array.size (World.heap w), 0, none⟩ 4) = some (Value.int .i64 n33)) ∧
  ∃ A34, ∃ A34l, ∃ A34c, (∀ w32, S31 w32 → World.cell? w32 (Addr.add ⟨Array.size (World.heap w), 0, none⟩ 5) = some (Value.slice A34 A34l A34c)) ∧
  Calls Tryd.prog 62 #[(Value.slice A34 A34l A34c)] (World.drew w9) fun e36 w37 =>
  ∃ A35, ∃ A35l, ∃ A35c, e36 = Ending.returned (Value.slice A35 A35l A35c) ∧
  S31 w37 ∧
  Calls Tryd.prog 38 #[(Value.int .i64 n33), (Value.slice A35 A35l A35c)] w37 fun e40 w41 =>
  ∃ p38, ∃ n39, e40 = Ending.returned (Value.tuple #[(Value.pointer p38), (Value.int .i64 n39)]) ∧
  S31 w41 ∧
  ∃ n42, World.cell? w41 (Addr.add ⟨Array.size (World.heap w), 0, none⟩ 4) = some (Value.int .i64 n42) ∧
  ∃ A43, ∃ A43l, ∃ A43c, World.cell? w41 (Addr.add ⟨Array.size (World.heap w), 0, none⟩ 5) = some (Value.slice A43 A43l A43c) ∧
  Calls Tryd.prog 63 #[(Value.int .i64 n42), (Value.slice A43 A43l A43c)] w41 fun e47 w48 =>
  ∃ n44, ∃ A45, ∃ A45l, ∃ A45c, ∃ n46, e47 = Ending.returned (Value.tuple #[(Value.agg #[(Value.int .i64 n44), (Value.slice A45 A45l A45c)]), (Value.int .i64 n46)]) ∧
  ∀ w49, w49 = (World.alloc w48 (.cells #[(Value.int .i64 0), (Value.slice none 0 0)] 50)) →
  ∃ w50, Sem.run Tryd.prog (Instr.storeAt 50 (Value.pointer (some ⟨Array.size (World.heap w48), 0, none⟩)) (Value.agg #[(Value.int .i64 n44), (Value.slice A45 A45l A45c)])) w49 = .ok () w50 ∧
  ∃ n51, ∃ A52, ∃ A52l, ∃ A52c, V.cellsC (fun a_ x_ => World.cell? w50 a_ = some x_) ⟨Array.size (World.heap w48), 0, none⟩ [(Value.int .i64 n51), (Value.slice A52 A52l A52c)] ∧
  Calls Tryd.prog 61 #[(Value.pointer g_1), (Value.int .i64 x11), (Value.pointer p38), (Value.int .i64 n39), (Value.agg #[(Value.int .i64 n51), (Value.slice A52 A52l A52c)]), (Value.int .i64 n46)] w50 fun e54 w55 =>
  ∃ b53, e54 = Ending.returned (Value.bool b53) ∧
  R (Ending.returned (Value.bool b53)) w55)
  (∃ S56 : World → Prop, S56 (World.drew w9) ∧
  ∃ n58, (∀ w57, S56 w57 → World.cell? w57 (Addr.add ⟨Array.size (World.heap w), 0, none⟩ 4) = some (Value.int .i64 n58)) ∧
  ∃ A59, ∃ A59l, ∃ A59c, (∀ w57, S56 w57 → World.cell? w57 (Addr.add ⟨Array.size (World.heap w), 0, none⟩ 6) = some (Value.slice A59 A59l A59c)) ∧
  Calls Tryd.prog 65 #[(Value.slice A59 A59l A59c)] (World.drew w9) fun e61 w62 =>
  ∃ A60, ∃ A60l, ∃ A60c, e61 = Ending.returned (Value.slice A60 A60l A60c) ∧
  S56 w62 ∧
  Calls Tryd.prog 64 #[(Value.int .i64 n58), (Value.slice A60 A60l A60c)] w62 fun e65 w66 =>
  ∃ p63, ∃ n64, e65 = Ending.returned (Value.tuple #[(Value.pointer p63), (Value.int .i64 n64)]) ∧
  S56 w66 ∧
  ∃ n67, World.cell? w66 (Addr.add ⟨Array.size (World.heap w), 0, none⟩ 4) = some (Value.int .i64 n67) ∧
  ∃ A68, ∃ A68l, ∃ A68c, World.cell? w66 (Addr.add ⟨Array.size (World.heap w), 0, none⟩ 6) = some (Value.slice A68 A68l A68c) ∧
  Calls Tryd.prog 66 #[(Value.int .i64 n67), (Value.slice A68 A68l A68c)] w66 fun e72 w73 =>
  ∃ n69, ∃ A70, ∃ A70l, ∃ A70c, ∃ n71, e72 = Ending.returned (Value.tuple #[(Value.agg #[(Value.int .i64 n69), (Value.slice A70 A70l A70c)]), (Value.int .i64 n71)]) ∧
  ∀ w74, w74 = (World.alloc w73 (.cells #[(Value.int .i64 0), (Value.slice none 0 0)] 50)) →
  ∃ w75, Sem.run Tryd.prog (Instr.storeAt 50 (Value.pointer (some ⟨Array.size (World.heap w73), 0, none⟩)) (Value.agg #[(Value.int .i64 n69), (Value.slice A70 A70l A70c)])) w74 = .ok () w75 ∧
  ∃ n76, ∃ A77, ∃ A77l, ∃ A77c, V.cellsC (fun a_ x_ => World.cell? w75 a_ = some x_) ⟨Array.size (World.heap w73), 0, none⟩ [(Value.int .i64 n76), (Value.slice A77 A77l A77c)] ∧
  Calls Tryd.prog 61 #[(Value.pointer g_1), (Value.int .i64 x11), (Value.pointer p63), (Value.int .i64 n64), (Value.agg #[(Value.int .i64 n76), (Value.slice A77 A77l A77c)]), (Value.int .i64 n71)] w75 fun e79 w80 =>
  ∃ b78, e79 = Ending.returned (Value.bool b78) ∧
  R (Ending.returned (Value.bool b78)) w80))) :
  Calls Tryd.prog 53 #[(Value.pointer g_1), (Value.agg #[(Value.int .i64 o_2), (Value.int .i64 o_3), (Value.int .i64 o_4), (Value.int .i64 o_5), (Value.int .i64 o_6), (Value.slice o_7 o_7l o_7c), (Value.slice o_8 o_8l o_8c)])] w R :=
  V.calls_of_R ⟨V.assoc [], V.assocP [(8, V.line [0, 1, 2, 3, 4, 5, 6, 7, 8, 9, 10]), (11, V.line [0, 1, 2, 3, 4, 5, 6, 7, 8, 9, 10])], V.assocC [], V.assocS [], ⟨[], true⟩⟩ Tryd.func53 rfl (Eq.mp (by kernel_rfl) h)

theorem berthlaw01_Regs_joining_nf (g_1 : Option Addr) (o_2 : Int) (o_3 : Int) (o_4 : Int) (o_5 : Int) (o_6 : Int) (o_7 : Option Addr) (o_7l : Nat) (o_7c : Nat) (o_8 : Option Addr) (o_8l : Nat) (o_8c : Nat) (w : World) (R : Ending → World → Prop) (h :
  ∀ w9, w9 = (World.alloc w (.cells #[(Value.int .i64 o_2), (Value.int .i64 o_3), (Value.int .i64 o_4), (Value.int .i64 o_5), (Value.int .i64 o_6), (Value.slice o_7 o_7l o_7c), (Value.slice o_8 o_8l o_8c)] 56)) →
  ∃ n10, World.cell? w9 (Addr.add ⟨Array.size (World.heap w), 0, none⟩ 1) = some (Value.int .i64 n10) ∧
  ∃ n11, World.cell? w9 (Addr.add ⟨Array.size (World.heap w), 0, none⟩ 2) = some (Value.int .i64 n11) ∧
  ∃ n12, World.cell? w9 (Addr.add ⟨Array.size (World.heap w), 0, none⟩ 3) = some (Value.int .i64 n12) ∧
  V.lt (IntKind.wrap .i64 ((BitVec.toNat (BitVec.ofInt 64 n10 &&& BitVec.ofInt 64 3) : Nat) : Int)) fun x13 =>
  V.lt (IntKind.wrap .i64 ((BitVec.toNat (BitVec.ofInt 64 n11 &&& BitVec.ofInt 64 3) : Nat) : Int)) fun x14 =>
  V.lt (IntKind.wrap .i64 ((BitVec.toNat (BitVec.ofInt 64 n12 &&& BitVec.ofInt 64 3) : Nat) : Int)) fun x15 =>
  ∀ w16, w16 = (World.alloc (World.drew w9) (.cells #[(Value.int .i64 0), (Value.slice none 0 0)] 50)) →
  ∃ n17, World.cell? w16 (Addr.add ⟨Array.size (World.heap w), 0, none⟩ 0) = some (Value.int .i64 n17) ∧
  V.sel (n17 == 4)
  (∃ S18 : World → Prop, S18 (World.drew w16) ∧
  V.ptr g_1 fun a20 =>
  V.when (decide ((0 : Int) ≤ x14 ∧ (x14 : Int) < 4)) (∃ p21, (∀ w19, S18 w19 → World.cell? w19 (Addr.add (Addr.add a20 0) ((Int.toNat x14) * 1)) = some (Value.pointer p21)) ∧
  V.ptr g_1 fun a22 =>
  V.when (decide ((0 : Int) ≤ x15 ∧ (x15 : Int) < 4)) (∃ p23, (∀ w19, S18 w19 → World.cell? w19 (Addr.add (Addr.add a22 0) ((Int.toNat x15) * 1)) = some (Value.pointer p23)) ∧
  V.ptr g_1 fun a24 =>
  V.when (decide ((0 : Int) ≤ x14 ∧ (x14 : Int) < 4)) (∃ n25, ∃ A26, ∃ A26l, ∃ A26c, V.cellsC (fun a_ x_ => ∀ w19, S18 w19 → World.cell? w19 a_ = some x_) (Addr.add (Addr.add a24 4) ((Int.toNat x14) * 2)) [(Value.int .i64 n25), (Value.slice A26 A26l A26c)] ∧
  V.ptr g_1 fun a27 =>
  V.when (decide ((0 : Int) ≤ x15 ∧ (x15 : Int) < 4)) (∃ n28, ∃ A29, ∃ A29l, ∃ A29c, V.cellsC (fun a_ x_ => ∀ w19, S18 w19 → World.cell? w19 a_ = some x_) (Addr.add (Addr.add a27 4) ((Int.toNat x15) * 2)) [(Value.int .i64 n28), (Value.slice A29 A29l A29c)] ∧
  Calls Tryd.prog 28 #[(Value.pointer p21), (Value.pointer p23)] (World.drew w16) fun e31 w32 =>
  ∃ p30, e31 = Ending.returned (Value.pointer p30) ∧
  S18 w32 ∧
  Calls Tryd.prog 67 #[(Value.agg #[(Value.int .i64 n25), (Value.slice A26 A26l A26c)]), (Value.agg #[(Value.int .i64 n28), (Value.slice A29 A29l A29c)])] w32 fun e35 w36 =>
  ∃ n33, ∃ A34, ∃ A34l, ∃ A34c, e35 = Ending.returned (Value.agg #[(Value.int .i64 n33), (Value.slice A34 A34l A34c)]) ∧
  S18 w36 ∧
  ∃ w37, Sem.run Tryd.prog (Instr.storeAt 50 (Value.pointer (some ⟨Array.size (World.heap (World.drew w9)), 0, none⟩)) (Value.agg #[(Value.int .i64 n33), (Value.slice A34 A34l A34c)])) w36 = .ok () w37 ∧
  V.sel (Option.isNone p30)
  (R (Ending.returned (Value.bool false)) w37)
  (∃ S38 : World → Prop, S38 (World.drew w37) ∧
  ∃ n40, ∃ A41, ∃ A41l, ∃ A41c, V.cellsC (fun a_ x_ => ∀ w39, S38 w39 → World.cell? w39 a_ = some x_) ⟨Array.size (World.heap (World.drew w9)), 0, none⟩ [(Value.int .i64 n40), (Value.slice A41 A41l A41c)] ∧
  V.ptr g_1 fun a42 =>
  V.when (decide ((0 : Int) ≤ x13 ∧ (x13 : Int) < 4)) (V.ptr g_1 fun a43 =>
  V.ptr g_1 fun a44 =>
  ∃ w45, Sem.run Tryd.prog (Instr.storeAt 27 (Value.pointer (some (Addr.add (Addr.add a42 0) ((Int.toNat x13) * 1)))) (Value.pointer p30)) (World.drew w37) = .ok () w45 ∧
  S38 w45 ∧
  V.when (decide ((0 : Int) ≤ x13 ∧ (x13 : Int) < 4)) (∃ w46, Sem.run Tryd.prog (Instr.storeAt 50 (Value.pointer (some (Addr.add (Addr.add a43 4) ((Int.toNat x13) * 2)))) (Value.agg #[(Value.int .i64 n40), (Value.slice A41 A41l A41c)])) w45 = .ok () w46 ∧
  S38 w46 ∧
  V.when (decide ((0 : Int) ≤ x13 ∧ (x13 : Int) < 4)) (∃ w47, Sem.run Tryd.prog (Instr.storeAt 4 (Value.pointer (some (Addr.add (Addr.add a44 12) ((Int.toNat x13) * 1)))) (Value.bool false)) w46 = .ok () w47 ∧
  S38 w47 ∧
  R (Ending.returned (Value.bool true)) w47)))))))))
  (V.sel (n17 == 5)
  (∃ S48 : World → Prop, S48 (World.drew w16) ∧
  V.ptr g_1 fun a50 =>
  V.when (decide ((0 : Int) ≤ x14 ∧ (x14 : Int) < 4)) (∃ p51, (∀ w49, S48 w49 → World.cell? w49 (Addr.add (Addr.add a50 0) ((Int.toNat x14) * 1)) = some (Value.pointer p51)) ∧
  V.ptr g_1 fun a52 =>
  V.when (decide ((0 : Int) ≤ x15 ∧ (x15 : Int) < 4)) (∃ p53, (∀ w49, S48 w49 → World.cell? w49 (Addr.add (Addr.add a52 0) ((Int.toNat x15) * 1)) = some (Value.pointer p53)) ∧
  V.ptr g_1 fun a54 =>
  V.when (decide ((0 : Int) ≤ x14 ∧ (x14 : Int) < 4)) (∃ n55, ∃ A56, ∃ A56l, ∃ A56c, V.cellsC (fun a_ x_ => ∀ w49, S48 w49 → World.cell? w49 a_ = some x_) (Addr.add (Addr.add a54 4) ((Int.toNat x14) * 2)) [(Value.int .i64 n55), (Value.slice A56 A56l A56c)] ∧
  V.ptr g_1 fun a57 =>
  V.when (decide ((0 : Int) ≤ x15 ∧ (x15 : Int) < 4)) (∃ n58, ∃ A59, ∃ A59l, ∃ A59c, V.cellsC (fun a_ x_ => ∀ w49, S48 w49 → World.cell? w49 a_ = some x_) (Addr.add (Addr.add a57 4) ((Int.toNat x15) * 2)) [(Value.int .i64 n58), (Value.slice A59 A59l A59c)] ∧
  Calls Tryd.prog 29 #[(Value.pointer p51), (Value.pointer p53)] (World.drew w16) fun e61 w62 =>
  ∃ p60, e61 = Ending.returned (Value.pointer p60) ∧
  S48 w62 ∧
  Calls Tryd.prog 68 #[(Value.agg #[(Value.int .i64 n55), (Value.slice A56 A56l A56c)]), (Value.agg #[(Value.int .i64 n58), (Value.slice A59 A59l A59c)])] w62 fun e65 w66 =>
  ∃ n63, ∃ A64, ∃ A64l, ∃ A64c, e65 = Ending.returned (Value.agg #[(Value.int .i64 n63), (Value.slice A64 A64l A64c)]) ∧
  S48 w66 ∧
  ∃ w67, Sem.run Tryd.prog (Instr.storeAt 50 (Value.pointer (some ⟨Array.size (World.heap (World.drew w9)), 0, none⟩)) (Value.agg #[(Value.int .i64 n63), (Value.slice A64 A64l A64c)])) w66 = .ok () w67 ∧
  V.sel (Option.isNone p60)
  (R (Ending.returned (Value.bool false)) w67)
  (∃ S68 : World → Prop, S68 (World.drew w67) ∧
  ∃ n70, ∃ A71, ∃ A71l, ∃ A71c, V.cellsC (fun a_ x_ => ∀ w69, S68 w69 → World.cell? w69 a_ = some x_) ⟨Array.size (World.heap (World.drew w9)), 0, none⟩ [(Value.int .i64 n70), (Value.slice A71 A71l A71c)] ∧
  V.ptr g_1 fun a72 =>
  V.when (decide ((0 : Int) ≤ x13 ∧ (x13 : Int) < 4)) (V.ptr g_1 fun a73 =>
  V.ptr g_1 fun a74 =>
  ∃ w75, Sem.run Tryd.prog (Instr.storeAt 27 (Value.pointer (some (Addr.add (Addr.add a72 0) ((Int.toNat x13) * 1)))) (Value.pointer p60)) (World.drew w67) = .ok () w75 ∧
  S68 w75 ∧
  V.when (decide ((0 : Int) ≤ x13 ∧ (x13 : Int) < 4)) (∃ w76, Sem.run Tryd.prog (Instr.storeAt 50 (Value.pointer (some (Addr.add (Addr.add a73 4) ((Int.toNat x13) * 2)))) (Value.agg #[(Value.int .i64 n70), (Value.slice A71 A71l A71c)])) w75 = .ok () w76 ∧
  S68 w76 ∧
  V.when (decide ((0 : Int) ≤ x13 ∧ (x13 : Int) < 4)) (∃ w77, Sem.run Tryd.prog (Instr.storeAt 4 (Value.pointer (some (Addr.add (Addr.add a74 12) ((Int.toNat x13) * 1)))) (Value.bool false)) w76 = .ok () w77 ∧
  S68 w77 ∧
  R (Ending.returned (Value.bool true)) w77)))))))))
  (V.sel (n17 == 6)
  (∃ S78 : World → Prop, S78 (World.drew w16) ∧
  V.ptr g_1 fun a80 =>
  V.when (decide ((0 : Int) ≤ x14 ∧ (x14 : Int) < 4)) (∃ p81, (∀ w79, S78 w79 → World.cell? w79 (Addr.add (Addr.add a80 0) ((Int.toNat x14) * 1)) = some (Value.pointer p81)) ∧
  V.ptr g_1 fun a82 =>
  V.when (decide ((0 : Int) ≤ x15 ∧ (x15 : Int) < 4)) (∃ p83, (∀ w79, S78 w79 → World.cell? w79 (Addr.add (Addr.add a82 0) ((Int.toNat x15) * 1)) = some (Value.pointer p83)) ∧
  V.ptr g_1 fun a84 =>
  V.when (decide ((0 : Int) ≤ x14 ∧ (x14 : Int) < 4)) (∃ n85, ∃ A86, ∃ A86l, ∃ A86c, V.cellsC (fun a_ x_ => ∀ w79, S78 w79 → World.cell? w79 a_ = some x_) (Addr.add (Addr.add a84 4) ((Int.toNat x14) * 2)) [(Value.int .i64 n85), (Value.slice A86 A86l A86c)] ∧
  V.ptr g_1 fun a87 =>
  V.when (decide ((0 : Int) ≤ x15 ∧ (x15 : Int) < 4)) (∃ n88, ∃ A89, ∃ A89l, ∃ A89c, V.cellsC (fun a_ x_ => ∀ w79, S78 w79 → World.cell? w79 a_ = some x_) (Addr.add (Addr.add a87 4) ((Int.toNat x15) * 2)) [(Value.int .i64 n88), (Value.slice A89 A89l A89c)] ∧
  Calls Tryd.prog 30 #[(Value.pointer p81), (Value.pointer p83)] (World.drew w16) fun e91 w92 =>
  ∃ p90, e91 = Ending.returned (Value.pointer p90) ∧
  S78 w92 ∧
  Calls Tryd.prog 69 #[(Value.agg #[(Value.int .i64 n85), (Value.slice A86 A86l A86c)]), (Value.agg #[(Value.int .i64 n88), (Value.slice A89 A89l A89c)])] w92 fun e95 w96 =>
  ∃ n93, ∃ A94, ∃ A94l, ∃ A94c, e95 = Ending.returned (Value.agg #[(Value.int .i64 n93), (Value.slice A94 A94l A94c)]) ∧
  S78 w96 ∧
  ∃ w97, Sem.run Tryd.prog (Instr.storeAt 50 (Value.pointer (some ⟨Array.size (World.heap (World.drew w9)), 0, none⟩)) (Value.agg #[(Value.int .i64 n93), (Value.slice A94 A94l A94c)])) w96 = .ok () w97 ∧
  V.sel (Option.isNone p90)
  (R (Ending.returned (Value.bool false)) w97)
  (∃ S98 : World → Prop, S98 (World.drew w97) ∧
  ∃ n100, ∃ A101, ∃ A101l, ∃ A101c, V.cellsC (fun a_ x_ => ∀ w99, S98 w99 → World.cell? w99 a_ = some x_) ⟨Array.size (World.heap (World.drew w9)), 0, none⟩ [(Value.int .i64 n100), (Value.slice A101 A101l A101c)] ∧
  V.ptr g_1 fun a102 =>
  V.when (decide ((0 : Int) ≤ x13 ∧ (x13 : Int) < 4)) (V.ptr g_1 fun a103 =>
  V.ptr g_1 fun a104 =>
  ∃ w105, Sem.run Tryd.prog (Instr.storeAt 27 (Value.pointer (some (Addr.add (Addr.add a102 0) ((Int.toNat x13) * 1)))) (Value.pointer p90)) (World.drew w97) = .ok () w105 ∧
  S98 w105 ∧
  V.when (decide ((0 : Int) ≤ x13 ∧ (x13 : Int) < 4)) (∃ w106, Sem.run Tryd.prog (Instr.storeAt 50 (Value.pointer (some (Addr.add (Addr.add a103 4) ((Int.toNat x13) * 2)))) (Value.agg #[(Value.int .i64 n100), (Value.slice A101 A101l A101c)])) w105 = .ok () w106 ∧
  S98 w106 ∧
  V.when (decide ((0 : Int) ≤ x13 ∧ (x13 : Int) < 4)) (∃ w107, Sem.run Tryd.prog (Instr.storeAt 4 (Value.pointer (some (Addr.add (Addr.add a104 12) ((Int.toNat x13) * 1)))) (Value.bool false)) w106 = .ok () w107 ∧
  S98 w107 ∧
  R (Ending.returned (Value.bool true)) w107)))))))))
  (V.sel (n17 == 7)
  (∃ S108 : World → Prop, S108 (World.drew w16) ∧
  V.ptr g_1 fun a110 =>
  V.when (decide ((0 : Int) ≤ x14 ∧ (x14 : Int) < 4)) (∃ p111, (∀ w109, S108 w109 → World.cell? w109 (Addr.add (Addr.add a110 0) ((Int.toNat x14) * 1)) = some (Value.pointer p111)) ∧
  V.ptr g_1 fun a112 =>
  V.when (decide ((0 : Int) ≤ x15 ∧ (x15 : Int) < 4)) (∃ p113, (∀ w109, S108 w109 → World.cell? w109 (Addr.add (Addr.add a112 0) ((Int.toNat x15) * 1)) = some (Value.pointer p113)) ∧
  V.ptr g_1 fun a114 =>
  V.when (decide ((0 : Int) ≤ x14 ∧ (x14 : Int) < 4)) (∃ n115, ∃ A116, ∃ A116l, ∃ A116c, V.cellsC (fun a_ x_ => ∀ w109, S108 w109 → World.cell? w109 a_ = some x_) (Addr.add (Addr.add a114 4) ((Int.toNat x14) * 2)) [(Value.int .i64 n115), (Value.slice A116 A116l A116c)] ∧
  V.ptr g_1 fun a117 =>
  V.when (decide ((0 : Int) ≤ x15 ∧ (x15 : Int) < 4)) (∃ n118, ∃ A119, ∃ A119l, ∃ A119c, V.cellsC (fun a_ x_ => ∀ w109, S108 w109 → World.cell? w109 a_ = some x_) (Addr.add (Addr.add a117 4) ((Int.toNat x15) * 2)) [(Value.int .i64 n118), (Value.slice A119 A119l A119c)] ∧
  Calls Tryd.prog 31 #[(Value.pointer p111), (Value.pointer p113)] (World.drew w16) fun e121 w122 =>
  ∃ p120, e121 = Ending.returned (Value.pointer p120) ∧
  S108 w122 ∧
  Calls Tryd.prog 70 #[(Value.agg #[(Value.int .i64 n115), (Value.slice A116 A116l A116c)]), (Value.agg #[(Value.int .i64 n118), (Value.slice A119 A119l A119c)])] w122 fun e125 w126 =>
  ∃ n123, ∃ A124, ∃ A124l, ∃ A124c, e125 = Ending.returned (Value.agg #[(Value.int .i64 n123), (Value.slice A124 A124l A124c)]) ∧
  S108 w126 ∧
  ∃ w127, Sem.run Tryd.prog (Instr.storeAt 50 (Value.pointer (some ⟨Array.size (World.heap (World.drew w9)), 0, none⟩)) (Value.agg #[(Value.int .i64 n123), (Value.slice A124 A124l A124c)])) w126 = .ok () w127 ∧
  V.sel (Option.isNone p120)
  (R (Ending.returned (Value.bool false)) w127)
  (∃ S128 : World → Prop, S128 (World.drew w127) ∧
  ∃ n130, ∃ A131, ∃ A131l, ∃ A131c, V.cellsC (fun a_ x_ => ∀ w129, S128 w129 → World.cell? w129 a_ = some x_) ⟨Array.size (World.heap (World.drew w9)), 0, none⟩ [(Value.int .i64 n130), (Value.slice A131 A131l A131c)] ∧
  V.ptr g_1 fun a132 =>
  V.when (decide ((0 : Int) ≤ x13 ∧ (x13 : Int) < 4)) (V.ptr g_1 fun a133 =>
  V.ptr g_1 fun a134 =>
  ∃ w135, Sem.run Tryd.prog (Instr.storeAt 27 (Value.pointer (some (Addr.add (Addr.add a132 0) ((Int.toNat x13) * 1)))) (Value.pointer p120)) (World.drew w127) = .ok () w135 ∧
  S128 w135 ∧
  V.when (decide ((0 : Int) ≤ x13 ∧ (x13 : Int) < 4)) (∃ w136, Sem.run Tryd.prog (Instr.storeAt 50 (Value.pointer (some (Addr.add (Addr.add a133 4) ((Int.toNat x13) * 2)))) (Value.agg #[(Value.int .i64 n130), (Value.slice A131 A131l A131c)])) w135 = .ok () w136 ∧
  S128 w136 ∧
  V.when (decide ((0 : Int) ≤ x13 ∧ (x13 : Int) < 4)) (∃ w137, Sem.run Tryd.prog (Instr.storeAt 4 (Value.pointer (some (Addr.add (Addr.add a134 12) ((Int.toNat x13) * 1)))) (Value.bool false)) w136 = .ok () w137 ∧
  S128 w137 ∧
  R (Ending.returned (Value.bool true)) w137)))))))))
  (V.sel (n17 == 8)
  (∃ S138 : World → Prop, S138 (World.drew w16) ∧
  V.ptr g_1 fun a140 =>
  V.when (decide ((0 : Int) ≤ x14 ∧ (x14 : Int) < 4)) (∃ p141, (∀ w139, S138 w139 → World.cell? w139 (Addr.add (Addr.add a140 0) ((Int.toNat x14) * 1)) = some (Value.pointer p141)) ∧
  V.ptr g_1 fun a142 =>
  V.when (decide ((0 : Int) ≤ x15 ∧ (x15 : Int) < 4)) (∃ p143, (∀ w139, S138 w139 → World.cell? w139 (Addr.add (Addr.add a142 0) ((Int.toNat x15) * 1)) = some (Value.pointer p143)) ∧
  V.ptr g_1 fun a144 =>
  V.when (decide ((0 : Int) ≤ x14 ∧ (x14 : Int) < 4)) (∃ n145, ∃ A146, ∃ A146l, ∃ A146c, V.cellsC (fun a_ x_ => ∀ w139, S138 w139 → World.cell? w139 a_ = some x_) (Addr.add (Addr.add a144 4) ((Int.toNat x14) * 2)) [(Value.int .i64 n145), (Value.slice A146 A146l A146c)] ∧
  V.ptr g_1 fun a147 =>
  V.when (decide ((0 : Int) ≤ x15 ∧ (x15 : Int) < 4)) (∃ n148, ∃ A149, ∃ A149l, ∃ A149c, V.cellsC (fun a_ x_ => ∀ w139, S138 w139 → World.cell? w139 a_ = some x_) (Addr.add (Addr.add a147 4) ((Int.toNat x15) * 2)) [(Value.int .i64 n148), (Value.slice A149 A149l A149c)] ∧
  Calls Tryd.prog 32 #[(Value.pointer p141), (Value.pointer p143)] (World.drew w16) fun e151 w152 =>
  ∃ p150, e151 = Ending.returned (Value.pointer p150) ∧
  S138 w152 ∧
  Calls Tryd.prog 71 #[(Value.agg #[(Value.int .i64 n145), (Value.slice A146 A146l A146c)]), (Value.agg #[(Value.int .i64 n148), (Value.slice A149 A149l A149c)])] w152 fun e155 w156 =>
  ∃ n153, ∃ A154, ∃ A154l, ∃ A154c, e155 = Ending.returned (Value.agg #[(Value.int .i64 n153), (Value.slice A154 A154l A154c)]) ∧
  S138 w156 ∧
  ∃ w157, Sem.run Tryd.prog (Instr.storeAt 50 (Value.pointer (some ⟨Array.size (World.heap (World.drew w9)), 0, none⟩)) (Value.agg #[(Value.int .i64 n153), (Value.slice A154 A154l A154c)])) w156 = .ok () w157 ∧
  V.sel (Option.isNone p150)
  (R (Ending.returned (Value.bool false)) w157)
  (∃ S158 : World → Prop, S158 (World.drew w157) ∧
  ∃ n160, ∃ A161, ∃ A161l, ∃ A161c, V.cellsC (fun a_ x_ => ∀ w159, S158 w159 → World.cell? w159 a_ = some x_) ⟨Array.size (World.heap (World.drew w9)), 0, none⟩ [(Value.int .i64 n160), (Value.slice A161 A161l A161c)] ∧
  V.ptr g_1 fun a162 =>
  V.when (decide ((0 : Int) ≤ x13 ∧ (x13 : Int) < 4)) (V.ptr g_1 fun a163 =>
  V.ptr g_1 fun a164 =>
  ∃ w165, Sem.run Tryd.prog (Instr.storeAt 27 (Value.pointer (some (Addr.add (Addr.add a162 0) ((Int.toNat x13) * 1)))) (Value.pointer p150)) (World.drew w157) = .ok () w165 ∧
  S158 w165 ∧
  V.when (decide ((0 : Int) ≤ x13 ∧ (x13 : Int) < 4)) (∃ w166, Sem.run Tryd.prog (Instr.storeAt 50 (Value.pointer (some (Addr.add (Addr.add a163 4) ((Int.toNat x13) * 2)))) (Value.agg #[(Value.int .i64 n160), (Value.slice A161 A161l A161c)])) w165 = .ok () w166 ∧
  S158 w166 ∧
  V.when (decide ((0 : Int) ≤ x13 ∧ (x13 : Int) < 4)) (∃ w167, Sem.run Tryd.prog (Instr.storeAt 4 (Value.pointer (some (Addr.add (Addr.add a164 12) ((Int.toNat x13) * 1)))) (Value.bool false)) w166 = .ok () w167 ∧
  S158 w167 ∧
  R (Ending.returned (Value.bool true)) w167)))))))))
  (∃ S168 : World → Prop, S168 (World.drew w16) ∧
  V.ptr g_1 fun a170 =>
  V.when (decide ((0 : Int) ≤ x14 ∧ (x14 : Int) < 4)) (∃ p171, (∀ w169, S168 w169 → World.cell? w169 (Addr.add (Addr.add a170 0) ((Int.toNat x14) * 1)) = some (Value.pointer p171)) ∧
  V.ptr g_1 fun a172 =>
  V.when (decide ((0 : Int) ≤ x14 ∧ (x14 : Int) < 4)) (∃ n173, ∃ A174, ∃ A174l, ∃ A174c, V.cellsC (fun a_ x_ => ∀ w169, S168 w169 → World.cell? w169 a_ = some x_) (Addr.add (Addr.add a172 4) ((Int.toNat x14) * 2)) [(Value.int .i64 n173), (Value.slice A174 A174l A174c)] ∧
  Calls Tryd.prog 27 #[(Value.pointer p171)] (World.drew w16) fun e176 w177 =>
  ∃ p175, e176 = Ending.returned (Value.pointer p175) ∧
  S168 w177 ∧
  Calls Tryd.prog 72 #[(Value.agg #[(Value.int .i64 n173), (Value.slice A174 A174l A174c)])] w177 fun e180 w181 =>
  ∃ n178, ∃ A179, ∃ A179l, ∃ A179c, e180 = Ending.returned (Value.agg #[(Value.int .i64 n178), (Value.slice A179 A179l A179c)]) ∧
  S168 w181 ∧
  ∃ w182, Sem.run Tryd.prog (Instr.storeAt 50 (Value.pointer (some ⟨Array.size (World.heap (World.drew w9)), 0, none⟩)) (Value.agg #[(Value.int .i64 n178), (Value.slice A179 A179l A179c)])) w181 = .ok () w182 ∧
  V.sel (Option.isNone p175)
  (R (Ending.returned (Value.bool false)) w182)
  (∃ S183 : World → Prop, S183 (World.drew w182) ∧
  ∃ n185, ∃ A186, ∃ A186l, ∃ A186c, V.cellsC (fun a_ x_ => ∀ w184, S183 w184 → World.cell? w184 a_ = some x_) ⟨Array.size (World.heap (World.drew w9)), 0, none⟩ [(Value.int .i64 n185), (Value.slice A186 A186l A186c)] ∧
  V.ptr g_1 fun a187 =>
  V.when (decide ((0 : Int) ≤ x13 ∧ (x13 : Int) < 4)) (V.ptr g_1 fun a188 =>
  V.ptr g_1 fun a189 =>
  ∃ w190, Sem.run Tryd.prog (Instr.storeAt 27 (Value.pointer (some (Addr.add (Addr.add a187 0) ((Int.toNat x13) * 1)))) (Value.pointer p175)) (World.drew w182) = .ok () w190 ∧
  S183 w190 ∧
  V.when (decide ((0 : Int) ≤ x13 ∧ (x13 : Int) < 4)) (∃ w191, Sem.run Tryd.prog (Instr.storeAt 50 (Value.pointer (some (Addr.add (Addr.add a188 4) ((Int.toNat x13) * 2)))) (Value.agg #[(Value.int .i64 n185), (Value.slice A186 A186l A186c)])) w190 = .ok () w191 ∧
  S183 w191 ∧
  V.when (decide ((0 : Int) ≤ x13 ∧ (x13 : Int) < 4)) (∃ w192, Sem.run Tryd.prog (Instr.storeAt 4 (Value.pointer (some (Addr.add (Addr.add a189 12) ((Int.toNat x13) * 1)))) (Value.bool false)) w191 = .ok () w192 ∧
  S183 w192 ∧
  R (Ending.returned (Value.bool true)) w192)))))))))))) :
  Calls Tryd.prog 54 #[(Value.pointer g_1), (Value.agg #[(Value.int .i64 o_2), (Value.int .i64 o_3), (Value.int .i64 o_4), (Value.int .i64 o_5), (Value.int .i64 o_6), (Value.slice o_7 o_7l o_7c), (Value.slice o_8 o_8l o_8c)])] w R :=
  V.calls_of_R ⟨V.assoc [], V.assocP [(1, V.line [0, 1, 2, 3, 4, 5, 6, 7, 8, 9, 10, 11]), (7, V.line [0, 1, 2, 3, 4, 5, 6, 7, 8, 9, 10, 11, 13, 14, 15, 16, 17, 18, 19, 20, 21, 22, 23, 24, 12, 25, 26, 27]), (9, V.line [0, 1, 2, 3, 4, 5, 6, 7, 8, 9, 10, 11, 13, 14, 15, 16, 17, 18, 19, 20, 21, 22, 23, 24, 12, 25, 26, 27]), (11, V.line [0, 1, 2, 3, 4, 5, 6, 7, 8, 9, 10, 11, 13, 14, 15, 16, 17, 18, 19, 20, 21, 22, 23, 24, 12, 25, 26, 27]), (13, V.line [0, 1, 2, 3, 4, 5, 6, 7, 8, 9, 10, 11, 13, 14, 15, 16, 17, 18, 19, 20, 21, 22, 23, 24, 12, 25, 26, 27]), (15, V.line [0, 1, 2, 3, 4, 5, 6, 7, 8, 9, 10, 11, 13, 14, 15, 16, 17, 18, 19, 20, 21, 22, 23, 24, 12, 25, 26, 27]), (5, V.line [0, 1, 2, 3, 4, 5, 7, 8, 9, 10, 11, 12, 6, 13, 14, 15]), (18, V.line [0, 1, 2, 3, 4, 5, 6, 7, 8, 9, 10, 12, 13, 16, 17, 11, 14, 15, 18, 19])], V.assocC [], V.assocS [], ⟨[], true⟩⟩ Tryd.func54 rfl (Eq.mp (by kernel_rfl) h)

theorem berthlaw01_Regs_changing_nf (g_1 : Option Addr) (o_2 : Int) (o_3 : Int) (o_4 : Int) (o_5 : Int) (o_6 : Int) (o_7 : Option Addr) (o_7l : Nat) (o_7c : Nat) (o_8 : Option Addr) (o_8l : Nat) (o_8c : Nat) (w : World) (R : Ending → World → Prop) (h :
  ∀ w9, w9 = (World.alloc w (.cells #[(Value.int .i64 o_2), (Value.int .i64 o_3), (Value.int .i64 o_4), (Value.int .i64 o_5), (Value.int .i64 o_6), (Value.slice o_7 o_7l o_7c), (Value.slice o_8 o_8l o_8c)] 56)) →
  ∃ n10, World.cell? w9 (Addr.add ⟨Array.size (World.heap w), 0, none⟩ 1) = some (Value.int .i64 n10) ∧
  ∃ n11, World.cell? w9 (Addr.add ⟨Array.size (World.heap w), 0, none⟩ 2) = some (Value.int .i64 n11) ∧
  V.lt (IntKind.wrap .i64 ((BitVec.toNat (BitVec.ofInt 64 n10 &&& BitVec.ofInt 64 3) : Nat) : Int)) fun x12 =>
  V.lt (IntKind.wrap .i64 ((BitVec.toNat (BitVec.ofInt 64 n11 &&& BitVec.ofInt 64 3) : Nat) : Int)) fun x13 =>
  ∃ n14, World.cell? (World.drew w9) (Addr.add ⟨Array.size (World.heap w), 0, none⟩ 0) = some (Value.int .i64 n14) ∧
  V.sel (n14 == 11)
  (∃ S15 : World → Prop, S15 (World.drew (World.drew w9)) ∧
  V.ptr g_1 fun a17 =>
  V.when (decide ((0 : Int) ≤ x12 ∧ (x12 : Int) < 4)) (∃ p18, (∀ w16, S15 w16 → World.cell? w16 (Addr.add (Addr.add a17 0) ((Int.toNat x12) * 1)) = some (Value.pointer p18)) ∧
  ∃ n19, (∀ w16, S15 w16 → World.cell? w16 (Addr.add ⟨Array.size (World.heap w), 0, none⟩ 4) = some (Value.int .i64 n19)) ∧
  Calls Tryd.prog 18 #[(Value.pointer p18), (Value.int .i64 n19)] (World.drew (World.drew w9)) fun e21 w22 =>
  ∃ b20, e21 = Ending.returned (Value.bool b20) ∧
  S15 w22 ∧
  ∃ J23 : Option Addr → Bool → World → Prop, (∃ S24 : World → Prop, S24 (World.drew w22) ∧
  V.ptr g_1 fun a26 =>
  V.when (decide ((0 : Int) ≤ x12 ∧ (x12 : Int) < 4)) (∃ n27, ∃ A28, ∃ A28l, ∃ A28c, V.cellsC (fun a_ x_ => ∀ w25, S24 w25 → World.cell? w25 a_ = some x_) (Addr.add (Addr.add a26 4) ((Int.toNat x12) * 2)) [(Value.int .i64 n27), (Value.slice A28 A28l A28c)] ∧
  ∃ n29, (∀ w25, S24 w25 → World.cell? w25 (Addr.add ⟨Array.size (World.heap w), 0, none⟩ 4) = some (Value.int .i64 n29)) ∧
  (Calls Tryd.prog 73 #[(Value.agg #[(Value.int .i64 n27), (Value.slice A28 A28l A28c)]), (Value.int .i64 n29)] (World.drew w22) fun e33 w34 =>
  ∃ n30, ∃ A31, ∃ A31l, ∃ A31c, ∃ b32, e33 = Ending.returned (Value.tuple #[(Value.agg #[(Value.int .i64 n30), (Value.slice A31 A31l A31c)]), (Value.bool b32)]) ∧
  S24 w34 ∧
  ∀ w35, w35 = (World.alloc w34 (.cells #[(Value.int .i64 0), (Value.slice none 0 0)] 50)) →
  S24 w35 ∧
  ∃ w36, Sem.run Tryd.prog (Instr.storeAt 50 (Value.pointer (some ⟨Array.size (World.heap w34), 0, none⟩)) (Value.agg #[(Value.int .i64 n30), (Value.slice A31 A31l A31c)])) w35 = .ok () w36 ∧
  S24 w36 ∧
  J23 (some ⟨Array.size (World.heap w34), 0, none⟩) b32 w36) ∧
  (∀ w37, w37 = (World.alloc (World.drew w22) (.cells #[(Value.int .i64 0), (Value.slice none 0 0)] 50)) →
  S24 w37 ∧
  Calls Tryd.prog 73 #[(Value.agg #[(Value.int .i64 n27), (Value.slice A28 A28l A28c)]), (Value.int .i64 n29)] w37 fun e41 w42 =>
  ∃ n38, ∃ A39, ∃ A39l, ∃ A39c, ∃ b40, e41 = Ending.returned (Value.tuple #[(Value.agg #[(Value.int .i64 n38), (Value.slice A39 A39l A39c)]), (Value.bool b40)]) ∧
  S24 w42 ∧
  ∃ w43, Sem.run Tryd.prog (Instr.storeAt 50 (Value.pointer (some ⟨Array.size (World.heap (World.drew w22)), 0, none⟩)) (Value.agg #[(Value.int .i64 n38), (Value.slice A39 A39l A39c)])) w42 = .ok () w43 ∧
  S24 w43 ∧
  J23 (some ⟨Array.size (World.heap (World.drew w22)), 0, none⟩) b40 w43) ∧ True)) ∧
  ∀ r_44 want_45 (j46 : Nat → Value) (w47 : World), J23 r_44 want_45 w47 →
  ∃ S48 : World → Prop, S48 (World.drew w47) ∧
  V.ptr r_44 fun a50 =>
  ∃ n51, ∃ A52, ∃ A52l, ∃ A52c, V.cellsC (fun a_ x_ => ∀ w49, S48 w49 → World.cell? w49 a_ = some x_) a50 [(Value.int .i64 n51), (Value.slice A52 A52l A52c)] ∧
  V.ptr g_1 fun a53 =>
  V.when (decide ((0 : Int) ≤ x12 ∧ (x12 : Int) < 4)) (∃ w54, Sem.run Tryd.prog (Instr.storeAt 50 (Value.pointer (some (Addr.add (Addr.add a53 4) ((Int.toNat x12) * 2)))) (Value.agg #[(Value.int .i64 n51), (Value.slice A52 A52l A52c)])) (World.drew w47) = .ok () w54 ∧
  S48 w54 ∧
  R (Ending.returned (Value.bool (b20 == want_45))) w54)))
  (V.sel (n14 == 12)
  (∃ S55 : World → Prop, S55 (World.drew (World.drew w9)) ∧
  V.ptr g_1 fun a57 =>
  V.when (decide ((0 : Int) ≤ x12 ∧ (x12 : Int) < 4)) (∃ p58, (∀ w56, S55 w56 → World.cell? w56 (Addr.add (Addr.add a57 0) ((Int.toNat x12) * 1)) = some (Value.pointer p58)) ∧
  ∃ n59, (∀ w56, S55 w56 → World.cell? w56 (Addr.add ⟨Array.size (World.heap w), 0, none⟩ 4) = some (Value.int .i64 n59)) ∧
  Calls Tryd.prog 19 #[(Value.pointer p58), (Value.int .i64 n59)] (World.drew (World.drew w9)) fun e61 w62 =>
  ∃ b60, e61 = Ending.returned (Value.bool b60) ∧
  S55 w62 ∧
  ∃ J63 : Option Addr → Bool → World → Prop, (∃ S64 : World → Prop, S64 (World.drew w62) ∧
  V.ptr g_1 fun a66 =>
  V.when (decide ((0 : Int) ≤ x12 ∧ (x12 : Int) < 4)) (∃ n67, ∃ A68, ∃ A68l, ∃ A68c, V.cellsC (fun a_ x_ => ∀ w65, S64 w65 → World.cell? w65 a_ = some x_) (Addr.add (Addr.add a66 4) ((Int.toNat x12) * 2)) [(Value.int .i64 n67), (Value.slice A68 A68l A68c)] ∧
  ∃ n69, (∀ w65, S64 w65 → World.cell? w65 (Addr.add ⟨Array.size (World.heap w), 0, none⟩ 4) = some (Value.int .i64 n69)) ∧
  (Calls Tryd.prog 74 #[(Value.agg #[(Value.int .i64 n67), (Value.slice A68 A68l A68c)]), (Value.int .i64 n69)] (World.drew w62) fun e73 w74 =>
  ∃ n70, ∃ A71, ∃ A71l, ∃ A71c, ∃ b72, e73 = Ending.returned (Value.tuple #[(Value.agg #[(Value.int .i64 n70), (Value.slice A71 A71l A71c)]), (Value.bool b72)]) ∧
  S64 w74 ∧
  ∀ w75, w75 = (World.alloc w74 (.cells #[(Value.int .i64 0), (Value.slice none 0 0)] 50)) →
  S64 w75 ∧
  ∃ w76, Sem.run Tryd.prog (Instr.storeAt 50 (Value.pointer (some ⟨Array.size (World.heap w74), 0, none⟩)) (Value.agg #[(Value.int .i64 n70), (Value.slice A71 A71l A71c)])) w75 = .ok () w76 ∧
  S64 w76 ∧
  J63 (some ⟨Array.size (World.heap w74), 0, none⟩) b72 w76) ∧
  (∀ w77, w77 = (World.alloc (World.drew w62) (.cells #[(Value.int .i64 0), (Value.slice none 0 0)] 50)) →
  S64 w77 ∧
  Calls Tryd.prog 74 #[(Value.agg #[(Value.int .i64 n67), (Value.slice A68 A68l A68c)]), (Value.int .i64 n69)] w77 fun e81 w82 =>
  ∃ n78, ∃ A79, ∃ A79l, ∃ A79c, ∃ b80, e81 = Ending.returned (Value.tuple #[(Value.agg #[(Value.int .i64 n78), (Value.slice A79 A79l A79c)]), (Value.bool b80)]) ∧
  S64 w82 ∧
  ∃ w83, Sem.run Tryd.prog (Instr.storeAt 50 (Value.pointer (some ⟨Array.size (World.heap (World.drew w62)), 0, none⟩)) (Value.agg #[(Value.int .i64 n78), (Value.slice A79 A79l A79c)])) w82 = .ok () w83 ∧
  S64 w83 ∧
  J63 (some ⟨Array.size (World.heap (World.drew w62)), 0, none⟩) b80 w83) ∧ True)) ∧
  ∀ r_84 want_85 (j86 : Nat → Value) (w87 : World), J63 r_84 want_85 w87 →
  ∃ S88 : World → Prop, S88 (World.drew w87) ∧
  V.ptr r_84 fun a90 =>
  ∃ n91, ∃ A92, ∃ A92l, ∃ A92c, V.cellsC (fun a_ x_ => ∀ w89, S88 w89 → World.cell? w89 a_ = some x_) a90 [(Value.int .i64 n91), (Value.slice A92 A92l A92c)] ∧
  V.ptr g_1 fun a93 =>
  V.when (decide ((0 : Int) ≤ x12 ∧ (x12 : Int) < 4)) (∃ w94, Sem.run Tryd.prog (Instr.storeAt 50 (Value.pointer (some (Addr.add (Addr.add a93 4) ((Int.toNat x12) * 2)))) (Value.agg #[(Value.int .i64 n91), (Value.slice A92 A92l A92c)])) (World.drew w87) = .ok () w94 ∧
  S88 w94 ∧
  R (Ending.returned (Value.bool (b60 == want_85))) w94)))
  (V.sel (n14 == 13)
  (∃ S95 : World → Prop, S95 (World.drew (World.drew w9)) ∧
  V.ptr g_1 fun a97 =>
  V.when (decide ((0 : Int) ≤ x12 ∧ (x12 : Int) < 4)) (∃ p98, (∀ w96, S95 w96 → World.cell? w96 (Addr.add (Addr.add a97 0) ((Int.toNat x12) * 1)) = some (Value.pointer p98)) ∧
  ∃ n99, (∀ w96, S95 w96 → World.cell? w96 (Addr.add ⟨Array.size (World.heap w), 0, none⟩ 4) = some (Value.int .i64 n99)) ∧
  Calls Tryd.prog 21 #[(Value.pointer p98), (Value.int .i64 n99)] (World.drew (World.drew w9)) fun e101 w102 =>
  ∃ n100, e101 = Ending.returned (Value.int .i64 n100) ∧
  S95 w102 ∧
  V.ptr g_1 fun a103 =>
  V.when (decide ((0 : Int) ≤ x12 ∧ (x12 : Int) < 4)) (∃ b104, World.cell? w102 (Addr.add (Addr.add a103 12) ((Int.toNat x12) * 1)) = some (Value.bool b104) ∧
  V.sel b104
  (Calls Tryd.prog 20 #[(Value.int .i64 n100)] w102 fun e106 w107 =>
  ∃ n105, e106 = Ending.returned (Value.int .i64 n105) ∧
  R (Ending.returned (Value.bool (n105 == 1))) w107)
  (∃ J108 : Option Addr → Int → World → Prop, (∃ S109 : World → Prop, S109 (World.drew w102) ∧
  V.ptr g_1 fun a111 =>
  V.when (decide ((0 : Int) ≤ x12 ∧ (x12 : Int) < 4)) (∃ n112, ∃ A113, ∃ A113l, ∃ A113c, V.cellsC (fun a_ x_ => ∀ w110, S109 w110 → World.cell? w110 a_ = some x_) (Addr.add (Addr.add a111 4) ((Int.toNat x12) * 2)) [(Value.int .i64 n112), (Value.slice A113 A113l A113c)] ∧
  ∃ n114, (∀ w110, S109 w110 → World.cell? w110 (Addr.add ⟨Array.size (World.heap w), 0, none⟩ 4) = some (Value.int .i64 n114)) ∧
  (Calls Tryd.prog 75 #[(Value.agg #[(Value.int .i64 n112), (Value.slice A113 A113l A113c)]), (Value.int .i64 n114)] (World.drew w102) fun e118 w119 =>
  ∃ n115, ∃ A116, ∃ A116l, ∃ A116c, ∃ n117, e118 = Ending.returned (Value.tuple #[(Value.agg #[(Value.int .i64 n115), (Value.slice A116 A116l A116c)]), (Value.int .i64 n117)]) ∧
  S109 w119 ∧
  ∀ w120, w120 = (World.alloc w119 (.cells #[(Value.int .i64 0), (Value.slice none 0 0)] 50)) →
  S109 w120 ∧
  ∃ w121, Sem.run Tryd.prog (Instr.storeAt 50 (Value.pointer (some ⟨Array.size (World.heap w119), 0, none⟩)) (Value.agg #[(Value.int .i64 n115), (Value.slice A116 A116l A116c)])) w120 = .ok () w121 ∧
  S109 w121 ∧
  J108 (some ⟨Array.size (World.heap w119), 0, none⟩) n117 w121) ∧
  (∀ w122, w122 = (World.alloc (World.drew w102) (.cells #[(Value.int .i64 0), (Value.slice none 0 0)] 50)) →
  S109 w122 ∧
  Calls Tryd.prog 75 #[(Value.agg #[(Value.int .i64 n112), (Value.slice A113 A113l A113c)]), (Value.int .i64 n114)] w122 fun e126 w127 =>
  ∃ n123, ∃ A124, ∃ A124l, ∃ A124c, ∃ n125, e126 = Ending.returned (Value.tuple #[(Value.agg #[(Value.int .i64 n123), (Value.slice A124 A124l A124c)]), (Value.int .i64 n125)]) ∧
  S109 w127 ∧
  ∃ w128, Sem.run Tryd.prog (Instr.storeAt 50 (Value.pointer (some ⟨Array.size (World.heap (World.drew w102)), 0, none⟩)) (Value.agg #[(Value.int .i64 n123), (Value.slice A124 A124l A124c)])) w127 = .ok () w128 ∧
  S109 w128 ∧
  J108 (some ⟨Array.size (World.heap (World.drew w102)), 0, none⟩) n125 w128) ∧ True)) ∧
  ∀ r_129 f_130 (j131 : Nat → Value) (w132 : World), J108 r_129 f_130 w132 →
  ∃ S133 : World → Prop, S133 (World.drew w132) ∧
  V.ptr r_129 fun a135 =>
  ∃ n136, ∃ A137, ∃ A137l, ∃ A137c, V.cellsC (fun a_ x_ => ∀ w134, S133 w134 → World.cell? w134 a_ = some x_) a135 [(Value.int .i64 n136), (Value.slice A137 A137l A137c)] ∧
  V.ptr g_1 fun a138 =>
  V.when (decide ((0 : Int) ≤ x12 ∧ (x12 : Int) < 4)) (∃ w139, Sem.run Tryd.prog (Instr.storeAt 50 (Value.pointer (some (Addr.add (Addr.add a138 4) ((Int.toNat x12) * 2)))) (Value.agg #[(Value.int .i64 n136), (Value.slice A137 A137l A137c)])) (World.drew w132) = .ok () w139 ∧
  S133 w139 ∧
  Calls Tryd.prog 20 #[(Value.int .i64 n100)] w139 fun e141 w142 =>
  ∃ n140, e141 = Ending.returned (Value.int .i64 n140) ∧
  R (Ending.returned (Value.bool (n140 == f_130))) w142)))))
  (V.sel (n14 == 14)
  (∃ S143 : World → Prop, S143 (World.drew (World.drew w9)) ∧
  V.ptr g_1 fun a145 =>
  V.when (decide ((0 : Int) ≤ x12 ∧ (x12 : Int) < 4)) (∃ p146, (∀ w144, S143 w144 → World.cell? w144 (Addr.add (Addr.add a145 0) ((Int.toNat x12) * 1)) = some (Value.pointer p146)) ∧
  V.ptr g_1 fun a147 =>
  V.when (decide ((0 : Int) ≤ x13 ∧ (x13 : Int) < 4)) (∃ p148, (∀ w144, S143 w144 → World.cell? w144 (Addr.add (Addr.add a147 0) ((Int.toNat x13) * 1)) = some (Value.pointer p148)) ∧
  Calls Tryd.prog 22 #[(Value.pointer p146), (Value.pointer p148)] (World.drew (World.drew w9)) fun e149 w150 =>
  e149 = Ending.returned undef ∧
  S143 w150 ∧
  ∃ S151 : World → Prop, S151 (World.drew w150) ∧
  V.ptr g_1 fun a153 =>
  V.when (decide ((0 : Int) ≤ x12 ∧ (x12 : Int) < 4)) (∃ n154, ∃ A155, ∃ A155l, ∃ A155c, V.cellsC (fun a_ x_ => ∀ w152, S151 w152 → World.cell? w152 a_ = some x_) (Addr.add (Addr.add a153 4) ((Int.toNat x12) * 2)) [(Value.int .i64 n154), (Value.slice A155 A155l A155c)] ∧
  V.ptr g_1 fun a156 =>
  V.when (decide ((0 : Int) ≤ x13 ∧ (x13 : Int) < 4)) (∃ n157, ∃ A158, ∃ A158l, ∃ A158c, V.cellsC (fun a_ x_ => ∀ w152, S151 w152 → World.cell? w152 a_ = some x_) (Addr.add (Addr.add a156 4) ((Int.toNat x13) * 2)) [(Value.int .i64 n157), (Value.slice A158 A158l A158c)] ∧
  V.ptr g_1 fun a159 =>
  Calls Tryd.prog 76 #[(Value.agg #[(Value.int .i64 n154), (Value.slice A155 A155l A155c)]), (Value.agg #[(Value.int .i64 n157), (Value.slice A158 A158l A158c)])] (World.drew w150) fun e162 w163 =>
  ∃ n160, ∃ A161, ∃ A161l, ∃ A161c, e162 = Ending.returned (Value.agg #[(Value.int .i64 n160), (Value.slice A161 A161l A161c)]) ∧
  S151 w163 ∧
  V.when (decide ((0 : Int) ≤ x12 ∧ (x12 : Int) < 4)) (∃ w164, Sem.run Tryd.prog (Instr.storeAt 50 (Value.pointer (some (Addr.add (Addr.add a159 4) ((Int.toNat x12) * 2)))) (Value.agg #[(Value.int .i64 n160), (Value.slice A161 A161l A161c)])) w163 = .ok () w164 ∧
  S151 w164 ∧
  R (Ending.returned (Value.bool true)) w164))))))
  (V.sel (n14 == 15)
  (∃ S165 : World → Prop, S165 (World.drew (World.drew w9)) ∧
  V.ptr g_1 fun a167 =>
  V.when (decide ((0 : Int) ≤ x12 ∧ (x12 : Int) < 4)) (∃ p168, (∀ w166, S165 w166 → World.cell? w166 (Addr.add (Addr.add a167 0) ((Int.toNat x12) * 1)) = some (Value.pointer p168)) ∧
  V.ptr g_1 fun a169 =>
  V.when (decide ((0 : Int) ≤ x13 ∧ (x13 : Int) < 4)) (∃ p170, (∀ w166, S165 w166 → World.cell? w166 (Addr.add (Addr.add a169 0) ((Int.toNat x13) * 1)) = some (Value.pointer p170)) ∧
  Calls Tryd.prog 23 #[(Value.pointer p168), (Value.pointer p170)] (World.drew (World.drew w9)) fun e171 w172 =>
  e171 = Ending.returned undef ∧
  S165 w172 ∧
  ∃ S173 : World → Prop, S173 (World.drew w172) ∧
  V.ptr g_1 fun a175 =>
  V.when (decide ((0 : Int) ≤ x12 ∧ (x12 : Int) < 4)) (∃ n176, ∃ A177, ∃ A177l, ∃ A177c, V.cellsC (fun a_ x_ => ∀ w174, S173 w174 → World.cell? w174 a_ = some x_) (Addr.add (Addr.add a175 4) ((Int.toNat x12) * 2)) [(Value.int .i64 n176), (Value.slice A177 A177l A177c)] ∧
  V.ptr g_1 fun a178 =>
  V.when (decide ((0 : Int) ≤ x13 ∧ (x13 : Int) < 4)) (∃ n179, ∃ A180, ∃ A180l, ∃ A180c, V.cellsC (fun a_ x_ => ∀ w174, S173 w174 → World.cell? w174 a_ = some x_) (Addr.add (Addr.add a178 4) ((Int.toNat x13) * 2)) [(Value.int .i64 n179), (Value.slice A180 A180l A180c)] ∧
  V.ptr g_1 fun a181 =>
  Calls Tryd.prog 77 #[(Value.agg #[(Value.int .i64 n176), (Value.slice A177 A177l A177c)]), (Value.agg #[(Value.int .i64 n179), (Value.slice A180 A180l A180c)])] (World.drew w172) fun e184 w185 =>
  ∃ n182, ∃ A183, ∃ A183l, ∃ A183c, e184 = Ending.returned (Value.agg #[(Value.int .i64 n182), (Value.slice A183 A183l A183c)]) ∧
  S173 w185 ∧
  V.when (decide ((0 : Int) ≤ x12 ∧ (x12 : Int) < 4)) (∃ w186, Sem.run Tryd.prog (Instr.storeAt 50 (Value.pointer (some (Addr.add (Addr.add a181 4) ((Int.toNat x12) * 2)))) (Value.agg #[(Value.int .i64 n182), (Value.slice A183 A183l A183c)])) w185 = .ok () w186 ∧
  S173 w186 ∧
  R (Ending.returned (Value.bool true)) w186))))))
  (∃ S187 : World → Prop, S187 (World.drew (World.drew w9)) ∧
  V.ptr g_1 fun a189 =>
  V.when (decide ((0 : Int) ≤ x12 ∧ (x12 : Int) < 4)) (∃ p190, (∀ w188, S187 w188 → World.cell? w188 (Addr.add (Addr.add a189 0) ((Int.toNat x12) * 1)) = some (Value.pointer p190)) ∧
  V.ptr g_1 fun a191 =>
  V.when (decide ((0 : Int) ≤ x13 ∧ (x13 : Int) < 4)) (∃ p192, (∀ w188, S187 w188 → World.cell? w188 (Addr.add (Addr.add a191 0) ((Int.toNat x13) * 1)) = some (Value.pointer p192)) ∧
  Calls Tryd.prog 24 #[(Value.pointer p190), (Value.pointer p192)] (World.drew (World.drew w9)) fun e193 w194 =>
  e193 = Ending.returned undef ∧
  S187 w194 ∧
  ∃ S195 : World → Prop, S195 (World.drew w194) ∧
  V.ptr g_1 fun a197 =>
  V.when (decide ((0 : Int) ≤ x12 ∧ (x12 : Int) < 4)) (∃ n198, ∃ A199, ∃ A199l, ∃ A199c, V.cellsC (fun a_ x_ => ∀ w196, S195 w196 → World.cell? w196 a_ = some x_) (Addr.add (Addr.add a197 4) ((Int.toNat x12) * 2)) [(Value.int .i64 n198), (Value.slice A199 A199l A199c)] ∧
  V.ptr g_1 fun a200 =>
  V.when (decide ((0 : Int) ≤ x13 ∧ (x13 : Int) < 4)) (∃ n201, ∃ A202, ∃ A202l, ∃ A202c, V.cellsC (fun a_ x_ => ∀ w196, S195 w196 → World.cell? w196 a_ = some x_) (Addr.add (Addr.add a200 4) ((Int.toNat x13) * 2)) [(Value.int .i64 n201), (Value.slice A202 A202l A202c)] ∧
  V.ptr g_1 fun a203 =>
  Calls Tryd.prog 78 #[(Value.agg #[(Value.int .i64 n198), (Value.slice A199 A199l A199c)]), (Value.agg #[(Value.int .i64 n201), (Value.slice A202 A202l A202c)])] (World.drew w194) fun e206 w207 =>
  ∃ n204, ∃ A205, ∃ A205l, ∃ A205c, e206 = Ending.returned (Value.agg #[(Value.int .i64 n204), (Value.slice A205 A205l A205c)]) ∧
  S195 w207 ∧
  V.when (decide ((0 : Int) ≤ x12 ∧ (x12 : Int) < 4)) (∃ w208, Sem.run Tryd.prog (Instr.storeAt 50 (Value.pointer (some (Addr.add (Addr.add a203 4) ((Int.toNat x12) * 2)))) (Value.agg #[(Value.int .i64 n204), (Value.slice A205 A205l A205c)])) w207 = .ok () w208 ∧
  S195 w208 ∧
  R (Ending.returned (Value.bool true)) w208))))))))))) :
  Calls Tryd.prog 55 #[(Value.pointer g_1), (Value.agg #[(Value.int .i64 o_2), (Value.int .i64 o_3), (Value.int .i64 o_4), (Value.int .i64 o_5), (Value.int .i64 o_6), (Value.slice o_7 o_7l o_7c), (Value.slice o_8 o_8l o_8c)])] w R :=
  V.calls_of_R ⟨V.assoc [], V.assocP [(1, V.line [0, 1, 2, 3, 4, 5, 6, 7]), (6, V.line [0, 1, 2, 3, 4, 5, 6, 7, 8, 9]), (7, (V.Plan.one 0 (V.Plan.one 1 (V.Plan.one 2 (V.Plan.one 3 (V.Plan.one 4 (V.Plan.one 5 (V.Plan.one 6 (V.Plan.one 7 (V.Plan.alt 8 (V.Plan.one 9 (V.Plan.one 10 (V.Plan.one 11 (V.Plan.one 12 (V.Plan.one 13 (V.Plan.one 14 V.Plan.done)))))) (V.Plan.alt 12 (V.Plan.one 8 (V.Plan.one 9 (V.Plan.one 10 (V.Plan.one 11 (V.Plan.one 13 (V.Plan.one 14 V.Plan.done)))))) V.Plan.stop))))))))))), (8, V.line [0, 1, 2, 3, 4, 5, 6]), (11, V.line [0, 1, 2, 3, 4, 5, 6, 7, 8, 9]), (12, (V.Plan.one 0 (V.Plan.one 1 (V.Plan.one 2 (V.Plan.one 3 (V.Plan.one 4 (V.Plan.one 5 (V.Plan.one 6 (V.Plan.one 7 (V.Plan.alt 8 (V.Plan.one 9 (V.Plan.one 10 (V.Plan.one 11 (V.Plan.one 12 (V.Plan.one 13 (V.Plan.one 14 V.Plan.done)))))) (V.Plan.alt 12 (V.Plan.one 8 (V.Plan.one 9 (V.Plan.one 10 (V.Plan.one 11 (V.Plan.one 13 (V.Plan.one 14 V.Plan.done)))))) V.Plan.stop))))))))))), (13, V.line [0, 1, 2, 3, 4, 5, 6]), (16, V.line [0, 1, 2, 3, 4, 5, 6, 7, 8, 9]), (19, (V.Plan.one 0 (V.Plan.one 1 (V.Plan.one 2 (V.Plan.one 3 (V.Plan.one 4 (V.Plan.one 5 (V.Plan.one 6 (V.Plan.one 7 (V.Plan.alt 8 (V.Plan.one 9 (V.Plan.one 10 (V.Plan.one 11 (V.Plan.one 12 (V.Plan.one 13 (V.Plan.one 14 V.Plan.done)))))) (V.Plan.alt 12 (V.Plan.one 8 (V.Plan.one 9 (V.Plan.one 10 (V.Plan.one 11 (V.Plan.one 13 (V.Plan.one 14 V.Plan.done)))))) V.Plan.stop))))))))))), (20, V.line [0, 1, 2, 3, 4, 5, 6]), (23, V.line [0, 1, 2, 3, 4, 5, 6, 7, 8, 9, 10, 11, 12]), (24, V.line [0, 1, 2, 3, 4, 5, 6, 7, 8, 9, 10, 11, 12, 13, 15, 16, 14, 17, 18]), (26, V.line [0, 1, 2, 3, 4, 5, 6, 7, 8, 9, 10, 11, 12]), (27, V.line [0, 1, 2, 3, 4, 5, 6, 7, 8, 9, 10, 11, 12, 13, 15, 16, 14, 17, 18]), (3, V.line [0, 1, 2, 3, 4, 5, 6, 7, 8, 9, 10, 11, 12]), (4, V.line [0, 1, 2, 3, 4, 5, 6, 7, 8, 9, 10, 11, 12, 13, 15, 16, 14, 17, 18])], V.assocC [(7, ([8, 9], [V.Sh.one .ptr, V.Sh.one .bool])), (12, ([11, 12], [V.Sh.one .ptr, V.Sh.one .bool])), (19, ([14, 15], [V.Sh.one .ptr, V.Sh.one (.int .i64)]))], V.assocS [], ⟨[], true⟩⟩ Tryd.func55 rfl (Eq.mp (by kernel_rfl) h)

end Go.Proofs.YtbaglnffgbnekaaDoor
