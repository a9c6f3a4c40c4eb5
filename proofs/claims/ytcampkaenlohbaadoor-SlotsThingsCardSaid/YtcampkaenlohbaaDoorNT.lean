/- Normal forms of the program's functions, printed by a program of mine; the kernel checks each. -/
import Derived.Test.YtcampkaenlohbaaDoorProg
import Derived.Test.YtcampkaenlohbaaDoorV2
set_option linter.unusedVariables false
set_option maxRecDepth 100000
namespace Go.Proofs.YtcampkaenlohbaaDoor
open Go

theorem berthlaw05_SlotsThings_nf (script_1 : Option Addr) (script_1l : Nat) (script_1c : Nat) (w : World) (R : Ending → World → Prop) (h :
  Calls Tryd.prog 6 #[] w fun e3 w4 =>
  ∃ b2, e3 = Ending.returned (Value.bool b2) ∧
  V.sel (!b2)
  (R (Ending.returned (Value.bool false)) w4)
  (Calls Tryd.prog 13 #[(Value.int .i64 5)] w4 fun e7 w8 =>
  ∃ p5, ∃ n6, e7 = Ending.returned (Value.tuple #[(Value.pointer p5), (Value.int .i64 n6)]) ∧
  Calls Tryd.prog 14 #[(Value.int .i64 5)] w8 fun e11 w12 =>
  ∃ p9, ∃ n10, e11 = Ending.returned (Value.tuple #[(Value.pointer p9), (Value.int .i64 n10)]) ∧
  Calls Tryd.prog 15 #[(Value.int .i64 5)] w12 fun e16 w17 =>
  ∃ n13, ∃ A14, ∃ A14l, ∃ A14c, ∃ n15, e16 = Ending.returned (Value.tuple #[(Value.agg #[(Value.int .i64 n13), (Value.slice A14 A14l A14c)]), (Value.int .i64 n15)]) ∧
  ∀ w18, w18 = (World.alloc w17 (.cells #[(Value.int .i64 0), (Value.slice none 0 0)] 45)) →
  ∃ w19, Sem.run Tryd.prog (Instr.storeAt 45 (Value.pointer (some ⟨Array.size (World.heap w17), 0, none⟩)) (Value.agg #[(Value.int .i64 n13), (Value.slice A14 A14l A14c)])) w18 = .ok () w19 ∧
  V.sel (Option.isNone p5)
  (R (Ending.returned (Value.bool false)) w19)
  (V.sel (Option.isNone p9)
  (R (Ending.returned (Value.bool false)) w19)
  (V.sel (n6 != 0)
  (R (Ending.returned (Value.bool false)) w19)
  (V.sel (n10 != 0)
  (R (Ending.returned (Value.bool false)) w19)
  (∃ I20 : Int → World → Prop, ∃ μ21 : Int → World → Nat, I20 0 w19 ∧
  ∀ t67_22 (j23 : Nat → Value) (w24 : World), I20 t67_22 w24 →
  (V.sel (decide (t67_22 < ((script_1l : Nat) : Int)))
  (V.when (decide ((0 : Int) ≤ t67_22 ∧ (t67_22 : Int) < ((script_1l : Nat) : Int))) (V.ptr script_1 fun a25 =>
  ∃ n26, ∃ n27, ∃ n28, ∃ s29, ∃ n30, V.cellsC (fun a_ x_ => World.cell? w24 a_ = some x_) (Addr.add a25 ((Int.toNat t67_22) * 5)) [(Value.int .i64 n26), (Value.int .i64 n27), (Value.int .i64 n28), (Value.string s29), (Value.int .i64 n30)] ∧
  ∀ w31, w31 = (World.alloc w24 (.cells #[(Value.int .i64 0), (Value.int .i64 0), (Value.int .i64 0), (Value.string ByteArray.empty), (Value.int .i64 0)] 49)) →
  ∃ w32, Sem.run Tryd.prog (Instr.storeAt 49 (Value.pointer (some ⟨Array.size (World.heap w24), 0, none⟩)) (Value.agg #[(Value.int .i64 n26), (Value.int .i64 n27), (Value.int .i64 n28), (Value.string s29), (Value.int .i64 n30)])) w31 = .ok () w32 ∧
  ∃ n33, World.cell? w32 (Addr.add ⟨Array.size (World.heap w24), 0, none⟩ 4) = some (Value.int .i64 n33) ∧
  Calls Tryd.prog 9 #[(Value.int .i64 n33)] w32 fun e35 w36 =>
  ∃ s34, e35 = Ending.returned (Value.string s34) ∧
  ∃ n37, ∃ A38, ∃ A38l, ∃ A38c, V.cellsC (fun a_ x_ => World.cell? w36 a_ = some x_) ⟨Array.size (World.heap w17), 0, none⟩ [(Value.int .i64 n37), (Value.slice A38 A38l A38c)] ∧
  ∀ w39, w39 = (World.alloc w36 (.cells #[(Value.int .i64 0), (Value.slice none 0 0)] 45)) →
  ∃ w40, Sem.run Tryd.prog (Instr.storeAt 45 (Value.pointer (some ⟨Array.size (World.heap w36), 0, none⟩)) (Value.agg #[(Value.int .i64 n37), (Value.slice A38 A38l A38c)])) w39 = .ok () w40 ∧
  ∃ n41, World.cell? w40 (Addr.add ⟨Array.size (World.heap w24), 0, none⟩ 0) = some (Value.int .i64 n41) ∧
  V.sel (n41 == 2)
  (∃ s42, World.cell? w40 (Addr.add ⟨Array.size (World.heap w24), 0, none⟩ 3) = some (Value.string s42) ∧
  ∃ n43, World.cell? w40 (Addr.add ⟨Array.size (World.heap w24), 0, none⟩ 4) = some (Value.int .i64 n43) ∧
  Calls Tryd.prog 16 #[(Value.pointer p5), (Value.string s42), (Value.agg #[(Value.int .i64 n43), (Value.string s34)])] w40 fun e46 w47 =>
  ∃ n44, ∃ n45, e46 = Ending.returned (Value.tuple #[(Value.int .i64 n44), (Value.int .i64 n45)]) ∧
  ∃ s48, World.cell? w47 (Addr.add ⟨Array.size (World.heap w24), 0, none⟩ 3) = some (Value.string s48) ∧
  Calls Tryd.prog 17 #[(Value.pointer p9), (Value.string s48), (Value.string s34)] w47 fun e51 w52 =>
  ∃ n49, ∃ n50, e51 = Ending.returned (Value.tuple #[(Value.int .i64 n49), (Value.int .i64 n50)]) ∧
  ∃ n53, ∃ A54, ∃ A54l, ∃ A54c, V.cellsC (fun a_ x_ => World.cell? w52 a_ = some x_) ⟨Array.size (World.heap w17), 0, none⟩ [(Value.int .i64 n53), (Value.slice A54 A54l A54c)] ∧
  ∃ s55, World.cell? w52 (Addr.add ⟨Array.size (World.heap w24), 0, none⟩ 3) = some (Value.string s55) ∧
  ∃ n56, World.cell? w52 (Addr.add ⟨Array.size (World.heap w24), 0, none⟩ 4) = some (Value.int .i64 n56) ∧
  Calls Tryd.prog 18 #[(Value.agg #[(Value.int .i64 n53), (Value.slice A54 A54l A54c)]), (Value.string s55), (Value.int .i64 n56)] w52 fun e61 w62 =>
  ∃ n57, ∃ A58, ∃ A58l, ∃ A58c, ∃ n59, ∃ n60, e61 = Ending.returned (Value.tuple #[(Value.agg #[(Value.int .i64 n57), (Value.slice A58 A58l A58c)]), (Value.int .i64 n59), (Value.int .i64 n60)]) ∧
  ∃ w63, Sem.run Tryd.prog (Instr.storeAt 45 (Value.pointer (some ⟨Array.size (World.heap w36), 0, none⟩)) (Value.agg #[(Value.int .i64 n57), (Value.slice A58 A58l A58c)])) w62 = .ok () w63 ∧
  V.sel (n44 != n59)
  (R (Ending.returned (Value.bool false)) w63)
  (V.sel (n49 != n59)
  (R (Ending.returned (Value.bool false)) w63)
  (V.sel (n45 != n60)
  (R (Ending.returned (Value.bool false)) w63)
  (V.sel (n50 != n60)
  (R (Ending.returned (Value.bool false)) w63)
  (∃ n64, ∃ A65, ∃ A65l, ∃ A65c, V.cellsC (fun a_ x_ => World.cell? w63 a_ = some x_) ⟨Array.size (World.heap w36), 0, none⟩ [(Value.int .i64 n64), (Value.slice A65 A65l A65c)] ∧
  ∃ w66, Sem.run Tryd.prog (Instr.storeAt 45 (Value.pointer (some ⟨Array.size (World.heap w17), 0, none⟩)) (Value.agg #[(Value.int .i64 n64), (Value.slice A65 A65l A65c)])) w63 = .ok () w66 ∧
  ∃ A67, ∃ A67l, ∃ A67c, World.cell? w66 (Addr.add ⟨Array.size (World.heap w17), 0, none⟩ 1) = some (Value.slice A67 A67l A67c) ∧
  ∃ I68 : Int → World → Prop, ∃ μ69 : Int → World → Nat, I68 0 w66 ∧
  ∀ t204_70 (j71 : Nat → Value) (w72 : World), I68 t204_70 w72 →
  (V.sel (decide (t204_70 < ((A67l : Nat) : Int)))
  (V.when (decide ((0 : Int) ≤ t204_70 ∧ (t204_70 : Int) < ((A67l : Nat) : Int))) (V.ptr A67 fun a73 =>
  ∃ n74, ∃ s75, ∃ n76, V.cellsC (fun a_ x_ => World.cell? w72 a_ = some x_) (Addr.add a73 ((Int.toNat t204_70) * 3)) [(Value.int .i64 n74), (Value.string s75), (Value.int .i64 n76)] ∧
  ∀ w77, w77 = (World.alloc w72 (.cells #[(Value.int .i64 0), (Value.string ByteArray.empty), (Value.int .i64 0)] 59)) →
  ∃ w78, Sem.run Tryd.prog (Instr.storeAt 59 (Value.pointer (some ⟨Array.size (World.heap w72), 0, none⟩)) (Value.agg #[(Value.int .i64 n74), (Value.string s75), (Value.int .i64 n76)])) w77 = .ok () w78 ∧
  ∃ s79, World.cell? w78 (Addr.add ⟨Array.size (World.heap w72), 0, none⟩ 1) = some (Value.string s79) ∧
  Calls Tryd.prog 25 #[(Value.pointer p5), (Value.string s79)] w78 fun e84 w85 =>
  ∃ n80, ∃ n81, ∃ s82, ∃ b83, e84 = Ending.returned (Value.tuple #[(Value.int .i64 n80), (Value.agg #[(Value.int .i64 n81), (Value.string s82)]), (Value.bool b83)]) ∧
  ∀ w86, w86 = (World.alloc w85 (.cells #[(Value.int .i64 0), (Value.string ByteArray.empty)] 39)) →
  ∃ w87, Sem.run Tryd.prog (Instr.storeAt 39 (Value.pointer (some ⟨Array.size (World.heap w85), 0, none⟩)) (Value.agg #[(Value.int .i64 n81), (Value.string s82)])) w86 = .ok () w87 ∧
  ∃ n88, World.cell? w87 (Addr.add ⟨Array.size (World.heap w72), 0, none⟩ 0) = some (Value.int .i64 n88) ∧
  Calls Tryd.prog 26 #[(Value.pointer p9), (Value.int .i64 n88)] w87 fun e92 w93 =>
  ∃ s89, ∃ s90, ∃ b91, e92 = Ending.returned (Value.tuple #[(Value.string s89), (Value.string s90), (Value.bool b91)]) ∧
  ∃ n94, World.cell? w93 (Addr.add ⟨Array.size (World.heap w72), 0, none⟩ 2) = some (Value.int .i64 n94) ∧
  Calls Tryd.prog 9 #[(Value.int .i64 n94)] w93 fun e96 w97 =>
  ∃ s95, e96 = Ending.returned (Value.string s95) ∧
  V.sel (!b83)
  (R (Ending.returned (Value.bool false)) w97)
  (V.sel (!b91)
  (R (Ending.returned (Value.bool false)) w97)
  (∃ n98, ∃ s99, V.cellsC (fun a_ x_ => World.cell? w97 a_ = some x_) ⟨Array.size (World.heap w85), 0, none⟩ [(Value.int .i64 n98), (Value.string s99)] ∧
  ∃ n100, World.cell? w97 (Addr.add ⟨Array.size (World.heap w72), 0, none⟩ 2) = some (Value.int .i64 n100) ∧
  V.sel (!(((n98 : Int) == n100) && ((ByteArray.toList s99 == ByteArray.toList s95) && true)))
  (R (Ending.returned (Value.bool false)) w97)
  (V.sel (!(ByteArray.toList s90 == ByteArray.toList s95))
  (R (Ending.returned (Value.bool false)) w97)
  (I68 (IntKind.wrap .i64 (t204_70 + 1)) w97 ∧ μ69 (IntKind.wrap .i64 (t204_70 + 1)) w97 < μ69 t204_70 w72))))))
  (∃ n101, World.cell? w72 (Addr.add ⟨Array.size (World.heap w24), 0, none⟩ 4) = some (Value.int .i64 n101) ∧
  Calls Tryd.prog 27 #[(Value.pointer p5), (Value.int .i64 n101)] w72 fun e106 w107 =>
  ∃ s102, ∃ n103, ∃ s104, ∃ b105, e106 = Ending.returned (Value.tuple #[(Value.string s102), (Value.agg #[(Value.int .i64 n103), (Value.string s104)]), (Value.bool b105)]) ∧
  ∀ w108, w108 = (World.alloc w107 (.cells #[(Value.int .i64 0), (Value.string ByteArray.empty)] 39)) →
  ∃ w109, Sem.run Tryd.prog (Instr.storeAt 39 (Value.pointer (some ⟨Array.size (World.heap w107), 0, none⟩)) (Value.agg #[(Value.int .i64 n103), (Value.string s104)])) w108 = .ok () w109 ∧
  ∃ n110, ∃ A111, ∃ A111l, ∃ A111c, V.cellsC (fun a_ x_ => World.cell? w109 a_ = some x_) ⟨Array.size (World.heap w17), 0, none⟩ [(Value.int .i64 n110), (Value.slice A111 A111l A111c)] ∧
  ∃ n112, World.cell? w109 (Addr.add ⟨Array.size (World.heap w24), 0, none⟩ 4) = some (Value.int .i64 n112) ∧
  Calls Tryd.prog 28 #[(Value.agg #[(Value.int .i64 n110), (Value.slice A111 A111l A111c)]), (Value.int .i64 n112)] w109 fun e114 w115 =>
  ∃ n113, e114 = Ending.returned (Value.int .i64 n113) ∧
  V.sel (decide (n113 < 0))
  (V.sel (!(ByteArray.toList s102 == ByteArray.toList ByteArray.empty))
  (R (Ending.returned (Value.bool false)) w115)
  (V.sel b105
  (R (Ending.returned (Value.bool false)) w115)
  (∃ n116, ∃ s117, V.cellsC (fun a_ x_ => World.cell? w115 a_ = some x_) ⟨Array.size (World.heap w107), 0, none⟩ [(Value.int .i64 n116), (Value.string s117)] ∧
  V.sel (!(((n116 : Int) == 0) && ((ByteArray.toList s117 == ByteArray.toList ByteArray.empty) && true)))
  (R (Ending.returned (Value.bool false)) w115)
  (I20 (IntKind.wrap .i64 (t67_22 + 1)) w115 ∧ μ21 (IntKind.wrap .i64 (t67_22 + 1)) w115 < μ21 t67_22 w24))))
  (I20 (IntKind.wrap .i64 (t67_22 + 1)) w115 ∧ μ21 (IntKind.wrap .i64 (t67_22 + 1)) w115 < μ21 t67_22 w24))))))))
  (V.sel (n41 == 3)
  (∃ s118, World.cell? w40 (Addr.add ⟨Array.size (World.heap w24), 0, none⟩ 3) = some (Value.string s118) ∧
  ∃ n119, World.cell? w40 (Addr.add ⟨Array.size (World.heap w24), 0, none⟩ 4) = some (Value.int .i64 n119) ∧
  Calls Tryd.prog 19 #[(Value.pointer p5), (Value.string s118), (Value.agg #[(Value.int .i64 n119), (Value.string s34)])] w40 fun e121 w122 =>
  ∃ n120, e121 = Ending.returned (Value.int .i64 n120) ∧
  ∃ s123, World.cell? w122 (Addr.add ⟨Array.size (World.heap w24), 0, none⟩ 3) = some (Value.string s123) ∧
  Calls Tryd.prog 20 #[(Value.pointer p9), (Value.string s123), (Value.string s34)] w122 fun e125 w126 =>
  ∃ n124, e125 = Ending.returned (Value.int .i64 n124) ∧
  ∃ n127, ∃ A128, ∃ A128l, ∃ A128c, V.cellsC (fun a_ x_ => World.cell? w126 a_ = some x_) ⟨Array.size (World.heap w17), 0, none⟩ [(Value.int .i64 n127), (Value.slice A128 A128l A128c)] ∧
  ∃ s129, World.cell? w126 (Addr.add ⟨Array.size (World.heap w24), 0, none⟩ 3) = some (Value.string s129) ∧
  ∃ n130, World.cell? w126 (Addr.add ⟨Array.size (World.heap w24), 0, none⟩ 4) = some (Value.int .i64 n130) ∧
  Calls Tryd.prog 21 #[(Value.agg #[(Value.int .i64 n127), (Value.slice A128 A128l A128c)]), (Value.string s129), (Value.int .i64 n130)] w126 fun e134 w135 =>
  ∃ n131, ∃ A132, ∃ A132l, ∃ A132c, ∃ n133, e134 = Ending.returned (Value.tuple #[(Value.agg #[(Value.int .i64 n131), (Value.slice A132 A132l A132c)]), (Value.int .i64 n133)]) ∧
  ∃ w136, Sem.run Tryd.prog (Instr.storeAt 45 (Value.pointer (some ⟨Array.size (World.heap w36), 0, none⟩)) (Value.agg #[(Value.int .i64 n131), (Value.slice A132 A132l A132c)])) w135 = .ok () w136 ∧
  V.sel (n120 != n133)
  (R (Ending.returned (Value.bool false)) w136)
  (V.sel (n124 != n133)
  (R (Ending.returned (Value.bool false)) w136)
  (∃ n137, ∃ A138, ∃ A138l, ∃ A138c, V.cellsC (fun a_ x_ => World.cell? w136 a_ = some x_) ⟨Array.size (World.heap w36), 0, none⟩ [(Value.int .i64 n137), (Value.slice A138 A138l A138c)] ∧
  ∃ w139, Sem.run Tryd.prog (Instr.storeAt 45 (Value.pointer (some ⟨Array.size (World.heap w17), 0, none⟩)) (Value.agg #[(Value.int .i64 n137), (Value.slice A138 A138l A138c)])) w136 = .ok () w139 ∧
  ∃ A140, ∃ A140l, ∃ A140c, World.cell? w139 (Addr.add ⟨Array.size (World.heap w17), 0, none⟩ 1) = some (Value.slice A140 A140l A140c) ∧
  ∃ I141 : Int → World → Prop, ∃ μ142 : Int → World → Nat, I141 0 w139 ∧
  ∀ t204_143 (j144 : Nat → Value) (w145 : World), I141 t204_143 w145 →
  (V.sel (decide (t204_143 < ((A140l : Nat) : Int)))
  (V.when (decide ((0 : Int) ≤ t204_143 ∧ (t204_143 : Int) < ((A140l : Nat) : Int))) (V.ptr A140 fun a146 =>
  ∃ n147, ∃ s148, ∃ n149, V.cellsC (fun a_ x_ => World.cell? w145 a_ = some x_) (Addr.add a146 ((Int.toNat t204_143) * 3)) [(Value.int .i64 n147), (Value.string s148), (Value.int .i64 n149)] ∧
  ∀ w150, w150 = (World.alloc w145 (.cells #[(Value.int .i64 0), (Value.string ByteArray.empty), (Value.int .i64 0)] 59)) →
  ∃ w151, Sem.run Tryd.prog (Instr.storeAt 59 (Value.pointer (some ⟨Array.size (World.heap w145), 0, none⟩)) (Value.agg #[(Value.int .i64 n147), (Value.string s148), (Value.int .i64 n149)])) w150 = .ok () w151 ∧
  ∃ s152, World.cell? w151 (Addr.add ⟨Array.size (World.heap w145), 0, none⟩ 1) = some (Value.string s152) ∧
  Calls Tryd.prog 25 #[(Value.pointer p5), (Value.string s152)] w151 fun e157 w158 =>
  ∃ n153, ∃ n154, ∃ s155, ∃ b156, e157 = Ending.returned (Value.tuple #[(Value.int .i64 n153), (Value.agg #[(Value.int .i64 n154), (Value.string s155)]), (Value.bool b156)]) ∧
  ∀ w159, w159 = (World.alloc w158 (.cells #[(Value.int .i64 0), (Value.string ByteArray.empty)] 39)) →
  ∃ w160, Sem.run Tryd.prog (Instr.storeAt 39 (Value.pointer (some ⟨Array.size (World.heap w158), 0, none⟩)) (Value.agg #[(Value.int .i64 n154), (Value.string s155)])) w159 = .ok () w160 ∧
  ∃ n161, World.cell? w160 (Addr.add ⟨Array.size (World.heap w145), 0, none⟩ 0) = some (Value.int .i64 n161) ∧
  Calls Tryd.prog 26 #[(Value.pointer p9), (Value.int .i64 n161)] w160 fun e165 w166 =>
  ∃ s162, ∃ s163, ∃ b164, e165 = Ending.returned (Value.tuple #[(Value.string s162), (Value.string s163), (Value.bool b164)]) ∧
  ∃ n167, World.cell? w166 (Addr.add ⟨Array.size (World.heap w145), 0, none⟩ 2) = some (Value.int .i64 n167) ∧
  Calls Tryd.prog 9 #[(Value.int .i64 n167)] w166 fun e169 w170 =>
  ∃ s168, e169 = Ending.returned (Value.string s168) ∧
  V.sel (!b156)
  (R (Ending.returned (Value.bool false)) w170)
  (V.sel (!b164)
  (R (Ending.returned (Value.bool false)) w170)
  (∃ n171, ∃ s172, V.cellsC (fun a_ x_ => World.cell? w170 a_ = some x_) ⟨Array.size (World.heap w158), 0, none⟩ [(Value.int .i64 n171), (Value.string s172)] ∧
  ∃ n173, World.cell? w170 (Addr.add ⟨Array.size (World.heap w145), 0, none⟩ 2) = some (Value.int .i64 n173) ∧
  V.sel (!(((n171 : Int) == n173) && ((ByteArray.toList s172 == ByteArray.toList s168) && true)))
  (R (Ending.returned (Value.bool false)) w170)
  (V.sel (!(ByteArray.toList s163 == ByteArray.toList s168))
  (R (Ending.returned (Value.bool false)) w170)
  (I141 (IntKind.wrap .i64 (t204_143 + 1)) w170 ∧ μ142 (IntKind.wrap .i64 (t204_143 + 1)) w170 < μ142 t204_143 w145))))))
  (∃ n174, World.cell? w145 (Addr.add ⟨Array.size (World.heap w24), 0, none⟩ 4) = some (Value.int .i64 n174) ∧
  Calls Tryd.prog 27 #[(Value.pointer p5), (Value.int .i64 n174)] w145 fun e179 w180 =>
  ∃ s175, ∃ n176, ∃ s177, ∃ b178, e179 = Ending.returned (Value.tuple #[(Value.string s175), (Value.agg #[(Value.int .i64 n176), (Value.string s177)]), (Value.bool b178)]) ∧
  ∀ w181, w181 = (World.alloc w180 (.cells #[(Value.int .i64 0), (Value.string ByteArray.empty)] 39)) →
  ∃ w182, Sem.run Tryd.prog (Instr.storeAt 39 (Value.pointer (some ⟨Array.size (World.heap w180), 0, none⟩)) (Value.agg #[(Value.int .i64 n176), (Value.string s177)])) w181 = .ok () w182 ∧
  ∃ n183, ∃ A184, ∃ A184l, ∃ A184c, V.cellsC (fun a_ x_ => World.cell? w182 a_ = some x_) ⟨Array.size (World.heap w17), 0, none⟩ [(Value.int .i64 n183), (Value.slice A184 A184l A184c)] ∧
  ∃ n185, World.cell? w182 (Addr.add ⟨Array.size (World.heap w24), 0, none⟩ 4) = some (Value.int .i64 n185) ∧
  Calls Tryd.prog 28 #[(Value.agg #[(Value.int .i64 n183), (Value.slice A184 A184l A184c)]), (Value.int .i64 n185)] w182 fun e187 w188 =>
  ∃ n186, e187 = Ending.returned (Value.int .i64 n186) ∧
  V.sel (decide (n186 < 0))
  (V.sel (!(ByteArray.toList s175 == ByteArray.toList ByteArray.empty))
  (R (Ending.returned (Value.bool false)) w188)
  (V.sel b178
  (R (Ending.returned (Value.bool false)) w188)
  (∃ n189, ∃ s190, V.cellsC (fun a_ x_ => World.cell? w188 a_ = some x_) ⟨Array.size (World.heap w180), 0, none⟩ [(Value.int .i64 n189), (Value.string s190)] ∧
  V.sel (!(((n189 : Int) == 0) && ((ByteArray.toList s190 == ByteArray.toList ByteArray.empty) && true)))
  (R (Ending.returned (Value.bool false)) w188)
  (I20 (IntKind.wrap .i64 (t67_22 + 1)) w188 ∧ μ21 (IntKind.wrap .i64 (t67_22 + 1)) w188 < μ21 t67_22 w24))))
  (I20 (IntKind.wrap .i64 (t67_22 + 1)) w188 ∧ μ21 (IntKind.wrap .i64 (t67_22 + 1)) w188 < μ21 t67_22 w24))))))
  (V.sel (n41 == 4)
  (∃ s191, World.cell? w40 (Addr.add ⟨Array.size (World.heap w24), 0, none⟩ 3) = some (Value.string s191) ∧
  Calls Tryd.prog 22 #[(Value.pointer p5), (Value.string s191)] w40 fun e194 w195 =>
  ∃ n192, ∃ n193, e194 = Ending.returned (Value.tuple #[(Value.int .i64 n192), (Value.int .i64 n193)]) ∧
  ∃ s196, World.cell? w195 (Addr.add ⟨Array.size (World.heap w24), 0, none⟩ 3) = some (Value.string s196) ∧
  Calls Tryd.prog 23 #[(Value.pointer p9), (Value.string s196)] w195 fun e199 w200 =>
  ∃ n197, ∃ n198, e199 = Ending.returned (Value.tuple #[(Value.int .i64 n197), (Value.int .i64 n198)]) ∧
  ∃ n201, ∃ A202, ∃ A202l, ∃ A202c, V.cellsC (fun a_ x_ => World.cell? w200 a_ = some x_) ⟨Array.size (World.heap w17), 0, none⟩ [(Value.int .i64 n201), (Value.slice A202 A202l A202c)] ∧
  ∃ s203, World.cell? w200 (Addr.add ⟨Array.size (World.heap w24), 0, none⟩ 3) = some (Value.string s203) ∧
  Calls Tryd.prog 24 #[(Value.agg #[(Value.int .i64 n201), (Value.slice A202 A202l A202c)]), (Value.string s203)] w200 fun e208 w209 =>
  ∃ n204, ∃ A205, ∃ A205l, ∃ A205c, ∃ n206, ∃ n207, e208 = Ending.returned (Value.tuple #[(Value.agg #[(Value.int .i64 n204), (Value.slice A205 A205l A205c)]), (Value.int .i64 n206), (Value.int .i64 n207)]) ∧
  ∃ w210, Sem.run Tryd.prog (Instr.storeAt 45 (Value.pointer (some ⟨Array.size (World.heap w36), 0, none⟩)) (Value.agg #[(Value.int .i64 n204), (Value.slice A205 A205l A205c)])) w209 = .ok () w210 ∧
  V.sel (n192 != n206)
  (R (Ending.returned (Value.bool false)) w210)
  (V.sel (n197 != n206)
  (R (Ending.returned (Value.bool false)) w210)
  (V.sel (n193 != n207)
  (R (Ending.returned (Value.bool false)) w210)
  (V.sel (n198 != n207)
  (R (Ending.returned (Value.bool false)) w210)
  (∃ n211, ∃ A212, ∃ A212l, ∃ A212c, V.cellsC (fun a_ x_ => World.cell? w210 a_ = some x_) ⟨Array.size (World.heap w36), 0, none⟩ [(Value.int .i64 n211), (Value.slice A212 A212l A212c)] ∧
  ∃ w213, Sem.run Tryd.prog (Instr.storeAt 45 (Value.pointer (some ⟨Array.size (World.heap w17), 0, none⟩)) (Value.agg #[(Value.int .i64 n211), (Value.slice A212 A212l A212c)])) w210 = .ok () w213 ∧
  ∃ A214, ∃ A214l, ∃ A214c, World.cell? w213 (Addr.add ⟨Array.size (World.heap w17), 0, none⟩ 1) = some (Value.slice A214 A214l A214c) ∧
  ∃ I215 : Int → World → Prop, ∃ μ216 : Int → World → Nat, I215 0 w213 ∧
  ∀ t204_217 (j218 : Nat → Value) (w219 : World), I215 t204_217 w219 →
  (V.sel (decide (t204_217 < ((A214l : Nat) : Int)))
  (V.when (decide ((0 : Int) ≤ t204_217 ∧ (t204_217 : Int) < ((A214l : Nat) : Int))) (V.ptr A214 fun a220 =>
  ∃ n221, ∃ s222, ∃ n223, V.cellsC (fun a_ x_ => World.cell? w219 a_ = some x_) (Addr.add a220 ((Int.toNat t204_217) * 3)) [(Value.int .i64 n221), (Value.string s222), (Value.int .i64 n223)] ∧
  ∀ w224, w224 = (World.alloc w219 (.cells #[(Value.int .i64 0), (Value.string ByteArray.empty), (Value.int .i64 0)] 59)) →
  ∃ w225, Sem.run Tryd.prog (Instr.storeAt 59 (Value.pointer (some ⟨Array.size (World.heap w219), 0, none⟩)) (Value.agg #[(Value.int .i64 n221), (Value.string s222), (Value.int .i64 n223)])) w224 = .ok () w225 ∧
  ∃ s226, World.cell? w225 (Addr.add ⟨Array.size (World.heap w219), 0, none⟩ 1) = some (Value.string s226) ∧
  Calls Tryd.prog 25 #[(Value.pointer p5), (Value.string s226)] w225 fun e231 w232 =>
  ∃ n227, ∃ n228, ∃ s229, ∃ b230, e231 = Ending.returned (Value.tuple #[(Value.int .i64 n227), (Value.agg #[(Value.int .i64 n228), (Value.string s229)]), (Value.bool b230)]) ∧
  ∀ w233, w233 = (World.alloc w232 (.cells #[(Value.int .i64 0), (Value.string ByteArray.empty)] 39)) →
  ∃ w234, Sem.run Tryd.prog (Instr.storeAt 39 (Value.pointer (some ⟨Array.size (World.heap w232), 0, none⟩)) (Value.agg #[(Value.int .i64 n228), (Value.string s229)])) w233 = .ok () w234 ∧
  ∃ n235, World.cell? w234 (Addr.add ⟨Array.size (World.heap w219), 0, none⟩ 0) = some (Value.int .i64 n235) ∧
  Calls Tryd.prog 26 #[(Value.pointer p9), (Value.int .i64 n235)] w234 fun e239 w240 =>
  ∃ s236, ∃ s237, ∃ b238, e239 = Ending.returned (Value.tuple #[(Value.string s236), (Value.string s237), (Value.bool b238)]) ∧
  ∃ n241, World.cell? w240 (Addr.add ⟨Array.size (World.heap w219), 0, none⟩ 2) = some (Value.int .i64 n241) ∧
  Calls Tryd.prog 9 #[(Value.int .i64 n241)] w240 fun e243 w244 =>
  ∃ s242, e243 = Ending.returned (Value.string s242) ∧
  V.sel (!b230)
  (R (Ending.returned (Value.bool false)) w244)
  (V.sel (!b238)
  (R (Ending.returned (Value.bool false)) w244)
  (∃ n245, ∃ s246, V.cellsC (fun a_ x_ => World.cell? w244 a_ = some x_) ⟨Array.size (World.heap w232), 0, none⟩ [(Value.int .i64 n245), (Value.string s246)] ∧
  ∃ n247, World.cell? w244 (Addr.add ⟨Array.size (World.heap w219), 0, none⟩ 2) = some (Value.int .i64 n247) ∧
  V.sel (!(((n245 : Int) == n247) && ((ByteArray.toList s246 == ByteArray.toList s242) && true)))
  (R (Ending.returned (Value.bool false)) w244)
  (V.sel (!(ByteArray.toList s237 == ByteArray.toList s242))
  (R (Ending.returned (Value.bool false)) w244)
  (I215 (IntKind.wrap .i64 (t204_217 + 1)) w244 ∧ μ216 (IntKind.wrap .i64 (t204_217 + 1)) w244 < μ216 t204_217 w219))))))
  (∃ n248, World.cell? w219 (Addr.add ⟨Array.size (World.heap w24), 0, none⟩ 4) = some (Value.int .i64 n248) ∧
  Calls Tryd.prog 27 #[(Value.pointer p5), (Value.int .i64 n248)] w219 fun e253 w254 =>
  ∃ s249, ∃ n250, ∃ s251, ∃ b252, e253 = Ending.returned (Value.tuple #[(Value.string s249), (Value.agg #[(Value.int .i64 n250), (Value.string s251)]), (Value.bool b252)]) ∧
  ∀ w255, w255 = (World.alloc w254 (.cells #[(Value.int .i64 0), (Value.string ByteArray.empty)] 39)) →
  ∃ w256, Sem.run Tryd.prog (Instr.storeAt 39 (Value.pointer (some ⟨Array.size (World.heap w254), 0, none⟩)) (Value.agg #[(Value.int .i64 n250), (Value.string s251)])) w255 = .ok () w256 ∧
  ∃ n257, ∃ A258, ∃ A258l, ∃ A258c, V.cellsC (fun a_ x_ => World.cell? w256 a_ = some x_) ⟨Array.size (World.heap w17), 0, none⟩ [(Value.int .i64 n257), (Value.slice A258 A258l A258c)] ∧
  ∃ n259, World.cell? w256 (Addr.add ⟨Array.size (World.heap w24), 0, none⟩ 4) = some (Value.int .i64 n259) ∧
  Calls Tryd.prog 28 #[(Value.agg #[(Value.int .i64 n257), (Value.slice A258 A258l A258c)]), (Value.int .i64 n259)] w256 fun e261 w262 =>
  ∃ n260, e261 = Ending.returned (Value.int .i64 n260) ∧
  V.sel (decide (n260 < 0))
  (V.sel (!(ByteArray.toList s249 == ByteArray.toList ByteArray.empty))
  (R (Ending.returned (Value.bool false)) w262)
  (V.sel b252
  (R (Ending.returned (Value.bool false)) w262)
  (∃ n263, ∃ s264, V.cellsC (fun a_ x_ => World.cell? w262 a_ = some x_) ⟨Array.size (World.heap w254), 0, none⟩ [(Value.int .i64 n263), (Value.string s264)] ∧
  V.sel (!(((n263 : Int) == 0) && ((ByteArray.toList s264 == ByteArray.toList ByteArray.empty) && true)))
  (R (Ending.returned (Value.bool false)) w262)
  (I20 (IntKind.wrap .i64 (t67_22 + 1)) w262 ∧ μ21 (IntKind.wrap .i64 (t67_22 + 1)) w262 < μ21 t67_22 w24))))
  (I20 (IntKind.wrap .i64 (t67_22 + 1)) w262 ∧ μ21 (IntKind.wrap .i64 (t67_22 + 1)) w262 < μ21 t67_22 w24))))))))
  (∃ n265, ∃ A266, ∃ A266l, ∃ A266c, V.cellsC (fun a_ x_ => World.cell? w40 a_ = some x_) ⟨Array.size (World.heap w36), 0, none⟩ [(Value.int .i64 n265), (Value.slice A266 A266l A266c)] ∧
  ∃ w267, Sem.run Tryd.prog (Instr.storeAt 45 (Value.pointer (some ⟨Array.size (World.heap w17), 0, none⟩)) (Value.agg #[(Value.int .i64 n265), (Value.slice A266 A266l A266c)])) w40 = .ok () w267 ∧
  ∃ A268, ∃ A268l, ∃ A268c, World.cell? w267 (Addr.add ⟨Array.size (World.heap w17), 0, none⟩ 1) = some (Value.slice A268 A268l A268c) ∧
  ∃ I269 : Int → World → Prop, ∃ μ270 : Int → World → Nat, I269 0 w267 ∧
  ∀ t204_271 (j272 : Nat → Value) (w273 : World), I269 t204_271 w273 →
  (V.sel (decide (t204_271 < ((A268l : Nat) : Int)))
  (V.when (decide ((0 : Int) ≤ t204_271 ∧ (t204_271 : Int) < ((A268l : Nat) : Int))) (V.ptr A268 fun a274 =>
  ∃ n275, ∃ s276, ∃ n277, V.cellsC (fun a_ x_ => World.cell? w273 a_ = some x_) (Addr.add a274 ((Int.toNat t204_271) * 3)) [(Value.int .i64 n275), (Value.string s276), (Value.int .i64 n277)] ∧
  ∀ w278, w278 = (World.alloc w273 (.cells #[(Value.int .i64 0), (Value.string ByteArray.empty), (Value.int .i64 0)] 59)) →
  ∃ w279, Sem.run Tryd.prog (Instr.storeAt 59 (Value.pointer (some ⟨Array.size (World.heap w273), 0, none⟩)) (Value.agg #[(Value.int .i64 n275), (Value.string s276), (Value.int .i64 n277)])) w278 = .ok () w279 ∧
  ∃ s280, World.cell? w279 (Addr.add ⟨Array.size (World.heap w273), 0, none⟩ 1) = some (Value.string s280) ∧
  Calls Tryd.prog 25 #[(Value.pointer p5), (Value.string s280)] w279 fun e285 w286 =>
  ∃ n281, ∃ n282, ∃ s283, ∃ b284, e285 = Ending.returned (Value.tuple #[(Value.int .i64 n281), (Value.agg #[(Value.int .i64 n282), (Value.string s283)]), (Value.bool b284)]) ∧
  ∀ w287, w287 = (World.alloc w286 (.cells #[(Value.int .i64 0), (Value.string ByteArray.empty)] 39)) →
  ∃ w288, Sem.run Tryd.prog (Instr.storeAt 39 (Value.pointer (some ⟨Array.size (World.heap w286), 0, none⟩)) (Value.agg #[(Value.int .i64 n282), (Value.string s283)])) w287 = .ok () w288 ∧
  ∃ n289, World.cell? w288 (Addr.add ⟨Array.size (World.heap w273), 0, none⟩ 0) = some (Value.int .i64 n289) ∧
  Calls Tryd.prog 26 #[(Value.pointer p9), (Value.int .i64 n289)] w288 fun e293 w294 =>
  ∃ s290, ∃ s291, ∃ b292, e293 = Ending.returned (Value.tuple #[(Value.string s290), (Value.string s291), (Value.bool b292)]) ∧
  ∃ n295, World.cell? w294 (Addr.add ⟨Array.size (World.heap w273), 0, none⟩ 2) = some (Value.int .i64 n295) ∧
  Calls Tryd.prog 9 #[(Value.int .i64 n295)] w294 fun e297 w298 =>
  ∃ s296, e297 = Ending.returned (Value.string s296) ∧
  V.sel (!b284)
  (R (Ending.returned (Value.bool false)) w298)
  (V.sel (!b292)
  (R (Ending.returned (Value.bool false)) w298)
  (∃ n299, ∃ s300, V.cellsC (fun a_ x_ => World.cell? w298 a_ = some x_) ⟨Array.size (World.heap w286), 0, none⟩ [(Value.int .i64 n299), (Value.string s300)] ∧
  ∃ n301, World.cell? w298 (Addr.add ⟨Array.size (World.heap w273), 0, none⟩ 2) = some (Value.int .i64 n301) ∧
  V.sel (!(((n299 : Int) == n301) && ((ByteArray.toList s300 == ByteArray.toList s296) && true)))
  (R (Ending.returned (Value.bool false)) w298)
  (V.sel (!(ByteArray.toList s291 == ByteArray.toList s296))
  (R (Ending.returned (Value.bool false)) w298)
  (I269 (IntKind.wrap .i64 (t204_271 + 1)) w298 ∧ μ270 (IntKind.wrap .i64 (t204_271 + 1)) w298 < μ270 t204_271 w273))))))
  (∃ n302, World.cell? w273 (Addr.add ⟨Array.size (World.heap w24), 0, none⟩ 4) = some (Value.int .i64 n302) ∧
  Calls Tryd.prog 27 #[(Value.pointer p5), (Value.int .i64 n302)] w273 fun e307 w308 =>
  ∃ s303, ∃ n304, ∃ s305, ∃ b306, e307 = Ending.returned (Value.tuple #[(Value.string s303), (Value.agg #[(Value.int .i64 n304), (Value.string s305)]), (Value.bool b306)]) ∧
  ∀ w309, w309 = (World.alloc w308 (.cells #[(Value.int .i64 0), (Value.string ByteArray.empty)] 39)) →
  ∃ w310, Sem.run Tryd.prog (Instr.storeAt 39 (Value.pointer (some ⟨Array.size (World.heap w308), 0, none⟩)) (Value.agg #[(Value.int .i64 n304), (Value.string s305)])) w309 = .ok () w310 ∧
  ∃ n311, ∃ A312, ∃ A312l, ∃ A312c, V.cellsC (fun a_ x_ => World.cell? w310 a_ = some x_) ⟨Array.size (World.heap w17), 0, none⟩ [(Value.int .i64 n311), (Value.slice A312 A312l A312c)] ∧
  ∃ n313, World.cell? w310 (Addr.add ⟨Array.size (World.heap w24), 0, none⟩ 4) = some (Value.int .i64 n313) ∧
  Calls Tryd.prog 28 #[(Value.agg #[(Value.int .i64 n311), (Value.slice A312 A312l A312c)]), (Value.int .i64 n313)] w310 fun e315 w316 =>
  ∃ n314, e315 = Ending.returned (Value.int .i64 n314) ∧
  V.sel (decide (n314 < 0))
  (V.sel (!(ByteArray.toList s303 == ByteArray.toList ByteArray.empty))
  (R (Ending.returned (Value.bool false)) w316)
  (V.sel b306
  (R (Ending.returned (Value.bool false)) w316)
  (∃ n317, ∃ s318, V.cellsC (fun a_ x_ => World.cell? w316 a_ = some x_) ⟨Array.size (World.heap w308), 0, none⟩ [(Value.int .i64 n317), (Value.string s318)] ∧
  V.sel (!(((n317 : Int) == 0) && ((ByteArray.toList s318 == ByteArray.toList ByteArray.empty) && true)))
  (R (Ending.returned (Value.bool false)) w316)
  (I20 (IntKind.wrap .i64 (t67_22 + 1)) w316 ∧ μ21 (IntKind.wrap .i64 (t67_22 + 1)) w316 < μ21 t67_22 w24))))
  (I20 (IntKind.wrap .i64 (t67_22 + 1)) w316 ∧ μ21 (IntKind.wrap .i64 (t67_22 + 1)) w316 < μ21 t67_22 w24))))))))
  (∃ S319 : World → Prop, S319 (World.drew w24) ∧
  ∃ n321, ∃ A322, ∃ A322l, ∃ A322c, V.cellsC (fun a_ x_ => ∀ w320, S319 w320 → World.cell? w320 a_ = some x_) ⟨Array.size (World.heap w17), 0, none⟩ [(Value.int .i64 n321), (Value.slice A322 A322l A322c)] ∧
  Calls Tryd.prog 30 #[(Value.pointer p5)] (World.drew w24) fun e324 w325 =>
  ∃ A323, ∃ A323l, ∃ A323c, e324 = Ending.returned (Value.slice A323 A323l A323c) ∧
  S319 w325 ∧
  Calls Tryd.prog 31 #[(Value.agg #[(Value.int .i64 n321), (Value.slice A322 A322l A322c)])] w325 fun e327 w328 =>
  ∃ A326, ∃ A326l, ∃ A326c, e327 = Ending.returned (Value.slice A326 A326l A326c) ∧
  S319 w328 ∧
  Calls Tryd.prog 29 #[(Value.slice A323 A323l A323c), (Value.slice A326 A326l A326c)] w328 fun e330 w331 =>
  ∃ b329, e330 = Ending.returned (Value.bool b329) ∧
  S319 w331 ∧
  V.sel b329
  (∃ n332, ∃ A333, ∃ A333l, ∃ A333c, V.cellsC (fun a_ x_ => ∀ w320, S319 w320 → World.cell? w320 a_ = some x_) ⟨Array.size (World.heap w17), 0, none⟩ [(Value.int .i64 n332), (Value.slice A333 A333l A333c)] ∧
  Calls Tryd.prog 32 #[(Value.pointer p9)] w331 fun e335 w336 =>
  ∃ A334, ∃ A334l, ∃ A334c, e335 = Ending.returned (Value.slice A334 A334l A334c) ∧
  S319 w336 ∧
  Calls Tryd.prog 31 #[(Value.agg #[(Value.int .i64 n332), (Value.slice A333 A333l A333c)])] w336 fun e338 w339 =>
  ∃ A337, ∃ A337l, ∃ A337c, e338 = Ending.returned (Value.slice A337 A337l A337c) ∧
  S319 w339 ∧
  Calls Tryd.prog 29 #[(Value.slice A334 A334l A334c), (Value.slice A337 A337l A337c)] w339 fun e341 w342 =>
  ∃ b340, e341 = Ending.returned (Value.bool b340) ∧
  S319 w342 ∧
  R (Ending.returned (Value.bool b340)) w342)
  (R (Ending.returned (Value.bool false)) w331))))))))) :
  Calls Tryd.prog 4 #[(Value.slice script_1 script_1l script_1c)] w R :=
  V.calls_of_R ⟨V.assoc [(0, [67]), (1, [204])], V.assocP [(47, V.line [0, 2, 1, 3, 4, 5, 6, 8, 7, 9, 10, 11, 12])], V.assocC [], V.assocS [], ⟨[], true⟩⟩ Tryd.func4 rfl (Eq.mp (by kernel_rfl) h)

theorem slots_New_berthlaw05_Thing__nf (most_1 : Int) (w : World) (R : Ending → World → Prop) (h :
  V.sel (decide (most_1 < 0))
  (R (Ending.returned (Value.tuple #[(Value.pointer none), (Value.int .i64 50)])) w)
  (V.sel (decide (most_1 > 65536))
  (R (Ending.returned (Value.tuple #[(Value.pointer none), (Value.int .i64 50)])) w)
  (∀ w2, w2 = (World.alloc w (.map #[] 0)) →
  ∀ w3, w3 = (World.alloc w2 (.cells #[(Value.int .i64 most_1), (Value.map (some (Array.size (World.heap w)))), (Value.slice none 0 0), (Value.int .i64 0)] 89)) →
  R (Ending.returned (Value.tuple #[(Value.pointer (some ⟨Array.size (World.heap w2), 0, none⟩)), (Value.int .i64 0)])) w3))) :
  Calls Tryd.prog 13 #[(Value.int .i64 most_1)] w R :=
  V.calls_of_R ⟨V.assoc [], V.assocP [], V.assocC [], V.assocS [], ⟨[], true⟩⟩ Tryd.func13 rfl (Eq.mp (by kernel_rfl) h)

theorem slots_New_string__nf (most_1 : Int) (w : World) (R : Ending → World → Prop) (h :
  V.sel (decide (most_1 < 0))
  (R (Ending.returned (Value.tuple #[(Value.pointer none), (Value.int .i64 50)])) w)
  (V.sel (decide (most_1 > 65536))
  (R (Ending.returned (Value.tuple #[(Value.pointer none), (Value.int .i64 50)])) w)
  (∀ w2, w2 = (World.alloc w (.map #[] 0)) →
  ∀ w3, w3 = (World.alloc w2 (.cells #[(Value.int .i64 most_1), (Value.map (some (Array.size (World.heap w)))), (Value.slice none 0 0), (Value.int .i64 0)] 92)) →
  R (Ending.returned (Value.tuple #[(Value.pointer (some ⟨Array.size (World.heap w2), 0, none⟩)), (Value.int .i64 0)])) w3))) :
  Calls Tryd.prog 14 #[(Value.int .i64 most_1)] w R :=
  V.calls_of_R ⟨V.assoc [], V.assocP [], V.assocC [], V.assocS [], ⟨[], true⟩⟩ Tryd.func14 rfl (Eq.mp (by kernel_rfl) h)

theorem slots_Table_berthlaw05_Thing__Put_nf (t_1 : Option Addr) (name_2 : ByteArray) (v_3 : Int) (v_4 : ByteArray) (w : World) (R : Ending → World → Prop) (h :
  ∀ w5, w5 = (World.alloc w (.cells #[(Value.int .i64 v_3), (Value.string v_4)] 39)) →
  Calls Tryd.prog 39 #[(Value.pointer t_1), (Value.string name_2)] w5 fun e8 w9 =>
  ∃ n6, ∃ n7, e8 = Ending.returned (Value.tuple #[(Value.int .i64 n6), (Value.int .i64 n7)]) ∧
  V.sel (n7 == 0)
  (R (Ending.returned (Value.tuple #[(Value.int .i64 0), (Value.int .i64 52)])) w9)
  (V.sel (n7 != 54)
  (R (Ending.returned (Value.tuple #[(Value.int .i64 0), (Value.int .i64 n7)])) w9)
  (V.ptr t_1 fun a10 =>
  ∃ m11, World.cell? w9 (Addr.add a10 1) = some (Value.map m11) ∧
  ∃ n12, Sem.run Tryd.prog (Builtin.len_ #[81] 3 #[(Value.map m11)]) (World.drew w9) = .ok (Value.int .i64 n12) (World.drew w9) ∧
  V.ptr t_1 fun a13 =>
  ∃ n14, World.cell? w9 (Addr.add a13 0) = some (Value.int .i64 n14) ∧
  V.sel (decide (n12 ≥ n14))
  (R (Ending.returned (Value.tuple #[(Value.int .i64 0), (Value.int .i64 53)])) (World.drew w9))
  (V.ptr t_1 fun a15 =>
  ∃ n16, World.cell? (World.drew w9) (Addr.add a15 3) = some (Value.int .i64 n16) ∧
  ∃ I17 : Int → World → Prop, ∃ μ18 : Int → World → Nat, I17 n16 (World.drew w9) ∧
  ∀ slot_19 (j20 : Nat → Value) (w21 : World), I17 slot_19 w21 →
  (V.ptr t_1 fun a22 =>
  ∃ A23, ∃ A23l, ∃ A23c, World.cell? w21 (Addr.add a22 2) = some (Value.slice A23 A23l A23c) ∧
  V.sel (decide (slot_19 < ((A23l : Nat) : Int)))
  (V.ptr t_1 fun a24 =>
  ∃ A25, ∃ A25l, ∃ A25c, World.cell? w21 (Addr.add a24 2) = some (Value.slice A25 A25l A25c) ∧
  V.when (decide ((0 : Int) ≤ slot_19 ∧ (slot_19 : Int) < ((A25l : Nat) : Int))) (V.ptr A25 fun a26 =>
  ∃ b27, World.cell? w21 (Addr.add (Addr.add a26 ((Int.toNat slot_19) * 4)) 0) = some (Value.bool b27) ∧
  V.sel b27
  (I17 (IntKind.wrap .i64 (slot_19 + 1)) w21 ∧ μ18 (IntKind.wrap .i64 (slot_19 + 1)) w21 < μ18 slot_19 w21)
  (V.ptr t_1 fun a28 =>
  ∃ A29, ∃ A29l, ∃ A29c, World.cell? w21 (Addr.add a28 2) = some (Value.slice A29 A29l A29c) ∧
  V.sel (slot_19 == ((A29l : Nat) : Int))
  (V.ptr t_1 fun a30 =>
  ∃ A31, ∃ A31l, ∃ A31c, World.cell? w21 (Addr.add a30 2) = some (Value.slice A31 A31l A31c) ∧
  ∀ w32, w32 = (World.alloc w21 (.cells #[(Value.bool false), (Value.string ByteArray.empty), (Value.int .i64 0), (Value.string ByteArray.empty)] 94)) →
  ∃ A33, ∃ A33l, ∃ A33c, ∃ w34, Sem.run Tryd.prog (Builtin.append_ #[87, 87] 87 #[(Value.slice A31 A31l A31c), (Value.slice (some ⟨Array.size (World.heap w21), 0, none⟩) 1 1)]) w32 = .ok (Value.slice A33 A33l A33c) w34 ∧
  V.ptr t_1 fun a35 =>
  ∃ w36, Sem.run Tryd.prog (Instr.storeAt 87 (Value.pointer (some (Addr.add a35 2))) (Value.slice A33 A33l A33c)) w34 = .ok () w36 ∧
  V.ptr t_1 fun a37 =>
  ∃ A38, ∃ A38l, ∃ A38c, World.cell? w36 (Addr.add a37 2) = some (Value.slice A38 A38l A38c) ∧
  ∃ n39, ∃ s40, V.cellsC (fun a_ x_ => World.cell? w36 a_ = some x_) ⟨Array.size (World.heap w), 0, none⟩ [(Value.int .i64 n39), (Value.string s40)] ∧
  V.when (decide ((0 : Int) ≤ slot_19 ∧ (slot_19 : Int) < ((A38l : Nat) : Int))) (V.ptr A38 fun a41 =>
  ∃ w42, Sem.run Tryd.prog (Instr.storeAt 94 (Value.pointer (some (Addr.add a41 ((Int.toNat slot_19) * 4)))) (Value.agg #[(Value.bool true), (Value.string name_2), (Value.int .i64 n39), (Value.string s40)])) (World.drew w36) = .ok () w42 ∧
  V.ptr t_1 fun a43 =>
  ∃ m44, World.cell? w42 (Addr.add a43 1) = some (Value.map m44) ∧
  ∃ w45, Sem.run Tryd.prog (Instr.mapUpdate 81 (Value.map m44) (Value.string name_2) (Value.int .i64 slot_19)) w42 = .ok () w45 ∧
  V.ptr t_1 fun a46 =>
  ∃ w47, Sem.run Tryd.prog (Instr.storeAt 3 (Value.pointer (some (Addr.add a46 3))) (Value.int .i64 (IntKind.wrap .i64 (slot_19 + 1)))) w45 = .ok () w47 ∧
  R (Ending.returned (Value.tuple #[(Value.int .i64 slot_19), (Value.int .i64 0)])) w47))
  (V.ptr t_1 fun a48 =>
  ∃ A49, ∃ A49l, ∃ A49c, World.cell? w21 (Addr.add a48 2) = some (Value.slice A49 A49l A49c) ∧
  ∃ n50, ∃ s51, V.cellsC (fun a_ x_ => World.cell? w21 a_ = some x_) ⟨Array.size (World.heap w), 0, none⟩ [(Value.int .i64 n50), (Value.string s51)] ∧
  V.when (decide ((0 : Int) ≤ slot_19 ∧ (slot_19 : Int) < ((A49l : Nat) : Int))) (V.ptr A49 fun a52 =>
  ∃ w53, Sem.run Tryd.prog (Instr.storeAt 94 (Value.pointer (some (Addr.add a52 ((Int.toNat slot_19) * 4)))) (Value.agg #[(Value.bool true), (Value.string name_2), (Value.int .i64 n50), (Value.string s51)])) (World.drew w21) = .ok () w53 ∧
  V.ptr t_1 fun a54 =>
  ∃ m55, World.cell? w53 (Addr.add a54 1) = some (Value.map m55) ∧
  ∃ w56, Sem.run Tryd.prog (Instr.mapUpdate 81 (Value.map m55) (Value.string name_2) (Value.int .i64 slot_19)) w53 = .ok () w56 ∧
  V.ptr t_1 fun a57 =>
  ∃ w58, Sem.run Tryd.prog (Instr.storeAt 3 (Value.pointer (some (Addr.add a57 3))) (Value.int .i64 (IntKind.wrap .i64 (slot_19 + 1)))) w56 = .ok () w58 ∧
  R (Ending.returned (Value.tuple #[(Value.int .i64 slot_19), (Value.int .i64 0)])) w58)))))
  (V.ptr t_1 fun a59 =>
  ∃ A60, ∃ A60l, ∃ A60c, World.cell? w21 (Addr.add a59 2) = some (Value.slice A60 A60l A60c) ∧
  V.sel (slot_19 == ((A60l : Nat) : Int))
  (V.ptr t_1 fun a61 =>
  ∃ A62, ∃ A62l, ∃ A62c, World.cell? w21 (Addr.add a61 2) = some (Value.slice A62 A62l A62c) ∧
  ∀ w63, w63 = (World.alloc w21 (.cells #[(Value.bool false), (Value.string ByteArray.empty), (Value.int .i64 0), (Value.string ByteArray.empty)] 94)) →
  ∃ A64, ∃ A64l, ∃ A64c, ∃ w65, Sem.run Tryd.prog (Builtin.append_ #[87, 87] 87 #[(Value.slice A62 A62l A62c), (Value.slice (some ⟨Array.size (World.heap w21), 0, none⟩) 1 1)]) w63 = .ok (Value.slice A64 A64l A64c) w65 ∧
  V.ptr t_1 fun a66 =>
  ∃ w67, Sem.run Tryd.prog (Instr.storeAt 87 (Value.pointer (some (Addr.add a66 2))) (Value.slice A64 A64l A64c)) w65 = .ok () w67 ∧
  V.ptr t_1 fun a68 =>
  ∃ A69, ∃ A69l, ∃ A69c, World.cell? w67 (Addr.add a68 2) = some (Value.slice A69 A69l A69c) ∧
  ∃ n70, ∃ s71, V.cellsC (fun a_ x_ => World.cell? w67 a_ = some x_) ⟨Array.size (World.heap w), 0, none⟩ [(Value.int .i64 n70), (Value.string s71)] ∧
  V.when (decide ((0 : Int) ≤ slot_19 ∧ (slot_19 : Int) < ((A69l : Nat) : Int))) (V.ptr A69 fun a72 =>
  ∃ w73, Sem.run Tryd.prog (Instr.storeAt 94 (Value.pointer (some (Addr.add a72 ((Int.toNat slot_19) * 4)))) (Value.agg #[(Value.bool true), (Value.string name_2), (Value.int .i64 n70), (Value.string s71)])) (World.drew w67) = .ok () w73 ∧
  V.ptr t_1 fun a74 =>
  ∃ m75, World.cell? w73 (Addr.add a74 1) = some (Value.map m75) ∧
  ∃ w76, Sem.run Tryd.prog (Instr.mapUpdate 81 (Value.map m75) (Value.string name_2) (Value.int .i64 slot_19)) w73 = .ok () w76 ∧
  V.ptr t_1 fun a77 =>
  ∃ w78, Sem.run Tryd.prog (Instr.storeAt 3 (Value.pointer (some (Addr.add a77 3))) (Value.int .i64 (IntKind.wrap .i64 (slot_19 + 1)))) w76 = .ok () w78 ∧
  R (Ending.returned (Value.tuple #[(Value.int .i64 slot_19), (Value.int .i64 0)])) w78))
  (V.ptr t_1 fun a79 =>
  ∃ A80, ∃ A80l, ∃ A80c, World.cell? w21 (Addr.add a79 2) = some (Value.slice A80 A80l A80c) ∧
  ∃ n81, ∃ s82, V.cellsC (fun a_ x_ => World.cell? w21 a_ = some x_) ⟨Array.size (World.heap w), 0, none⟩ [(Value.int .i64 n81), (Value.string s82)] ∧
  V.when (decide ((0 : Int) ≤ slot_19 ∧ (slot_19 : Int) < ((A80l : Nat) : Int))) (V.ptr A80 fun a83 =>
  ∃ w84, Sem.run Tryd.prog (Instr.storeAt 94 (Value.pointer (some (Addr.add a83 ((Int.toNat slot_19) * 4)))) (Value.agg #[(Value.bool true), (Value.string name_2), (Value.int .i64 n81), (Value.string s82)])) (World.drew w21) = .ok () w84 ∧
  V.ptr t_1 fun a85 =>
  ∃ m86, World.cell? w84 (Addr.add a85 1) = some (Value.map m86) ∧
  ∃ w87, Sem.run Tryd.prog (Instr.mapUpdate 81 (Value.map m86) (Value.string name_2) (Value.int .i64 slot_19)) w84 = .ok () w87 ∧
  V.ptr t_1 fun a88 =>
  ∃ w89, Sem.run Tryd.prog (Instr.storeAt 3 (Value.pointer (some (Addr.add a88 3))) (Value.int .i64 (IntKind.wrap .i64 (slot_19 + 1)))) w87 = .ok () w89 ∧
  R (Ending.returned (Value.tuple #[(Value.int .i64 slot_19), (Value.int .i64 0)])) w89)))))))) :
  Calls Tryd.prog 16 #[(Value.pointer t_1), (Value.string name_2), (Value.agg #[(Value.int .i64 v_3), (Value.string v_4)])] w R :=
  V.calls_of_R ⟨V.assoc [(0, [10])], V.assocP [(6, V.line [0, 1, 2, 3, 4, 5, 6, 7, 8, 9, 10]), (13, V.line [0, 1, 2, 3, 4, 5, 6, 7, 8, 9])], V.assocC [], V.assocS [], ⟨[], true⟩⟩ Tryd.func16 rfl (Eq.mp (by kernel_rfl) h)

theorem slots_Table_string__Put_nf (t_1 : Option Addr) (name_2 : ByteArray) (v_3 : ByteArray) (w : World) (R : Ending → World → Prop) (h :
  Calls Tryd.prog 40 #[(Value.pointer t_1), (Value.string name_2)] w fun e6 w7 =>
  ∃ n4, ∃ n5, e6 = Ending.returned (Value.tuple #[(Value.int .i64 n4), (Value.int .i64 n5)]) ∧
  V.sel (n5 == 0)
  (R (Ending.returned (Value.tuple #[(Value.int .i64 0), (Value.int .i64 52)])) w7)
  (V.sel (n5 != 54)
  (R (Ending.returned (Value.tuple #[(Value.int .i64 0), (Value.int .i64 n5)])) w7)
  (V.ptr t_1 fun a8 =>
  ∃ m9, World.cell? w7 (Addr.add a8 1) = some (Value.map m9) ∧
  ∃ n10, Sem.run Tryd.prog (Builtin.len_ #[81] 3 #[(Value.map m9)]) (World.drew w7) = .ok (Value.int .i64 n10) (World.drew w7) ∧
  V.ptr t_1 fun a11 =>
  ∃ n12, World.cell? w7 (Addr.add a11 0) = some (Value.int .i64 n12) ∧
  V.sel (decide (n10 ≥ n12))
  (R (Ending.returned (Value.tuple #[(Value.int .i64 0), (Value.int .i64 53)])) (World.drew w7))
  (V.ptr t_1 fun a13 =>
  ∃ n14, World.cell? (World.drew w7) (Addr.add a13 3) = some (Value.int .i64 n14) ∧
  ∃ I15 : Int → World → Prop, ∃ μ16 : Int → World → Nat, I15 n14 (World.drew w7) ∧
  ∀ slot_17 (j18 : Nat → Value) (w19 : World), I15 slot_17 w19 →
  (V.ptr t_1 fun a20 =>
  ∃ A21, ∃ A21l, ∃ A21c, World.cell? w19 (Addr.add a20 2) = some (Value.slice A21 A21l A21c) ∧
  V.sel (decide (slot_17 < ((A21l : Nat) : Int)))
  (V.ptr t_1 fun a22 =>
  ∃ A23, ∃ A23l, ∃ A23c, World.cell? w19 (Addr.add a22 2) = some (Value.slice A23 A23l A23c) ∧
  V.when (decide ((0 : Int) ≤ slot_17 ∧ (slot_17 : Int) < ((A23l : Nat) : Int))) (V.ptr A23 fun a24 =>
  ∃ b25, World.cell? w19 (Addr.add (Addr.add a24 ((Int.toNat slot_17) * 3)) 0) = some (Value.bool b25) ∧
  V.sel b25
  (I15 (IntKind.wrap .i64 (slot_17 + 1)) w19 ∧ μ16 (IntKind.wrap .i64 (slot_17 + 1)) w19 < μ16 slot_17 w19)
  (V.ptr t_1 fun a26 =>
  ∃ A27, ∃ A27l, ∃ A27c, World.cell? w19 (Addr.add a26 2) = some (Value.slice A27 A27l A27c) ∧
  V.sel (slot_17 == ((A27l : Nat) : Int))
  (V.ptr t_1 fun a28 =>
  ∃ A29, ∃ A29l, ∃ A29c, World.cell? w19 (Addr.add a28 2) = some (Value.slice A29 A29l A29c) ∧
  ∀ w30, w30 = (World.alloc w19 (.cells #[(Value.bool false), (Value.string ByteArray.empty), (Value.string ByteArray.empty)] 96)) →
  ∃ A31, ∃ A31l, ∃ A31c, ∃ w32, Sem.run Tryd.prog (Builtin.append_ #[90, 90] 90 #[(Value.slice A29 A29l A29c), (Value.slice (some ⟨Array.size (World.heap w19), 0, none⟩) 1 1)]) w30 = .ok (Value.slice A31 A31l A31c) w32 ∧
  V.ptr t_1 fun a33 =>
  ∃ w34, Sem.run Tryd.prog (Instr.storeAt 90 (Value.pointer (some (Addr.add a33 2))) (Value.slice A31 A31l A31c)) w32 = .ok () w34 ∧
  V.ptr t_1 fun a35 =>
  ∃ A36, ∃ A36l, ∃ A36c, World.cell? w34 (Addr.add a35 2) = some (Value.slice A36 A36l A36c) ∧
  V.when (decide ((0 : Int) ≤ slot_17 ∧ (slot_17 : Int) < ((A36l : Nat) : Int))) (V.ptr A36 fun a37 =>
  ∃ w38, Sem.run Tryd.prog (Instr.storeAt 96 (Value.pointer (some (Addr.add a37 ((Int.toNat slot_17) * 3)))) (Value.agg #[(Value.bool true), (Value.string name_2), (Value.string v_3)])) w34 = .ok () w38 ∧
  V.ptr t_1 fun a39 =>
  ∃ m40, World.cell? w38 (Addr.add a39 1) = some (Value.map m40) ∧
  ∃ w41, Sem.run Tryd.prog (Instr.mapUpdate 81 (Value.map m40) (Value.string name_2) (Value.int .i64 slot_17)) w38 = .ok () w41 ∧
  V.ptr t_1 fun a42 =>
  ∃ w43, Sem.run Tryd.prog (Instr.storeAt 3 (Value.pointer (some (Addr.add a42 3))) (Value.int .i64 (IntKind.wrap .i64 (slot_17 + 1)))) w41 = .ok () w43 ∧
  R (Ending.returned (Value.tuple #[(Value.int .i64 slot_17), (Value.int .i64 0)])) w43))
  (V.ptr t_1 fun a44 =>
  ∃ A45, ∃ A45l, ∃ A45c, World.cell? w19 (Addr.add a44 2) = some (Value.slice A45 A45l A45c) ∧
  V.when (decide ((0 : Int) ≤ slot_17 ∧ (slot_17 : Int) < ((A45l : Nat) : Int))) (V.ptr A45 fun a46 =>
  ∃ w47, Sem.run Tryd.prog (Instr.storeAt 96 (Value.pointer (some (Addr.add a46 ((Int.toNat slot_17) * 3)))) (Value.agg #[(Value.bool true), (Value.string name_2), (Value.string v_3)])) w19 = .ok () w47 ∧
  V.ptr t_1 fun a48 =>
  ∃ m49, World.cell? w47 (Addr.add a48 1) = some (Value.map m49) ∧
  ∃ w50, Sem.run Tryd.prog (Instr.mapUpdate 81 (Value.map m49) (Value.string name_2) (Value.int .i64 slot_17)) w47 = .ok () w50 ∧
  V.ptr t_1 fun a51 =>
  ∃ w52, Sem.run Tryd.prog (Instr.storeAt 3 (Value.pointer (some (Addr.add a51 3))) (Value.int .i64 (IntKind.wrap .i64 (slot_17 + 1)))) w50 = .ok () w52 ∧
  R (Ending.returned (Value.tuple #[(Value.int .i64 slot_17), (Value.int .i64 0)])) w52)))))
  (V.ptr t_1 fun a53 =>
  ∃ A54, ∃ A54l, ∃ A54c, World.cell? w19 (Addr.add a53 2) = some (Value.slice A54 A54l A54c) ∧
  V.sel (slot_17 == ((A54l : Nat) : Int))
  (V.ptr t_1 fun a55 =>
  ∃ A56, ∃ A56l, ∃ A56c, World.cell? w19 (Addr.add a55 2) = some (Value.slice A56 A56l A56c) ∧
  ∀ w57, w57 = (World.alloc w19 (.cells #[(Value.bool false), (Value.string ByteArray.empty), (Value.string ByteArray.empty)] 96)) →
  ∃ A58, ∃ A58l, ∃ A58c, ∃ w59, Sem.run Tryd.prog (Builtin.append_ #[90, 90] 90 #[(Value.slice A56 A56l A56c), (Value.slice (some ⟨Array.size (World.heap w19), 0, none⟩) 1 1)]) w57 = .ok (Value.slice A58 A58l A58c) w59 ∧
  V.ptr t_1 fun a60 =>
  ∃ w61, Sem.run Tryd.prog (Instr.storeAt 90 (Value.pointer (some (Addr.add a60 2))) (Value.slice A58 A58l A58c)) w59 = .ok () w61 ∧
  V.ptr t_1 fun a62 =>
  ∃ A63, ∃ A63l, ∃ A63c, World.cell? w61 (Addr.add a62 2) = some (Value.slice A63 A63l A63c) ∧
  V.when (decide ((0 : Int) ≤ slot_17 ∧ (slot_17 : Int) < ((A63l : Nat) : Int))) (V.ptr A63 fun a64 =>
  ∃ w65, Sem.run Tryd.prog (Instr.storeAt 96 (Value.pointer (some (Addr.add a64 ((Int.toNat slot_17) * 3)))) (Value.agg #[(Value.bool true), (Value.string name_2), (Value.string v_3)])) w61 = .ok () w65 ∧
  V.ptr t_1 fun a66 =>
  ∃ m67, World.cell? w65 (Addr.add a66 1) = some (Value.map m67) ∧
  ∃ w68, Sem.run Tryd.prog (Instr.mapUpdate 81 (Value.map m67) (Value.string name_2) (Value.int .i64 slot_17)) w65 = .ok () w68 ∧
  V.ptr t_1 fun a69 =>
  ∃ w70, Sem.run Tryd.prog (Instr.storeAt 3 (Value.pointer (some (Addr.add a69 3))) (Value.int .i64 (IntKind.wrap .i64 (slot_17 + 1)))) w68 = .ok () w70 ∧
  R (Ending.returned (Value.tuple #[(Value.int .i64 slot_17), (Value.int .i64 0)])) w70))
  (V.ptr t_1 fun a71 =>
  ∃ A72, ∃ A72l, ∃ A72c, World.cell? w19 (Addr.add a71 2) = some (Value.slice A72 A72l A72c) ∧
  V.when (decide ((0 : Int) ≤ slot_17 ∧ (slot_17 : Int) < ((A72l : Nat) : Int))) (V.ptr A72 fun a73 =>
  ∃ w74, Sem.run Tryd.prog (Instr.storeAt 96 (Value.pointer (some (Addr.add a73 ((Int.toNat slot_17) * 3)))) (Value.agg #[(Value.bool true), (Value.string name_2), (Value.string v_3)])) w19 = .ok () w74 ∧
  V.ptr t_1 fun a75 =>
  ∃ m76, World.cell? w74 (Addr.add a75 1) = some (Value.map m76) ∧
  ∃ w77, Sem.run Tryd.prog (Instr.mapUpdate 81 (Value.map m76) (Value.string name_2) (Value.int .i64 slot_17)) w74 = .ok () w77 ∧
  V.ptr t_1 fun a78 =>
  ∃ w79, Sem.run Tryd.prog (Instr.storeAt 3 (Value.pointer (some (Addr.add a78 3))) (Value.int .i64 (IntKind.wrap .i64 (slot_17 + 1)))) w77 = .ok () w79 ∧
  R (Ending.returned (Value.tuple #[(Value.int .i64 slot_17), (Value.int .i64 0)])) w79)))))))) :
  Calls Tryd.prog 17 #[(Value.pointer t_1), (Value.string name_2), (Value.string v_3)] w R :=
  V.calls_of_R ⟨V.assoc [(0, [10])], V.assocP [(6, V.line [0, 1, 2, 3, 4, 5, 6, 7, 8, 9, 10])], V.assocC [], V.assocS [], ⟨[], true⟩⟩ Tryd.func17 rfl (Eq.mp (by kernel_rfl) h)

theorem slots_Table_berthlaw05_Thing__Set_nf (t_1 : Option Addr) (name_2 : ByteArray) (v_3 : Int) (v_4 : ByteArray) (w : World) (R : Ending → World → Prop) (h :
  ∀ w5, w5 = (World.alloc w (.cells #[(Value.int .i64 v_3), (Value.string v_4)] 39)) →
  Calls Tryd.prog 39 #[(Value.pointer t_1), (Value.string name_2)] w5 fun e8 w9 =>
  ∃ n6, ∃ n7, e8 = Ending.returned (Value.tuple #[(Value.int .i64 n6), (Value.int .i64 n7)]) ∧
  V.sel (n7 == 0)
  (V.ptr t_1 fun a10 =>
  ∃ A11, ∃ A11l, ∃ A11c, World.cell? w9 (Addr.add a10 2) = some (Value.slice A11 A11l A11c) ∧
  ∃ n12, ∃ s13, V.cellsC (fun a_ x_ => World.cell? w9 a_ = some x_) ⟨Array.size (World.heap w), 0, none⟩ [(Value.int .i64 n12), (Value.string s13)] ∧
  V.when (decide ((0 : Int) ≤ n6 ∧ (n6 : Int) < ((A11l : Nat) : Int))) (V.ptr A11 fun a14 =>
  ∃ w15, Sem.run Tryd.prog (Instr.storeAt 39 (Value.pointer (some (Addr.add (Addr.add a14 ((Int.toNat n6) * 4)) 2))) (Value.agg #[(Value.int .i64 n12), (Value.string s13)])) (World.drew w9) = .ok () w15 ∧
  R (Ending.returned (Value.int .i64 n7)) w15))
  (R (Ending.returned (Value.int .i64 n7)) w9)) :
  Calls Tryd.prog 19 #[(Value.pointer t_1), (Value.string name_2), (Value.agg #[(Value.int .i64 v_3), (Value.string v_4)])] w R :=
  V.calls_of_R ⟨V.assoc [], V.assocP [(3, V.line [0, 1, 2, 3, 4, 5, 6, 7, 8])], V.assocC [], V.assocS [], ⟨[], true⟩⟩ Tryd.func19 rfl (Eq.mp (by kernel_rfl) h)

theorem slots_Table_string__Set_nf (t_1 : Option Addr) (name_2 : ByteArray) (v_3 : ByteArray) (w : World) (R : Ending → World → Prop) (h :
  Calls Tryd.prog 40 #[(Value.pointer t_1), (Value.string name_2)] w fun e6 w7 =>
  ∃ n4, ∃ n5, e6 = Ending.returned (Value.tuple #[(Value.int .i64 n4), (Value.int .i64 n5)]) ∧
  V.sel (n5 == 0)
  (V.ptr t_1 fun a8 =>
  ∃ A9, ∃ A9l, ∃ A9c, World.cell? w7 (Addr.add a8 2) = some (Value.slice A9 A9l A9c) ∧
  V.when (decide ((0 : Int) ≤ n4 ∧ (n4 : Int) < ((A9l : Nat) : Int))) (V.ptr A9 fun a10 =>
  ∃ w11, Sem.run Tryd.prog (Instr.storeAt 9 (Value.pointer (some (Addr.add (Addr.add a10 ((Int.toNat n4) * 3)) 2))) (Value.string v_3)) w7 = .ok () w11 ∧
  R (Ending.returned (Value.int .i64 n5)) w11))
  (R (Ending.returned (Value.int .i64 n5)) w7)) :
  Calls Tryd.prog 20 #[(Value.pointer t_1), (Value.string name_2), (Value.string v_3)] w R :=
  V.calls_of_R ⟨V.assoc [], V.assocP [], V.assocC [], V.assocS [], ⟨[], true⟩⟩ Tryd.func20 rfl (Eq.mp (by kernel_rfl) h)

theorem slots_Table_berthlaw05_Thing__Drop_nf (t_1 : Option Addr) (name_2 : ByteArray) (w : World) (R : Ending → World → Prop) (h :
  Calls Tryd.prog 39 #[(Value.pointer t_1), (Value.string name_2)] w fun e5 w6 =>
  ∃ n3, ∃ n4, e5 = Ending.returned (Value.tuple #[(Value.int .i64 n3), (Value.int .i64 n4)]) ∧
  V.sel (n4 != 0)
  (R (Ending.returned (Value.tuple #[(Value.int .i64 0), (Value.int .i64 n4)])) w6)
  (V.ptr t_1 fun a7 =>
  ∃ m8, World.cell? w6 (Addr.add a7 1) = some (Value.map m8) ∧
  ∃ w9, Sem.run Tryd.prog (Builtin.delete_ #[81, 9] 0 #[(Value.map m8), (Value.string name_2)]) w6 = .ok undef w9 ∧
  V.ptr t_1 fun a10 =>
  ∃ A11, ∃ A11l, ∃ A11c, World.cell? w9 (Addr.add a10 2) = some (Value.slice A11 A11l A11c) ∧
  V.when (decide ((0 : Int) ≤ n3 ∧ (n3 : Int) < ((A11l : Nat) : Int))) (V.ptr A11 fun a12 =>
  ∃ w13, Sem.run Tryd.prog (Instr.storeAt 94 (Value.pointer (some (Addr.add a12 ((Int.toNat n3) * 4)))) (Value.agg #[(Value.bool false), (Value.string ByteArray.empty), (Value.int .i64 0), (Value.string ByteArray.empty)])) w9 = .ok () w13 ∧
  ∃ I14 : World → Prop, ∃ μ15 : World → Nat, I14 w13 ∧
  ∀ (j16 : Nat → Value) (w17 : World), I14 w17 →
  (V.ptr t_1 fun a18 =>
  ∃ A19, ∃ A19l, ∃ A19c, World.cell? w17 (Addr.add a18 2) = some (Value.slice A19 A19l A19c) ∧
  V.sel (decide (((A19l : Nat) : Int) > 0))
  (V.ptr t_1 fun a20 =>
  ∃ A21, ∃ A21l, ∃ A21c, World.cell? w17 (Addr.add a20 2) = some (Value.slice A21 A21l A21c) ∧
  V.ptr t_1 fun a22 =>
  ∃ A23, ∃ A23l, ∃ A23c, World.cell? w17 (Addr.add a22 2) = some (Value.slice A23 A23l A23c) ∧
  V.when (decide ((0 : Int) ≤ (IntKind.wrap .i64 (((A23l : Nat) : Int) - 1)) ∧ ((IntKind.wrap .i64 (((A23l : Nat) : Int) - 1)) : Int) < ((A21l : Nat) : Int))) (V.ptr A21 fun a24 =>
  ∃ b25, World.cell? w17 (Addr.add (Addr.add a24 ((Int.toNat (IntKind.wrap .i64 (((A23l : Nat) : Int) - 1))) * 4)) 0) = some (Value.bool b25) ∧
  V.sel (!b25)
  (V.ptr t_1 fun a26 =>
  ∃ A27, ∃ A27l, ∃ A27c, World.cell? (World.drew w17) (Addr.add a26 2) = some (Value.slice A27 A27l A27c) ∧
  V.ptr t_1 fun a28 =>
  ∃ A29, ∃ A29l, ∃ A29c, World.cell? (World.drew w17) (Addr.add a28 2) = some (Value.slice A29 A29l A29c) ∧
  V.when (decide ((0 : Int) ≤ (IntKind.wrap .i64 (((A29l : Nat) : Int) - 1)) ∧ ((IntKind.wrap .i64 (((A29l : Nat) : Int) - 1)) : Int) ≤ ((A27c : Nat) : Int))) (V.ptr t_1 fun a30 =>
  ∃ w31, Sem.run Tryd.prog (Instr.storeAt 87 (Value.pointer (some (Addr.add a30 2))) (Value.slice (V.cut A27 A27c 0 4) ((Int.toNat (IntKind.wrap .i64 (((A29l : Nat) : Int) - 1))) - 0) (A27c - 0))) (World.drew (World.drew w17)) = .ok () w31 ∧
  I14 w31 ∧ μ15 w31 < μ15 w17))
  (V.ptr t_1 fun a32 =>
  ∃ n33, World.cell? (World.drew w17) (Addr.add a32 3) = some (Value.int .i64 n33) ∧
  V.ptr t_1 fun a34 =>
  ∃ w35, Sem.run Tryd.prog (Instr.storeAt 3 (Value.pointer (some (Addr.add a34 3))) (Value.int .i64 (if n3 < n33 then n3 else n33))) (World.drew w17) = .ok () w35 ∧
  R (Ending.returned (Value.tuple #[(Value.int .i64 n3), (Value.int .i64 0)])) w35)))
  (V.ptr t_1 fun a36 =>
  ∃ n37, World.cell? (World.drew w17) (Addr.add a36 3) = some (Value.int .i64 n37) ∧
  V.ptr t_1 fun a38 =>
  ∃ w39, Sem.run Tryd.prog (Instr.storeAt 3 (Value.pointer (some (Addr.add a38 3))) (Value.int .i64 (if n3 < n37 then n3 else n37))) (World.drew w17) = .ok () w39 ∧
  R (Ending.returned (Value.tuple #[(Value.int .i64 n3), (Value.int .i64 0)])) w39))))) :
  Calls Tryd.prog 22 #[(Value.pointer t_1), (Value.string name_2)] w R :=
  V.calls_of_R ⟨V.assoc [(0, [])], V.assocP [(6, V.line [0, 1, 2, 3, 4, 5, 6, 7, 8, 9, 10, 11, 12, 13, 14, 15, 16, 17, 18, 19, 20, 21]), (7, V.line [0, 1, 2, 3, 4, 5, 6, 7, 8, 9, 10, 11, 12, 13, 14])], V.assocC [], V.assocS [], ⟨[], true⟩⟩ Tryd.func22 rfl (Eq.mp (by kernel_rfl) h)

theorem slots_Table_string__Drop_nf (t_1 : Option Addr) (name_2 : ByteArray) (w : World) (R : Ending → World → Prop) (h :
  Calls Tryd.prog 40 #[(Value.pointer t_1), (Value.string name_2)] w fun e5 w6 =>
  ∃ n3, ∃ n4, e5 = Ending.returned (Value.tuple #[(Value.int .i64 n3), (Value.int .i64 n4)]) ∧
  V.sel (n4 != 0)
  (R (Ending.returned (Value.tuple #[(Value.int .i64 0), (Value.int .i64 n4)])) w6)
  (V.ptr t_1 fun a7 =>
  ∃ m8, World.cell? w6 (Addr.add a7 1) = some (Value.map m8) ∧
  ∃ w9, Sem.run Tryd.prog (Builtin.delete_ #[81, 9] 0 #[(Value.map m8), (Value.string name_2)]) w6 = .ok undef w9 ∧
  V.ptr t_1 fun a10 =>
  ∃ A11, ∃ A11l, ∃ A11c, World.cell? w9 (Addr.add a10 2) = some (Value.slice A11 A11l A11c) ∧
  V.when (decide ((0 : Int) ≤ n3 ∧ (n3 : Int) < ((A11l : Nat) : Int))) (V.ptr A11 fun a12 =>
  ∃ w13, Sem.run Tryd.prog (Instr.storeAt 96 (Value.pointer (some (Addr.add a12 ((Int.toNat n3) * 3)))) (Value.agg #[(Value.bool false), (Value.string ByteArray.empty), (Value.string ByteArray.empty)])) w9 = .ok () w13 ∧
  ∃ I14 : World → Prop, ∃ μ15 : World → Nat, I14 w13 ∧
  ∀ (j16 : Nat → Value) (w17 : World), I14 w17 →
  (V.ptr t_1 fun a18 =>
  ∃ A19, ∃ A19l, ∃ A19c, World.cell? w17 (Addr.add a18 2) = some (Value.slice A19 A19l A19c) ∧
  V.sel (decide (((A19l : Nat) : Int) > 0))
  (V.ptr t_1 fun a20 =>
  ∃ A21, ∃ A21l, ∃ A21c, World.cell? w17 (Addr.add a20 2) = some (Value.slice A21 A21l A21c) ∧
  V.ptr t_1 fun a22 =>
  ∃ A23, ∃ A23l, ∃ A23c, World.cell? w17 (Addr.add a22 2) = some (Value.slice A23 A23l A23c) ∧
  V.when (decide ((0 : Int) ≤ (IntKind.wrap .i64 (((A23l : Nat) : Int) - 1)) ∧ ((IntKind.wrap .i64 (((A23l : Nat) : Int) - 1)) : Int) < ((A21l : Nat) : Int))) (V.ptr A21 fun a24 =>
  ∃ b25, World.cell? w17 (Addr.add (Addr.add a24 ((Int.toNat (IntKind.wrap .i64 (((A23l : Nat) : Int) - 1))) * 3)) 0) = some (Value.bool b25) ∧
  V.sel (!b25)
  (V.ptr t_1 fun a26 =>
  ∃ A27, ∃ A27l, ∃ A27c, World.cell? (World.drew w17) (Addr.add a26 2) = some (Value.slice A27 A27l A27c) ∧
  V.ptr t_1 fun a28 =>
  ∃ A29, ∃ A29l, ∃ A29c, World.cell? (World.drew w17) (Addr.add a28 2) = some (Value.slice A29 A29l A29c) ∧
  V.when (decide ((0 : Int) ≤ (IntKind.wrap .i64 (((A29l : Nat) : Int) - 1)) ∧ ((IntKind.wrap .i64 (((A29l : Nat) : Int) - 1)) : Int) ≤ ((A27c : Nat) : Int))) (V.ptr t_1 fun a30 =>
  ∃ w31, Sem.run Tryd.prog (Instr.storeAt 90 (Value.pointer (some (Addr.add a30 2))) (Value.slice (V.cut A27 A27c 0 3) ((Int.toNat (IntKind.wrap .i64 (((A29l : Nat) : Int) - 1))) - 0) (A27c - 0))) (World.drew (World.drew w17)) = .ok () w31 ∧
  I14 w31 ∧ μ15 w31 < μ15 w17))
  (V.ptr t_1 fun a32 =>
  ∃ n33, World.cell? (World.drew w17) (Addr.add a32 3) = some (Value.int .i64 n33) ∧
  V.ptr t_1 fun a34 =>
  ∃ w35, Sem.run Tryd.prog (Instr.storeAt 3 (Value.pointer (some (Addr.add a34 3))) (Value.int .i64 (if n3 < n33 then n3 else n33))) (World.drew w17) = .ok () w35 ∧
  R (Ending.returned (Value.tuple #[(Value.int .i64 n3), (Value.int .i64 0)])) w35)))
  (V.ptr t_1 fun a36 =>
  ∃ n37, World.cell? (World.drew w17) (Addr.add a36 3) = some (Value.int .i64 n37) ∧
  V.ptr t_1 fun a38 =>
  ∃ w39, Sem.run Tryd.prog (Instr.storeAt 3 (Value.pointer (some (Addr.add a38 3))) (Value.int .i64 (if n3 < n37 then n3 else n37))) (World.drew w17) = .ok () w39 ∧
  R (Ending.returned (Value.tuple #[(Value.int .i64 n3), (Value.int .i64 0)])) w39))))) :
  Calls Tryd.prog 23 #[(Value.pointer t_1), (Value.string name_2)] w R :=
  V.calls_of_R ⟨V.assoc [(0, [])], V.assocP [(6, V.line [0, 1, 2, 3, 4, 5, 6, 7, 8, 9, 10, 11, 12, 13, 14, 15, 16, 17, 18, 19, 20, 21]), (7, V.line [0, 1, 2, 3, 4, 5, 6, 7, 8, 9, 10, 11, 12, 13, 14])], V.assocC [], V.assocS [], ⟨[], true⟩⟩ Tryd.func23 rfl (Eq.mp (by kernel_rfl) h)

theorem slots_Table_berthlaw05_Thing__Find_nf (t_1 : Option Addr) (name_2 : ByteArray) (w : World) (R : Ending → World → Prop) (h :
  ∀ w3, w3 = (World.alloc w (.cells #[(Value.int .i64 0), (Value.string ByteArray.empty)] 39)) →
  ∀ w4, w4 = (World.alloc w3 (.cells #[(Value.int .i64 0), (Value.string ByteArray.empty)] 39)) →
  Calls Tryd.prog 39 #[(Value.pointer t_1), (Value.string name_2)] w4 fun e7 w8 =>
  ∃ n5, ∃ n6, e7 = Ending.returned (Value.tuple #[(Value.int .i64 n5), (Value.int .i64 n6)]) ∧
  V.sel (n6 != 0)
  (∃ S9 : World → Prop, S9 (World.drew w8) ∧
  ∃ n11, ∃ s12, V.cellsC (fun a_ x_ => ∀ w10, S9 w10 → World.cell? w10 a_ = some x_) ⟨Array.size (World.heap w3), 0, none⟩ [(Value.int .i64 n11), (Value.string s12)] ∧
  ∃ w13, Sem.run Tryd.prog (Instr.storeAt 39 (Value.pointer (some ⟨Array.size (World.heap w), 0, none⟩)) (Value.agg #[(Value.int .i64 n11), (Value.string s12)])) (World.drew w8) = .ok () w13 ∧
  S9 w13 ∧
  ∃ n14, ∃ s15, V.cellsC (fun a_ x_ => World.cell? w13 a_ = some x_) ⟨Array.size (World.heap w), 0, none⟩ [(Value.int .i64 n14), (Value.string s15)] ∧
  R (Ending.returned (Value.tuple #[(Value.int .i64 0), (Value.agg #[(Value.int .i64 n14), (Value.string s15)]), (Value.bool false)])) w13)
  (∃ S16 : World → Prop, S16 (World.drew w8) ∧
  V.ptr t_1 fun a18 =>
  ∃ A19, ∃ A19l, ∃ A19c, (∀ w17, S16 w17 → World.cell? w17 (Addr.add a18 2) = some (Value.slice A19 A19l A19c)) ∧
  V.when (decide ((0 : Int) ≤ n5 ∧ (n5 : Int) < ((A19l : Nat) : Int))) (V.ptr A19 fun a20 =>
  ∃ n21, ∃ s22, V.cellsC (fun a_ x_ => ∀ w17, S16 w17 → World.cell? w17 a_ = some x_) (Addr.add (Addr.add a20 ((Int.toNat n5) * 4)) 2) [(Value.int .i64 n21), (Value.string s22)] ∧
  ∃ w23, Sem.run Tryd.prog (Instr.storeAt 39 (Value.pointer (some ⟨Array.size (World.heap w), 0, none⟩)) (Value.agg #[(Value.int .i64 n21), (Value.string s22)])) (World.drew w8) = .ok () w23 ∧
  S16 w23 ∧
  ∃ n24, ∃ s25, V.cellsC (fun a_ x_ => World.cell? w23 a_ = some x_) ⟨Array.size (World.heap w), 0, none⟩ [(Value.int .i64 n24), (Value.string s25)] ∧
  R (Ending.returned (Value.tuple #[(Value.int .i64 n5), (Value.agg #[(Value.int .i64 n24), (Value.string s25)]), (Value.bool true)])) w23))) :
  Calls Tryd.prog 25 #[(Value.pointer t_1), (Value.string name_2)] w R :=
  V.calls_of_R ⟨V.assoc [], V.assocP [(4, V.line [0, 1, 2, 3]), (5, V.line [0, 1, 2, 3, 4, 5, 6, 7, 8, 9, 10, 11])], V.assocC [], V.assocS [], ⟨[], true⟩⟩ Tryd.func25 rfl (Eq.mp (by kernel_rfl) h)

theorem slots_Table_string__At_nf (t_1 : Option Addr) (slot_2 : Int) (w : World) (R : Ending → World → Prop) (h :
  V.sel (decide (slot_2 < 0))
  (R (Ending.returned (Value.tuple #[(Value.string ByteArray.empty), (Value.string ByteArray.empty), (Value.bool false)])) w)
  (Calls Tryd.prog 43 #[(Value.pointer t_1)] w fun e4 w5 =>
  ∃ n3, e4 = Ending.returned (Value.int .i64 n3) ∧
  V.sel (decide (slot_2 ≥ n3))
  (R (Ending.returned (Value.tuple #[(Value.string ByteArray.empty), (Value.string ByteArray.empty), (Value.bool false)])) w5)
  (V.ptr t_1 fun a6 =>
  ∃ A7, ∃ A7l, ∃ A7c, World.cell? w5 (Addr.add a6 2) = some (Value.slice A7 A7l A7c) ∧
  V.when (decide ((0 : Int) ≤ slot_2 ∧ (slot_2 : Int) < ((A7l : Nat) : Int))) (V.ptr A7 fun a8 =>
  ∃ b9, ∃ s10, ∃ s11, V.cellsC (fun a_ x_ => World.cell? w5 a_ = some x_) (Addr.add a8 ((Int.toNat slot_2) * 3)) [(Value.bool b9), (Value.string s10), (Value.string s11)] ∧
  ∀ w12, w12 = (World.alloc w5 (.cells #[(Value.bool false), (Value.string ByteArray.empty), (Value.string ByteArray.empty)] 96)) →
  ∃ w13, Sem.run Tryd.prog (Instr.storeAt 96 (Value.pointer (some ⟨Array.size (World.heap w5), 0, none⟩)) (Value.agg #[(Value.bool b9), (Value.string s10), (Value.string s11)])) w12 = .ok () w13 ∧
  ∃ s14, World.cell? w13 (Addr.add ⟨Array.size (World.heap w5), 0, none⟩ 1) = some (Value.string s14) ∧
  ∃ s15, World.cell? w13 (Addr.add ⟨Array.size (World.heap w5), 0, none⟩ 2) = some (Value.string s15) ∧
  ∃ b16, World.cell? w13 (Addr.add ⟨Array.size (World.heap w5), 0, none⟩ 0) = some (Value.bool b16) ∧
  R (Ending.returned (Value.tuple #[(Value.string s14), (Value.string s15), (Value.bool b16)])) (World.drew w13))))) :
  Calls Tryd.prog 26 #[(Value.pointer t_1), (Value.int .i64 slot_2)] w R :=
  V.calls_of_R ⟨V.assoc [], V.assocP [(5, V.line [0, 1, 2, 3, 4, 5, 6, 7, 8])], V.assocC [], V.assocS [], ⟨[], true⟩⟩ Tryd.func26 rfl (Eq.mp (by kernel_rfl) h)

theorem slots_Table_berthlaw05_Thing__At_nf (t_1 : Option Addr) (slot_2 : Int) (w : World) (R : Ending → World → Prop) (h :
  ∀ w3, w3 = (World.alloc w (.cells #[(Value.int .i64 0), (Value.string ByteArray.empty)] 39)) →
  V.sel (decide (slot_2 < 0))
  (∀ w4, w4 = (World.alloc w3 (.cells #[(Value.int .i64 0), (Value.string ByteArray.empty)] 39)) →
  ∃ S5 : World → Prop, S5 (World.drew w4) ∧
  ∃ n7, ∃ s8, V.cellsC (fun a_ x_ => ∀ w6, S5 w6 → World.cell? w6 a_ = some x_) ⟨Array.size (World.heap w3), 0, none⟩ [(Value.int .i64 n7), (Value.string s8)] ∧
  ∃ w9, Sem.run Tryd.prog (Instr.storeAt 39 (Value.pointer (some ⟨Array.size (World.heap w), 0, none⟩)) (Value.agg #[(Value.int .i64 n7), (Value.string s8)])) (World.drew w4) = .ok () w9 ∧
  S5 w9 ∧
  ∃ n10, ∃ s11, V.cellsC (fun a_ x_ => World.cell? w9 a_ = some x_) ⟨Array.size (World.heap w), 0, none⟩ [(Value.int .i64 n10), (Value.string s11)] ∧
  R (Ending.returned (Value.tuple #[(Value.string ByteArray.empty), (Value.agg #[(Value.int .i64 n10), (Value.string s11)]), (Value.bool false)])) w9)
  (Calls Tryd.prog 44 #[(Value.pointer t_1)] w3 fun e13 w14 =>
  ∃ n12, e13 = Ending.returned (Value.int .i64 n12) ∧
  V.sel (decide (slot_2 ≥ n12))
  (∀ w15, w15 = (World.alloc w14 (.cells #[(Value.int .i64 0), (Value.string ByteArray.empty)] 39)) →
  ∃ S16 : World → Prop, S16 (World.drew w15) ∧
  ∃ n18, ∃ s19, V.cellsC (fun a_ x_ => ∀ w17, S16 w17 → World.cell? w17 a_ = some x_) ⟨Array.size (World.heap w14), 0, none⟩ [(Value.int .i64 n18), (Value.string s19)] ∧
  ∃ w20, Sem.run Tryd.prog (Instr.storeAt 39 (Value.pointer (some ⟨Array.size (World.heap w), 0, none⟩)) (Value.agg #[(Value.int .i64 n18), (Value.string s19)])) (World.drew w15) = .ok () w20 ∧
  S16 w20 ∧
  ∃ n21, ∃ s22, V.cellsC (fun a_ x_ => World.cell? w20 a_ = some x_) ⟨Array.size (World.heap w), 0, none⟩ [(Value.int .i64 n21), (Value.string s22)] ∧
  R (Ending.returned (Value.tuple #[(Value.string ByteArray.empty), (Value.agg #[(Value.int .i64 n21), (Value.string s22)]), (Value.bool false)])) w20)
  (V.ptr t_1 fun a23 =>
  ∃ A24, ∃ A24l, ∃ A24c, World.cell? w14 (Addr.add a23 2) = some (Value.slice A24 A24l A24c) ∧
  V.when (decide ((0 : Int) ≤ slot_2 ∧ (slot_2 : Int) < ((A24l : Nat) : Int))) (V.ptr A24 fun a25 =>
  ∃ b26, ∃ s27, ∃ n28, ∃ s29, V.cellsC (fun a_ x_ => World.cell? w14 a_ = some x_) (Addr.add a25 ((Int.toNat slot_2) * 4)) [(Value.bool b26), (Value.string s27), (Value.int .i64 n28), (Value.string s29)] ∧
  ∀ w30, w30 = (World.alloc w14 (.cells #[(Value.bool false), (Value.string ByteArray.empty), (Value.int .i64 0), (Value.string ByteArray.empty)] 94)) →
  ∃ w31, Sem.run Tryd.prog (Instr.storeAt 94 (Value.pointer (some ⟨Array.size (World.heap w14), 0, none⟩)) (Value.agg #[(Value.bool b26), (Value.string s27), (Value.int .i64 n28), (Value.string s29)])) w30 = .ok () w31 ∧
  ∃ S32 : World → Prop, S32 (World.drew w31) ∧
  ∃ s34, (∀ w33, S32 w33 → World.cell? w33 (Addr.add ⟨Array.size (World.heap w14), 0, none⟩ 1) = some (Value.string s34)) ∧
  ∃ n35, ∃ s36, V.cellsC (fun a_ x_ => ∀ w33, S32 w33 → World.cell? w33 a_ = some x_) (Addr.add ⟨Array.size (World.heap w14), 0, none⟩ 2) [(Value.int .i64 n35), (Value.string s36)] ∧
  ∃ b37, (∀ w33, S32 w33 → World.cell? w33 (Addr.add ⟨Array.size (World.heap w14), 0, none⟩ 0) = some (Value.bool b37)) ∧
  ∃ w38, Sem.run Tryd.prog (Instr.storeAt 39 (Value.pointer (some ⟨Array.size (World.heap w), 0, none⟩)) (Value.agg #[(Value.int .i64 n35), (Value.string s36)])) (World.drew w31) = .ok () w38 ∧
  S32 w38 ∧
  ∃ n39, ∃ s40, V.cellsC (fun a_ x_ => World.cell? w38 a_ = some x_) ⟨Array.size (World.heap w), 0, none⟩ [(Value.int .i64 n39), (Value.string s40)] ∧
  R (Ending.returned (Value.tuple #[(Value.string s34), (Value.agg #[(Value.int .i64 n39), (Value.string s40)]), (Value.bool b37)])) w38)))) :
  Calls Tryd.prog 27 #[(Value.pointer t_1), (Value.int .i64 slot_2)] w R :=
  V.calls_of_R ⟨V.assoc [], V.assocP [(3, V.line [0, 1, 2, 3]), (5, V.line [0, 1, 2, 3, 4, 5, 6, 7, 8])], V.assocC [], V.assocS [], ⟨[], true⟩⟩ Tryd.func27 rfl (Eq.mp (by kernel_rfl) h)

theorem slots_Table_berthlaw05_Thing__Names_nf (t_1 : Option Addr) (w : World) (R : Ending → World → Prop) (h :
  Calls Tryd.prog 45 #[(Value.pointer t_1)] w fun e3 w4 =>
  ∃ n2, e3 = Ending.returned (Value.int .i64 n2) ∧
  V.when (decide ((0 : Int) ≤ 0 ∧ (0 : Int) ≤ n2 ∧ (n2 : Int) ≤ 281474976710656 ∧ (16 : Int) * n2 ≤ 281474976710656)) (∀ w5, w5 = (World.alloc w4 (.cells ⟨V.rep (Int.toNat n2) [(Value.string ByteArray.empty)]⟩ 9)) →
  ∀ w6, w6 = (World.alloc w5 (.cells #[(Value.slice none 0 0)] 68)) →
  ∃ w7, Sem.run Tryd.prog (Instr.storeAt 68 (Value.pointer (some ⟨Array.size (World.heap w5), 0, none⟩)) (Value.slice (some ⟨Array.size (World.heap w4), 0, none⟩) 0 (Int.toNat n2))) w6 = .ok () w7 ∧
  Calls Tryd.prog 46 #[(Value.pointer t_1)] w7 fun e9 w10 =>
  ∃ f8, ∃ f8a, ∃ f8c, e9 = Ending.returned (Value.func (.func f8) f8a f8c) ∧
  V.when (V.hasB Tryd.prog f8 && true) (∀ (Rc11 : Loop) (l12 : Nat) (w13 : World), l12 = Array.size (World.heap w10) + 1 → w13 = World.alloc (World.alloc w10 (.deferred (some []))) (.loop { Rc11 with state := .ready, pending := none }) →
  (∀ y11_16 y12_17 (W14 : World) (R15 : Ending → World → Prop), V.LoopSt W14 l12 Rc11 .ready none →
  (V.LoopSt W14 l12 Rc11 .ready none ∧
  ∃ A18, ∃ A18l, ∃ A18c, World.cell? (V.setLoop W14 l12 Rc11 .busy none) ⟨Array.size (World.heap w5), 0, none⟩ = some (Value.slice A18 A18l A18c) ∧
  ∀ w19, w19 = (World.alloc (V.setLoop W14 l12 Rc11 .busy none) (.cells #[(Value.string y12_17)] 9)) →
  ∃ A20, ∃ A20l, ∃ A20c, ∃ w21, Sem.run Tryd.prog (Builtin.append_ #[68, 68] 68 #[(Value.slice A18 A18l A18c), (Value.slice (some ⟨Array.size (World.heap (V.setLoop W14 l12 Rc11 .busy none)), 0, none⟩) 1 1)]) w19 = .ok (Value.slice A20 A20l A20c) w21 ∧
  ∃ w22, Sem.run Tryd.prog (Instr.storeAt 68 (Value.pointer (some ⟨Array.size (World.heap w5), 0, none⟩)) (Value.slice A20 A20l A20c)) w21 = .ok () w22 ∧
  V.LoopSt w22 l12 Rc11 .busy none ∧ R15 (Ending.returned (Value.bool true)) (V.setLoop w22 l12 Rc11 .ready none)) →
  V.Yield Tryd.prog l12 [(Value.int .i64 y11_16), (Value.string y12_17)] W14 R15) →
  Calls Tryd.prog f8 ⟨Array.toList f8a ++ [(Value.func (.yield l12) #[] #[])] ++ Array.toList f8c⟩ w13 fun e23 w25 => (∃ v24, e23 = Ending.returned v24) ∧
  ((V.LoopSt w25 l12 Rc11 .ready none ∧
  ∃ A26, ∃ A26l, ∃ A26c, World.cell? (V.setLoop w25 l12 Rc11 .exhausted none) ⟨Array.size (World.heap w5), 0, none⟩ = some (Value.slice A26 A26l A26c) ∧
  Calls Tryd.prog 47 #[(Value.slice A26 A26l A26c)] (V.setLoop w25 l12 Rc11 .exhausted none) fun e27 w28 =>
  e27 = Ending.returned undef ∧
  ∃ A29, ∃ A29l, ∃ A29c, World.cell? w28 ⟨Array.size (World.heap w5), 0, none⟩ = some (Value.slice A29 A29l A29c) ∧
  V.closeR (Array.size (World.heap w10) :: []) w28 fun w30 =>
  R (Ending.returned (Value.slice A29 A29l A29c)) w30) ∨
  False)))) :
  Calls Tryd.prog 30 #[(Value.pointer t_1)] w R :=
  V.calls_of_R ⟨V.assoc [], V.assocP [], V.assocC [], V.assocS [(0, [V.Sh.one (.int .i64), V.Sh.one .str])], ⟨[], true⟩⟩ Tryd.func30 rfl (Eq.mp (by kernel_rfl) h)

theorem slots_Table_string__Names_nf (t_1 : Option Addr) (w : World) (R : Ending → World → Prop) (h :
  Calls Tryd.prog 48 #[(Value.pointer t_1)] w fun e3 w4 =>
  ∃ n2, e3 = Ending.returned (Value.int .i64 n2) ∧
  V.when (decide ((0 : Int) ≤ 0 ∧ (0 : Int) ≤ n2 ∧ (n2 : Int) ≤ 281474976710656 ∧ (16 : Int) * n2 ≤ 281474976710656)) (∀ w5, w5 = (World.alloc w4 (.cells ⟨V.rep (Int.toNat n2) [(Value.string ByteArray.empty)]⟩ 9)) →
  ∀ w6, w6 = (World.alloc w5 (.cells #[(Value.slice none 0 0)] 68)) →
  ∃ w7, Sem.run Tryd.prog (Instr.storeAt 68 (Value.pointer (some ⟨Array.size (World.heap w5), 0, none⟩)) (Value.slice (some ⟨Array.size (World.heap w4), 0, none⟩) 0 (Int.toNat n2))) w6 = .ok () w7 ∧
  Calls Tryd.prog 49 #[(Value.pointer t_1)] w7 fun e9 w10 =>
  ∃ f8, ∃ f8a, ∃ f8c, e9 = Ending.returned (Value.func (.func f8) f8a f8c) ∧
  V.when (V.hasB Tryd.prog f8 && true) (∀ (Rc11 : Loop) (l12 : Nat) (w13 : World), l12 = Array.size (World.heap w10) + 1 → w13 = World.alloc (World.alloc w10 (.deferred (some []))) (.loop { Rc11 with state := .ready, pending := none }) →
  (∀ y11_16 y12_17 (W14 : World) (R15 : Ending → World → Prop), V.LoopSt W14 l12 Rc11 .ready none →
  (V.LoopSt W14 l12 Rc11 .ready none ∧
  ∃ A18, ∃ A18l, ∃ A18c, World.cell? (V.setLoop W14 l12 Rc11 .busy none) ⟨Array.size (World.heap w5), 0, none⟩ = some (Value.slice A18 A18l A18c) ∧
  ∀ w19, w19 = (World.alloc (V.setLoop W14 l12 Rc11 .busy none) (.cells #[(Value.string y12_17)] 9)) →
  ∃ A20, ∃ A20l, ∃ A20c, ∃ w21, Sem.run Tryd.prog (Builtin.append_ #[68, 68] 68 #[(Value.slice A18 A18l A18c), (Value.slice (some ⟨Array.size (World.heap (V.setLoop W14 l12 Rc11 .busy none)), 0, none⟩) 1 1)]) w19 = .ok (Value.slice A20 A20l A20c) w21 ∧
  ∃ w22, Sem.run Tryd.prog (Instr.storeAt 68 (Value.pointer (some ⟨Array.size (World.heap w5), 0, none⟩)) (Value.slice A20 A20l A20c)) w21 = .ok () w22 ∧
  V.LoopSt w22 l12 Rc11 .busy none ∧ R15 (Ending.returned (Value.bool true)) (V.setLoop w22 l12 Rc11 .ready none)) →
  V.Yield Tryd.prog l12 [(Value.int .i64 y11_16), (Value.string y12_17)] W14 R15) →
  Calls Tryd.prog f8 ⟨Array.toList f8a ++ [(Value.func (.yield l12) #[] #[])] ++ Array.toList f8c⟩ w13 fun e23 w25 => (∃ v24, e23 = Ending.returned v24) ∧
  ((V.LoopSt w25 l12 Rc11 .ready none ∧
  ∃ A26, ∃ A26l, ∃ A26c, World.cell? (V.setLoop w25 l12 Rc11 .exhausted none) ⟨Array.size (World.heap w5), 0, none⟩ = some (Value.slice A26 A26l A26c) ∧
  Calls Tryd.prog 47 #[(Value.slice A26 A26l A26c)] (V.setLoop w25 l12 Rc11 .exhausted none) fun e27 w28 =>
  e27 = Ending.returned undef ∧
  ∃ A29, ∃ A29l, ∃ A29c, World.cell? w28 ⟨Array.size (World.heap w5), 0, none⟩ = some (Value.slice A29 A29l A29c) ∧
  V.closeR (Array.size (World.heap w10) :: []) w28 fun w30 =>
  R (Ending.returned (Value.slice A29 A29l A29c)) w30) ∨
  False)))) :
  Calls Tryd.prog 32 #[(Value.pointer t_1)] w R :=
  V.calls_of_R ⟨V.assoc [], V.assocP [], V.assocC [], V.assocS [(0, [V.Sh.one (.int .i64), V.Sh.one .str])], ⟨[], true⟩⟩ Tryd.func32 rfl (Eq.mp (by kernel_rfl) h)

theorem slots_Table_berthlaw05_Thing__look_nf (t_1 : Option Addr) (name_2 : ByteArray) (w : World) (R : Ending → World → Prop) (h :
  V.sel (Option.isNone t_1)
  (R (Ending.returned (Value.tuple #[(Value.int .i64 0), (Value.int .i64 1)])) w)
  (V.sel (decide (((ByteArray.size name_2 : Nat) : Int) < 1))
  (R (Ending.returned (Value.tuple #[(Value.int .i64 0), (Value.int .i64 51)])) w)
  (V.sel (decide (((ByteArray.size name_2 : Nat) : Int) > 63))
  (R (Ending.returned (Value.tuple #[(Value.int .i64 0), (Value.int .i64 51)])) w)
  (V.ptr t_1 fun a3 =>
  ∃ m4, World.cell? w (Addr.add a3 1) = some (Value.map m4) ∧
  ∃ n5, ∃ b6, ∃ w7, Sem.run Tryd.prog (Instr.lookup 81 (Value.map m4) (Value.string name_2) true) w = .ok (Value.tuple #[(Value.int .i64 n5), (Value.bool b6)]) w7 ∧
  V.sel (!b6)
  (R (Ending.returned (Value.tuple #[(Value.int .i64 0), (Value.int .i64 54)])) w7)
  (R (Ending.returned (Value.tuple #[(Value.int .i64 n5), (Value.int .i64 0)])) w7))))) :
  Calls Tryd.prog 39 #[(Value.pointer t_1), (Value.string name_2)] w R :=
  V.calls_of_R ⟨V.assoc [], V.assocP [], V.assocC [], V.assocS [], ⟨[], true⟩⟩ Tryd.func39 rfl (Eq.mp (by kernel_rfl) h)

theorem slots_Table_string__look_nf (t_1 : Option Addr) (name_2 : ByteArray) (w : World) (R : Ending → World → Prop) (h :
  V.sel (Option.isNone t_1)
  (R (Ending.returned (Value.tuple #[(Value.int .i64 0), (Value.int .i64 1)])) w)
  (V.sel (decide (((ByteArray.size name_2 : Nat) : Int) < 1))
  (R (Ending.returned (Value.tuple #[(Value.int .i64 0), (Value.int .i64 51)])) w)
  (V.sel (decide (((ByteArray.size name_2 : Nat) : Int) > 63))
  (R (Ending.returned (Value.tuple #[(Value.int .i64 0), (Value.int .i64 51)])) w)
  (V.ptr t_1 fun a3 =>
  ∃ m4, World.cell? w (Addr.add a3 1) = some (Value.map m4) ∧
  ∃ n5, ∃ b6, ∃ w7, Sem.run Tryd.prog (Instr.lookup 81 (Value.map m4) (Value.string name_2) true) w = .ok (Value.tuple #[(Value.int .i64 n5), (Value.bool b6)]) w7 ∧
  V.sel (!b6)
  (R (Ending.returned (Value.tuple #[(Value.int .i64 0), (Value.int .i64 54)])) w7)
  (R (Ending.returned (Value.tuple #[(Value.int .i64 n5), (Value.int .i64 0)])) w7))))) :
  Calls Tryd.prog 40 #[(Value.pointer t_1), (Value.string name_2)] w R :=
  V.calls_of_R ⟨V.assoc [], V.assocP [], V.assocC [], V.assocS [], ⟨[], true⟩⟩ Tryd.func40 rfl (Eq.mp (by kernel_rfl) h)

theorem slots_Table_string__Span_nf (t_1 : Option Addr) (w : World) (R : Ending → World → Prop) (h :
  V.sel (Option.isNone t_1)
  (R (Ending.returned (Value.int .i64 0)) w)
  (V.ptr t_1 fun a2 =>
  ∃ A3, ∃ A3l, ∃ A3c, World.cell? w (Addr.add a2 2) = some (Value.slice A3 A3l A3c) ∧
  R (Ending.returned (Value.int .i64 ((A3l : Nat) : Int))) w)) :
  Calls Tryd.prog 43 #[(Value.pointer t_1)] w R :=
  V.calls_of_R ⟨V.assoc [], V.assocP [], V.assocC [], V.assocS [], ⟨[], true⟩⟩ Tryd.func43 rfl (Eq.mp (by kernel_rfl) h)

theorem slots_Table_berthlaw05_Thing__Span_nf (t_1 : Option Addr) (w : World) (R : Ending → World → Prop) (h :
  V.sel (Option.isNone t_1)
  (R (Ending.returned (Value.int .i64 0)) w)
  (V.ptr t_1 fun a2 =>
  ∃ A3, ∃ A3l, ∃ A3c, World.cell? w (Addr.add a2 2) = some (Value.slice A3 A3l A3c) ∧
  R (Ending.returned (Value.int .i64 ((A3l : Nat) : Int))) w)) :
  Calls Tryd.prog 44 #[(Value.pointer t_1)] w R :=
  V.calls_of_R ⟨V.assoc [], V.assocP [], V.assocC [], V.assocS [], ⟨[], true⟩⟩ Tryd.func44 rfl (Eq.mp (by kernel_rfl) h)

theorem slots_Table_berthlaw05_Thing__Len_nf (t_1 : Option Addr) (w : World) (R : Ending → World → Prop) (h :
  V.sel (Option.isNone t_1)
  (R (Ending.returned (Value.int .i64 0)) w)
  (V.ptr t_1 fun a2 =>
  ∃ m3, World.cell? w (Addr.add a2 1) = some (Value.map m3) ∧
  ∃ n4, ∃ w5, Sem.run Tryd.prog (Builtin.len_ #[81] 3 #[(Value.map m3)]) w = .ok (Value.int .i64 n4) w5 ∧
  R (Ending.returned (Value.int .i64 n4)) w5)) :
  Calls Tryd.prog 45 #[(Value.pointer t_1)] w R :=
  V.calls_of_R ⟨V.assoc [], V.assocP [], V.assocC [], V.assocS [], ⟨[], true⟩⟩ Tryd.func45 rfl (Eq.mp (by kernel_rfl) h)

theorem slots_Table_berthlaw05_Thing__All_nf (t_1 : Option Addr) (w : World) (R : Ending → World → Prop) (h :
  ∀ w2, w2 = (World.alloc w (.cells #[(Value.slice none 0 0)] 87)) →
  V.sel (!(Option.isNone t_1))
  (V.ptr t_1 fun a3 =>
  ∃ A4, ∃ A4l, ∃ A4c, World.cell? w2 (Addr.add a3 2) = some (Value.slice A4 A4l A4c) ∧
  Calls Tryd.prog 60 #[(Value.slice A4 A4l A4c)] w2 fun e6 w7 =>
  ∃ A5, ∃ A5l, ∃ A5c, e6 = Ending.returned (Value.slice A5 A5l A5c) ∧
  ∃ w8, Sem.run Tryd.prog (Instr.storeAt 87 (Value.pointer (some ⟨Array.size (World.heap w), 0, none⟩)) (Value.slice A5 A5l A5c)) w7 = .ok () w8 ∧
  R (Ending.returned (Value.func (.func 61) #[] #[(Value.pointer (some ⟨Array.size (World.heap w), 0, none⟩))])) w8)
  (R (Ending.returned (Value.func (.func 61) #[] #[(Value.pointer (some ⟨Array.size (World.heap w), 0, none⟩))])) w2)) :
  Calls Tryd.prog 46 #[(Value.pointer t_1)] w R :=
  V.calls_of_R ⟨V.assoc [], V.assocP [], V.assocC [], V.assocS [], ⟨[], true⟩⟩ Tryd.func46 rfl (Eq.mp (by kernel_rfl) h)

theorem slots_Table_string__Len_nf (t_1 : Option Addr) (w : World) (R : Ending → World → Prop) (h :
  V.sel (Option.isNone t_1)
  (R (Ending.returned (Value.int .i64 0)) w)
  (V.ptr t_1 fun a2 =>
  ∃ m3, World.cell? w (Addr.add a2 1) = some (Value.map m3) ∧
  ∃ n4, ∃ w5, Sem.run Tryd.prog (Builtin.len_ #[81] 3 #[(Value.map m3)]) w = .ok (Value.int .i64 n4) w5 ∧
  R (Ending.returned (Value.int .i64 n4)) w5)) :
  Calls Tryd.prog 48 #[(Value.pointer t_1)] w R :=
  V.calls_of_R ⟨V.assoc [], V.assocP [], V.assocC [], V.assocS [], ⟨[], true⟩⟩ Tryd.func48 rfl (Eq.mp (by kernel_rfl) h)

theorem slots_Table_string__All_nf (t_1 : Option Addr) (w : World) (R : Ending → World → Prop) (h :
  ∀ w2, w2 = (World.alloc w (.cells #[(Value.slice none 0 0)] 90)) →
  V.sel (!(Option.isNone t_1))
  (V.ptr t_1 fun a3 =>
  ∃ A4, ∃ A4l, ∃ A4c, World.cell? w2 (Addr.add a3 2) = some (Value.slice A4 A4l A4c) ∧
  Calls Tryd.prog 64 #[(Value.slice A4 A4l A4c)] w2 fun e6 w7 =>
  ∃ A5, ∃ A5l, ∃ A5c, e6 = Ending.returned (Value.slice A5 A5l A5c) ∧
  ∃ w8, Sem.run Tryd.prog (Instr.storeAt 90 (Value.pointer (some ⟨Array.size (World.heap w), 0, none⟩)) (Value.slice A5 A5l A5c)) w7 = .ok () w8 ∧
  R (Ending.returned (Value.func (.func 65) #[] #[(Value.pointer (some ⟨Array.size (World.heap w), 0, none⟩))])) w8)
  (R (Ending.returned (Value.func (.func 65) #[] #[(Value.pointer (some ⟨Array.size (World.heap w), 0, none⟩))])) w2)) :
  Calls Tryd.prog 49 #[(Value.pointer t_1)] w R :=
  V.calls_of_R ⟨V.assoc [], V.assocP [], V.assocC [], V.assocS [], ⟨[], true⟩⟩ Tryd.func49 rfl (Eq.mp (by kernel_rfl) h)

theorem slices_Clone___slots_row_berthlaw05_Thing__slots_row_berthlaw05_Thing___nf (s_1 : Option Addr) (s_1l : Nat) (s_1c : Nat) (w : World) (R : Ending → World → Prop) (h :
  V.sel (Option.isNone s_1)
  (R (Ending.returned (Value.slice none 0 0)) w)
  (∀ w2, w2 = (World.alloc w (.cells #[] 94)) →
  ∃ A3, ∃ A3l, ∃ A3c, ∃ w4, Sem.run Tryd.prog (Builtin.append_ #[87, 87] 87 #[(Value.slice (some ⟨Array.size (World.heap w), 0, none⟩) 0 0), (Value.slice s_1 s_1l s_1c)]) w2 = .ok (Value.slice A3 A3l A3c) w4 ∧
  R (Ending.returned (Value.slice A3 A3l A3c)) w4)) :
  Calls Tryd.prog 60 #[(Value.slice s_1 s_1l s_1c)] w R :=
  V.calls_of_R ⟨V.assoc [], V.assocP [], V.assocC [], V.assocS [], ⟨[], true⟩⟩ Tryd.func60 rfl (Eq.mp (by kernel_rfl) h)

theorem slots_Table_berthlaw05_Thing__All_l1_nf (yl : Nat) (free0_1 : Option Addr) (w : World) (R : Ending → World → Prop) (h :
  V.ptr free0_1 fun a2 =>
  ∃ A3, ∃ A3l, ∃ A3c, World.cell? w a2 = some (Value.slice A3 A3l A3c) ∧
  ∃ I4 : Int → World → Prop, ∃ μ5 : Int → World → Nat, I4 0 w ∧
  ∀ t7_6 (j7 : Nat → Value) (w8 : World), I4 t7_6 w8 →
  (V.sel (decide (t7_6 < ((A3l : Nat) : Int)))
  (V.when (decide ((0 : Int) ≤ t7_6 ∧ (t7_6 : Int) < ((A3l : Nat) : Int))) (V.ptr A3 fun a9 =>
  ∃ b10, ∃ s11, ∃ n12, ∃ s13, V.cellsC (fun a_ x_ => World.cell? w8 a_ = some x_) (Addr.add a9 ((Int.toNat t7_6) * 4)) [(Value.bool b10), (Value.string s11), (Value.int .i64 n12), (Value.string s13)] ∧
  ∀ w14, w14 = (World.alloc w8 (.cells #[(Value.bool false), (Value.string ByteArray.empty), (Value.int .i64 0), (Value.string ByteArray.empty)] 94)) →
  ∃ w15, Sem.run Tryd.prog (Instr.storeAt 94 (Value.pointer (some ⟨Array.size (World.heap w8), 0, none⟩)) (Value.agg #[(Value.bool b10), (Value.string s11), (Value.int .i64 n12), (Value.string s13)])) w14 = .ok () w15 ∧
  ∃ b16, World.cell? w15 (Addr.add ⟨Array.size (World.heap w8), 0, none⟩ 0) = some (Value.bool b16) ∧
  V.sel b16
  (∃ s17, World.cell? w15 (Addr.add ⟨Array.size (World.heap w8), 0, none⟩ 1) = some (Value.string s17) ∧
  V.Yield Tryd.prog yl [(Value.int .i64 t7_6), (Value.string s17)] w15 fun e19 w20 =>
  ∃ b18, e19 = Ending.returned (Value.bool b18) ∧
  V.sel (!b18)
  (R (Ending.returned undef) w20)
  (I4 (IntKind.wrap .i64 (t7_6 + 1)) w20 ∧ μ5 (IntKind.wrap .i64 (t7_6 + 1)) w20 < μ5 t7_6 w8))
  (I4 (IntKind.wrap .i64 (t7_6 + 1)) w15 ∧ μ5 (IntKind.wrap .i64 (t7_6 + 1)) w15 < μ5 t7_6 w8)))
  (R (Ending.returned undef) w8))) :
  Calls Tryd.prog 61 #[(Value.func (.yield yl) #[] #[]), (Value.pointer free0_1)] w R :=
  V.calls_of_R ⟨V.assoc [(0, [7])], V.assocP [], V.assocC [], V.assocS [], ⟨[], true⟩⟩ Tryd.func61 rfl (Eq.mp (by kernel_rfl) h)

theorem slices_Clone___slots_row_string__slots_row_string___nf (s_1 : Option Addr) (s_1l : Nat) (s_1c : Nat) (w : World) (R : Ending → World → Prop) (h :
  V.sel (Option.isNone s_1)
  (R (Ending.returned (Value.slice none 0 0)) w)
  (∀ w2, w2 = (World.alloc w (.cells #[] 96)) →
  ∃ A3, ∃ A3l, ∃ A3c, ∃ w4, Sem.run Tryd.prog (Builtin.append_ #[90, 90] 90 #[(Value.slice (some ⟨Array.size (World.heap w), 0, none⟩) 0 0), (Value.slice s_1 s_1l s_1c)]) w2 = .ok (Value.slice A3 A3l A3c) w4 ∧
  R (Ending.returned (Value.slice A3 A3l A3c)) w4)) :
  Calls Tryd.prog 64 #[(Value.slice s_1 s_1l s_1c)] w R :=
  V.calls_of_R ⟨V.assoc [], V.assocP [], V.assocC [], V.assocS [], ⟨[], true⟩⟩ Tryd.func64 rfl (Eq.mp (by kernel_rfl) h)

theorem slots_Table_string__All_l1_nf (yl : Nat) (free0_1 : Option Addr) (w : World) (R : Ending → World → Prop) (h :
  V.ptr free0_1 fun a2 =>
  ∃ A3, ∃ A3l, ∃ A3c, World.cell? w a2 = some (Value.slice A3 A3l A3c) ∧
  ∃ I4 : Int → World → Prop, ∃ μ5 : Int → World → Nat, I4 0 w ∧
  ∀ t7_6 (j7 : Nat → Value) (w8 : World), I4 t7_6 w8 →
  (V.sel (decide (t7_6 < ((A3l : Nat) : Int)))
  (V.when (decide ((0 : Int) ≤ t7_6 ∧ (t7_6 : Int) < ((A3l : Nat) : Int))) (V.ptr A3 fun a9 =>
  ∃ b10, ∃ s11, ∃ s12, V.cellsC (fun a_ x_ => World.cell? w8 a_ = some x_) (Addr.add a9 ((Int.toNat t7_6) * 3)) [(Value.bool b10), (Value.string s11), (Value.string s12)] ∧
  ∀ w13, w13 = (World.alloc w8 (.cells #[(Value.bool false), (Value.string ByteArray.empty), (Value.string ByteArray.empty)] 96)) →
  ∃ w14, Sem.run Tryd.prog (Instr.storeAt 96 (Value.pointer (some ⟨Array.size (World.heap w8), 0, none⟩)) (Value.agg #[(Value.bool b10), (Value.string s11), (Value.string s12)])) w13 = .ok () w14 ∧
  ∃ b15, World.cell? w14 (Addr.add ⟨Array.size (World.heap w8), 0, none⟩ 0) = some (Value.bool b15) ∧
  V.sel b15
  (∃ s16, World.cell? w14 (Addr.add ⟨Array.size (World.heap w8), 0, none⟩ 1) = some (Value.string s16) ∧
  V.Yield Tryd.prog yl [(Value.int .i64 t7_6), (Value.string s16)] w14 fun e18 w19 =>
  ∃ b17, e18 = Ending.returned (Value.bool b17) ∧
  V.sel (!b17)
  (R (Ending.returned undef) w19)
  (I4 (IntKind.wrap .i64 (t7_6 + 1)) w19 ∧ μ5 (IntKind.wrap .i64 (t7_6 + 1)) w19 < μ5 t7_6 w8))
  (I4 (IntKind.wrap .i64 (t7_6 + 1)) w14 ∧ μ5 (IntKind.wrap .i64 (t7_6 + 1)) w14 < μ5 t7_6 w8)))
  (R (Ending.returned undef) w8))) :
  Calls Tryd.prog 65 #[(Value.func (.yield yl) #[] #[]), (Value.pointer free0_1)] w R :=
  V.calls_of_R ⟨V.assoc [(0, [7])], V.assocP [], V.assocC [], V.assocS [], ⟨[], true⟩⟩ Tryd.func65 rfl (Eq.mp (by kernel_rfl) h)

end Go.Proofs.YtcampkaenlohbaaDoor
