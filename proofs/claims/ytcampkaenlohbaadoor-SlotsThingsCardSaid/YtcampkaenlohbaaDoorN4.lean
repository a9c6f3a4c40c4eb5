/- Normal forms of the program's functions, printed by a program of mine; the kernel checks each. -/
import Derived.Test.YtcampkaenlohbaaDoorProg
import Derived.Test.YtcampkaenlohbaaDoorV2
set_option linter.unusedVariables false
set_option maxRecDepth 100000
namespace Go.Proofs.YtcampkaenlohbaaDoor
open Go

theorem berthlaw05_World_copied_nf (w_1 : Option Addr) (i_2 : Int) (j_3 : Int) (w : World) (R : Ending → World → Prop) (h :
  V.ptr w_1 fun a4 =>
  V.when (decide ((0 : Int) ≤ i_2 ∧ (i_2 : Int) < 4)) (∃ p5, World.cell? w (Addr.add (Addr.add a4 0) ((Int.toNat i_2) * 1)) = some (Value.pointer p5) ∧
  Calls Tryd.prog 67 #[(Value.pointer p5), Value.nilFunc] w fun e7 w8 =>
  ∃ p6, e7 = Ending.returned (Value.pointer p6) ∧
  V.ptr w_1 fun a9 =>
  V.when (decide ((0 : Int) ≤ i_2 ∧ (i_2 : Int) < 4)) (∃ p10, World.cell? w8 (Addr.add (Addr.add a9 0) ((Int.toNat i_2) * 1)) = some (Value.pointer p10) ∧
  V.sel (!((Option.isNone p6) == (Option.isNone p10)))
  (R (Ending.returned (Value.bool false)) w8)
  (∃ S11 : World → Prop, S11 (World.drew w8) ∧
  V.ptr w_1 fun a13 =>
  V.when (decide ((0 : Int) ≤ i_2 ∧ (i_2 : Int) < 4)) (∃ n14, ∃ A15, ∃ A15l, ∃ A15c, V.cellsC (fun a_ x_ => ∀ w12, S11 w12 → World.cell? w12 a_ = some x_) (Addr.add (Addr.add a13 4) ((Int.toNat i_2) * 2)) [(Value.int .i64 n14), (Value.slice A15 A15l A15c)] ∧
  V.ptr w_1 fun a16 =>
  V.when (decide ((0 : Int) ≤ j_3 ∧ (j_3 : Int) < 4)) (V.ptr w_1 fun a17 =>
  ∃ w18, Sem.run Tryd.prog (Instr.storeAt 24 (Value.pointer (some (Addr.add (Addr.add a16 0) ((Int.toNat j_3) * 1)))) (Value.pointer p6)) (World.drew w8) = .ok () w18 ∧
  S11 w18 ∧
  V.when (decide ((0 : Int) ≤ j_3 ∧ (j_3 : Int) < 4)) (∃ w19, Sem.run Tryd.prog (Instr.storeAt 45 (Value.pointer (some (Addr.add (Addr.add a17 4) ((Int.toNat j_3) * 2)))) (Value.agg #[(Value.int .i64 n14), (Value.slice A15 A15l A15c)])) w18 = .ok () w19 ∧
  S11 w19 ∧
  R (Ending.returned (Value.bool true)) w19))))))) :
  Calls Tryd.prog 57 #[(Value.pointer w_1), (Value.int .i64 i_2), (Value.int .i64 j_3)] w R :=
  V.calls_of_R ⟨V.assoc [], V.assocP [(4, V.line [0, 1, 2, 3, 4, 5, 6, 7, 8, 9, 10, 11, 12, 13, 15, 16, 14, 17, 18])], V.assocC [], V.assocS [], ⟨[], true⟩⟩ Tryd.func57 rfl (Eq.mp (by kernel_rfl) h)

theorem slots_Table_int__All_nf (t_1 : Option Addr) (w : World) (R : Ending → World → Prop) (h :
  ∀ w2, w2 = (World.alloc w (.cells #[(Value.slice none 0 0)] 82)) →
  V.sel (!(Option.isNone t_1))
  (V.ptr t_1 fun a3 =>
  ∃ A4, ∃ A4l, ∃ A4c, World.cell? w2 (Addr.add a3 2) = some (Value.slice A4 A4l A4c) ∧
  Calls Tryd.prog 68 #[(Value.slice A4 A4l A4c)] w2 fun e6 w7 =>
  ∃ A5, ∃ A5l, ∃ A5c, e6 = Ending.returned (Value.slice A5 A5l A5c) ∧
  ∃ w8, Sem.run Tryd.prog (Instr.storeAt 82 (Value.pointer (some ⟨Array.size (World.heap w), 0, none⟩)) (Value.slice A5 A5l A5c)) w7 = .ok () w8 ∧
  R (Ending.returned (Value.func (.func 69) #[] #[(Value.pointer (some ⟨Array.size (World.heap w), 0, none⟩))])) w8)
  (R (Ending.returned (Value.func (.func 69) #[] #[(Value.pointer (some ⟨Array.size (World.heap w), 0, none⟩))])) w2)) :
  Calls Tryd.prog 58 #[(Value.pointer t_1)] w R :=
  V.calls_of_R ⟨V.assoc [], V.assocP [], V.assocC [], V.assocS [], ⟨[], true⟩⟩ Tryd.func58 rfl (Eq.mp (by kernel_rfl) h)

theorem slots_Table_int__Set_nf (t_1 : Option Addr) (name_2 : ByteArray) (v_3 : Int) (w : World) (R : Ending → World → Prop) (h :
  Calls Tryd.prog 37 #[(Value.pointer t_1), (Value.string name_2)] w fun e6 w7 =>
  ∃ n4, ∃ n5, e6 = Ending.returned (Value.tuple #[(Value.int .i64 n4), (Value.int .i64 n5)]) ∧
  V.sel (n5 == 0)
  (V.ptr t_1 fun a8 =>
  ∃ A9, ∃ A9l, ∃ A9c, World.cell? w7 (Addr.add a8 2) = some (Value.slice A9 A9l A9c) ∧
  V.when (decide ((0 : Int) ≤ n4 ∧ (n4 : Int) < ((A9l : Nat) : Int))) (V.ptr A9 fun a10 =>
  ∃ w11, Sem.run Tryd.prog (Instr.storeAt 3 (Value.pointer (some (Addr.add (Addr.add a10 ((Int.toNat n4) * 3)) 2))) (Value.int .i64 v_3)) w7 = .ok () w11 ∧
  R (Ending.returned (Value.int .i64 n5)) w11))
  (R (Ending.returned (Value.int .i64 n5)) w7)) :
  Calls Tryd.prog 66 #[(Value.pointer t_1), (Value.string name_2), (Value.int .i64 v_3)] w R :=
  V.calls_of_R ⟨V.assoc [], V.assocP [], V.assocC [], V.assocS [], ⟨[], true⟩⟩ Tryd.func66 rfl (Eq.mp (by kernel_rfl) h)

theorem slots_Table_int__Copy_nf (t_1 : Option Addr) (of_f2 : Nat) (of_a3 : Array Value) (of_c4 : Array Value) (w : World) (R : Ending → World → Prop) (h :
  V.sel (Option.isNone t_1)
  (R (Ending.returned (Value.pointer none)) w)
  (∃ S5 : World → Prop, S5 (World.drew w) ∧
  V.ptr t_1 fun a7 =>
  ∃ n8, (∀ w6, S5 w6 → World.cell? w6 (Addr.add a7 0) = some (Value.int .i64 n8)) ∧
  V.ptr t_1 fun a9 =>
  ∃ n10, (∀ w6, S5 w6 → World.cell? w6 (Addr.add a9 3) = some (Value.int .i64 n10)) ∧
  ∀ w11, w11 = (World.alloc (World.drew w) (.map #[] 0)) →
  S5 w11 ∧
  ∀ w12, w12 = (World.alloc w11 (.cells #[(Value.int .i64 n8), (Value.map (some (Array.size (World.heap (World.drew w))))), (Value.slice none 0 0), (Value.int .i64 n10)] 84)) →
  S5 w12 ∧
  V.ptr t_1 fun a13 =>
  ∃ A14, ∃ A14l, ∃ A14c, World.cell? w12 (Addr.add a13 2) = some (Value.slice A14 A14l A14c) ∧
  ∃ I15 : Int → World → Prop, ∃ μ16 : Int → World → Nat, I15 0 w12 ∧
  ∀ t26_17 (j18 : Nat → Value) (w19 : World), I15 t26_17 w19 →
  (V.sel (decide (t26_17 < ((A14l : Nat) : Int)))
  (V.when (decide ((0 : Int) ≤ t26_17 ∧ (t26_17 : Int) < ((A14l : Nat) : Int))) (V.ptr A14 fun a20 =>
  ∃ b21, ∃ s22, ∃ n23, V.cellsC (fun a_ x_ => World.cell? w19 a_ = some x_) (Addr.add a20 ((Int.toNat t26_17) * 3)) [(Value.bool b21), (Value.string s22), (Value.int .i64 n23)] ∧
  ∀ w24, w24 = (World.alloc w19 (.cells #[(Value.bool false), (Value.string ByteArray.empty), (Value.int .i64 0)] 86)) →
  ∃ w25, Sem.run Tryd.prog (Instr.storeAt 86 (Value.pointer (some ⟨Array.size (World.heap w19), 0, none⟩)) (Value.agg #[(Value.bool b21), (Value.string s22), (Value.int .i64 n23)])) w24 = .ok () w25 ∧
  ∃ b26, World.cell? w25 (Addr.add ⟨Array.size (World.heap w19), 0, none⟩ 0) = some (Value.bool b26) ∧
  V.sel b26
  (∃ m27, World.cell? w25 (Addr.add ⟨Array.size (World.heap w11), 0, none⟩ 1) = some (Value.map m27) ∧
  ∃ s28, World.cell? w25 (Addr.add ⟨Array.size (World.heap w19), 0, none⟩ 1) = some (Value.string s28) ∧
  ∃ w29, Sem.run Tryd.prog (Instr.mapUpdate 81 (Value.map m27) (Value.string s28) (Value.int .i64 t26_17)) (World.drew w25) = .ok () w29 ∧
  ∃ n30, World.cell? w29 (Addr.add ⟨Array.size (World.heap w19), 0, none⟩ 2) = some (Value.int .i64 n30) ∧
  V.when (V.hasB Tryd.prog of_f2) (Calls Tryd.prog of_f2 ⟨Array.toList of_a3 ++ [(Value.int .i64 n30)] ++ Array.toList of_c4⟩ w29 fun e32 w33 =>
  ∃ n31, e32 = Ending.returned (Value.int .i64 n31) ∧
  ∃ w34, Sem.run Tryd.prog (Instr.storeAt 3 (Value.pointer (some (Addr.add ⟨Array.size (World.heap w19), 0, none⟩ 2))) (Value.int .i64 n31)) w33 = .ok () w34 ∧
  ∃ S35 : World → Prop, S35 (World.drew w34) ∧
  ∃ A37, ∃ A37l, ∃ A37c, (∀ w36, S35 w36 → World.cell? w36 (Addr.add ⟨Array.size (World.heap w11), 0, none⟩ 2) = some (Value.slice A37 A37l A37c)) ∧
  ∃ b38, ∃ s39, ∃ n40, V.cellsC (fun a_ x_ => ∀ w36, S35 w36 → World.cell? w36 a_ = some x_) ⟨Array.size (World.heap w19), 0, none⟩ [(Value.bool b38), (Value.string s39), (Value.int .i64 n40)] ∧
  ∀ w41, w41 = (World.alloc (World.drew w34) (.cells #[(Value.bool b38), (Value.string s39), (Value.int .i64 n40)] 86)) →
  S35 w41 ∧
  ∃ A42, ∃ A42l, ∃ A42c, ∃ w43, Sem.run Tryd.prog (Builtin.append_ #[82, 82] 82 #[(Value.slice A37 A37l A37c), (Value.slice (some ⟨Array.size (World.heap (World.drew w34)), 0, none⟩) 1 1)]) w41 = .ok (Value.slice A42 A42l A42c) w43 ∧
  S35 w43 ∧
  ∃ w44, Sem.run Tryd.prog (Instr.storeAt 82 (Value.pointer (some (Addr.add ⟨Array.size (World.heap w11), 0, none⟩ 2))) (Value.slice A42 A42l A42c)) w43 = .ok () w44 ∧
  I15 (IntKind.wrap .i64 (t26_17 + 1)) w44 ∧ μ16 (IntKind.wrap .i64 (t26_17 + 1)) w44 < μ16 t26_17 w19))
  (∃ S45 : World → Prop, S45 (World.drew w25) ∧
  ∃ A47, ∃ A47l, ∃ A47c, (∀ w46, S45 w46 → World.cell? w46 (Addr.add ⟨Array.size (World.heap w11), 0, none⟩ 2) = some (Value.slice A47 A47l A47c)) ∧
  ∃ b48, ∃ s49, ∃ n50, V.cellsC (fun a_ x_ => ∀ w46, S45 w46 → World.cell? w46 a_ = some x_) ⟨Array.size (World.heap w19), 0, none⟩ [(Value.bool b48), (Value.string s49), (Value.int .i64 n50)] ∧
  ∀ w51, w51 = (World.alloc (World.drew w25) (.cells #[(Value.bool b48), (Value.string s49), (Value.int .i64 n50)] 86)) →
  S45 w51 ∧
  ∃ A52, ∃ A52l, ∃ A52c, ∃ w53, Sem.run Tryd.prog (Builtin.append_ #[82, 82] 82 #[(Value.slice A47 A47l A47c), (Value.slice (some ⟨Array.size (World.heap (World.drew w25)), 0, none⟩) 1 1)]) w51 = .ok (Value.slice A52 A52l A52c) w53 ∧
  S45 w53 ∧
  ∃ w54, Sem.run Tryd.prog (Instr.storeAt 82 (Value.pointer (some (Addr.add ⟨Array.size (World.heap w11), 0, none⟩ 2))) (Value.slice A52 A52l A52c)) w53 = .ok () w54 ∧
  I15 (IntKind.wrap .i64 (t26_17 + 1)) w54 ∧ μ16 (IntKind.wrap .i64 (t26_17 + 1)) w54 < μ16 t26_17 w19)))
  (R (Ending.returned (Value.pointer (some ⟨Array.size (World.heap w11), 0, none⟩))) w19)))) :
  Calls Tryd.prog 67 #[(Value.pointer t_1), (Value.func (.func of_f2) of_a3 of_c4)] w R :=
  V.calls_of_R ⟨V.assoc [(0, [26])], V.assocP [(3, V.line [0, 1, 2, 3, 5, 6, 7, 8, 4, 9, 10, 11]), (8, V.line [0, 1, 2, 3, 4, 5, 6, 7]), (11, V.line [0, 1, 2, 3, 4, 5, 6, 7, 8, 9, 10])], V.assocC [], V.assocS [], ⟨[], true⟩⟩ Tryd.func67 rfl (Eq.mp (by kernel_rfl) h)

theorem slots_Table_int__Copy_nil_nf (t_1 : Option Addr) (w : World) (R : Ending → World → Prop) (h :
  V.sel (Option.isNone t_1)
  (R (Ending.returned (Value.pointer none)) w)
  (∃ S2 : World → Prop, S2 (World.drew w) ∧
  V.ptr t_1 fun a4 =>
  ∃ n5, (∀ w3, S2 w3 → World.cell? w3 (Addr.add a4 0) = some (Value.int .i64 n5)) ∧
  V.ptr t_1 fun a6 =>
  ∃ n7, (∀ w3, S2 w3 → World.cell? w3 (Addr.add a6 3) = some (Value.int .i64 n7)) ∧
  ∀ w8, w8 = (World.alloc (World.drew w) (.map #[] 0)) →
  S2 w8 ∧
  ∀ w9, w9 = (World.alloc w8 (.cells #[(Value.int .i64 n5), (Value.map (some (Array.size (World.heap (World.drew w))))), (Value.slice none 0 0), (Value.int .i64 n7)] 84)) →
  S2 w9 ∧
  V.ptr t_1 fun a10 =>
  ∃ A11, ∃ A11l, ∃ A11c, World.cell? w9 (Addr.add a10 2) = some (Value.slice A11 A11l A11c) ∧
  ∃ I12 : Int → World → Prop, ∃ μ13 : Int → World → Nat, I12 0 w9 ∧
  ∀ t26_14 (j15 : Nat → Value) (w16 : World), I12 t26_14 w16 →
  (V.sel (decide (t26_14 < ((A11l : Nat) : Int)))
  (V.when (decide ((0 : Int) ≤ t26_14 ∧ (t26_14 : Int) < ((A11l : Nat) : Int))) (V.ptr A11 fun a17 =>
  ∃ b18, ∃ s19, ∃ n20, V.cellsC (fun a_ x_ => World.cell? w16 a_ = some x_) (Addr.add a17 ((Int.toNat t26_14) * 3)) [(Value.bool b18), (Value.string s19), (Value.int .i64 n20)] ∧
  ∀ w21, w21 = (World.alloc w16 (.cells #[(Value.bool false), (Value.string ByteArray.empty), (Value.int .i64 0)] 86)) →
  ∃ w22, Sem.run Tryd.prog (Instr.storeAt 86 (Value.pointer (some ⟨Array.size (World.heap w16), 0, none⟩)) (Value.agg #[(Value.bool b18), (Value.string s19), (Value.int .i64 n20)])) w21 = .ok () w22 ∧
  ∃ b23, World.cell? w22 (Addr.add ⟨Array.size (World.heap w16), 0, none⟩ 0) = some (Value.bool b23) ∧
  V.sel b23
  (∃ m24, World.cell? w22 (Addr.add ⟨Array.size (World.heap w8), 0, none⟩ 1) = some (Value.map m24) ∧
  ∃ s25, World.cell? w22 (Addr.add ⟨Array.size (World.heap w16), 0, none⟩ 1) = some (Value.string s25) ∧
  ∃ w26, Sem.run Tryd.prog (Instr.mapUpdate 81 (Value.map m24) (Value.string s25) (Value.int .i64 t26_14)) (World.drew w22) = .ok () w26 ∧
  ∃ S27 : World → Prop, S27 (World.drew w26) ∧
  ∃ A29, ∃ A29l, ∃ A29c, (∀ w28, S27 w28 → World.cell? w28 (Addr.add ⟨Array.size (World.heap w8), 0, none⟩ 2) = some (Value.slice A29 A29l A29c)) ∧
  ∃ b30, ∃ s31, ∃ n32, V.cellsC (fun a_ x_ => ∀ w28, S27 w28 → World.cell? w28 a_ = some x_) ⟨Array.size (World.heap w16), 0, none⟩ [(Value.bool b30), (Value.string s31), (Value.int .i64 n32)] ∧
  ∀ w33, w33 = (World.alloc (World.drew w26) (.cells #[(Value.bool b30), (Value.string s31), (Value.int .i64 n32)] 86)) →
  S27 w33 ∧
  ∃ A34, ∃ A34l, ∃ A34c, ∃ w35, Sem.run Tryd.prog (Builtin.append_ #[82, 82] 82 #[(Value.slice A29 A29l A29c), (Value.slice (some ⟨Array.size (World.heap (World.drew w26)), 0, none⟩) 1 1)]) w33 = .ok (Value.slice A34 A34l A34c) w35 ∧
  S27 w35 ∧
  ∃ w36, Sem.run Tryd.prog (Instr.storeAt 82 (Value.pointer (some (Addr.add ⟨Array.size (World.heap w8), 0, none⟩ 2))) (Value.slice A34 A34l A34c)) w35 = .ok () w36 ∧
  I12 (IntKind.wrap .i64 (t26_14 + 1)) w36 ∧ μ13 (IntKind.wrap .i64 (t26_14 + 1)) w36 < μ13 t26_14 w16)
  (∃ S37 : World → Prop, S37 (World.drew w22) ∧
  ∃ A39, ∃ A39l, ∃ A39c, (∀ w38, S37 w38 → World.cell? w38 (Addr.add ⟨Array.size (World.heap w8), 0, none⟩ 2) = some (Value.slice A39 A39l A39c)) ∧
  ∃ b40, ∃ s41, ∃ n42, V.cellsC (fun a_ x_ => ∀ w38, S37 w38 → World.cell? w38 a_ = some x_) ⟨Array.size (World.heap w16), 0, none⟩ [(Value.bool b40), (Value.string s41), (Value.int .i64 n42)] ∧
  ∀ w43, w43 = (World.alloc (World.drew w22) (.cells #[(Value.bool b40), (Value.string s41), (Value.int .i64 n42)] 86)) →
  S37 w43 ∧
  ∃ A44, ∃ A44l, ∃ A44c, ∃ w45, Sem.run Tryd.prog (Builtin.append_ #[82, 82] 82 #[(Value.slice A39 A39l A39c), (Value.slice (some ⟨Array.size (World.heap (World.drew w22)), 0, none⟩) 1 1)]) w43 = .ok (Value.slice A44 A44l A44c) w45 ∧
  S37 w45 ∧
  ∃ w46, Sem.run Tryd.prog (Instr.storeAt 82 (Value.pointer (some (Addr.add ⟨Array.size (World.heap w8), 0, none⟩ 2))) (Value.slice A44 A44l A44c)) w45 = .ok () w46 ∧
  I12 (IntKind.wrap .i64 (t26_14 + 1)) w46 ∧ μ13 (IntKind.wrap .i64 (t26_14 + 1)) w46 < μ13 t26_14 w16)))
  (R (Ending.returned (Value.pointer (some ⟨Array.size (World.heap w8), 0, none⟩))) w16)))) :
  Calls Tryd.prog 67 #[(Value.pointer t_1), Value.nilFunc] w R :=
  V.calls_of_R ⟨V.assoc [(0, [26])], V.assocP [(3, V.line [0, 1, 2, 3, 5, 6, 7, 8, 4, 9, 10, 11]), (8, V.line [0, 1, 2, 3, 4, 5, 6, 7]), (11, V.line [0, 1, 2, 3, 4, 5, 6, 7, 8, 9, 10])], V.assocC [], V.assocS [], ⟨[], true⟩⟩ Tryd.func67 rfl (Eq.mp (by kernel_rfl) h)

theorem slices_Clone___slots_row_int__slots_row_int___nf (s_1 : Option Addr) (s_1l : Nat) (s_1c : Nat) (w : World) (R : Ending → World → Prop) (h :
  V.sel (Option.isNone s_1)
  (R (Ending.returned (Value.slice none 0 0)) w)
  (∀ w2, w2 = (World.alloc w (.cells #[] 86)) →
  ∃ A3, ∃ A3l, ∃ A3c, ∃ w4, Sem.run Tryd.prog (Builtin.append_ #[82, 82] 82 #[(Value.slice (some ⟨Array.size (World.heap w), 0, none⟩) 0 0), (Value.slice s_1 s_1l s_1c)]) w2 = .ok (Value.slice A3 A3l A3c) w4 ∧
  R (Ending.returned (Value.slice A3 A3l A3c)) w4)) :
  Calls Tryd.prog 68 #[(Value.slice s_1 s_1l s_1c)] w R :=
  V.calls_of_R ⟨V.assoc [], V.assocP [], V.assocC [], V.assocS [], ⟨[], true⟩⟩ Tryd.func68 rfl (Eq.mp (by kernel_rfl) h)

theorem slots_Table_int__All_l1_nf (yl : Nat) (free0_1 : Option Addr) (w : World) (R : Ending → World → Prop) (h :
  V.ptr free0_1 fun a2 =>
  ∃ A3, ∃ A3l, ∃ A3c, World.cell? w a2 = some (Value.slice A3 A3l A3c) ∧
  ∃ I4 : Int → World → Prop, ∃ μ5 : Int → World → Nat, I4 0 w ∧
  ∀ t7_6 (j7 : Nat → Value) (w8 : World), I4 t7_6 w8 →
  (V.sel (decide (t7_6 < ((A3l : Nat) : Int)))
  (V.when (decide ((0 : Int) ≤ t7_6 ∧ (t7_6 : Int) < ((A3l : Nat) : Int))) (V.ptr A3 fun a9 =>
  ∃ b10, ∃ s11, ∃ n12, V.cellsC (fun a_ x_ => World.cell? w8 a_ = some x_) (Addr.add a9 ((Int.toNat t7_6) * 3)) [(Value.bool b10), (Value.string s11), (Value.int .i64 n12)] ∧
  ∀ w13, w13 = (World.alloc w8 (.cells #[(Value.bool false), (Value.string ByteArray.empty), (Value.int .i64 0)] 86)) →
  ∃ w14, Sem.run Tryd.prog (Instr.storeAt 86 (Value.pointer (some ⟨Array.size (World.heap w8), 0, none⟩)) (Value.agg #[(Value.bool b10), (Value.string s11), (Value.int .i64 n12)])) w13 = .ok () w14 ∧
  ∃ b15, World.cell? w14 (Addr.add ⟨Array.size (World.heap w8), 0, none⟩ 0) = some (Value.bool b15) ∧
  V.sel b15
  (∃ s16, World.cell? w14 (Addr.add ⟨Array.size (World.heap w8), 0, none⟩ 1) = some (Value.string s16) ∧
  V.Yield Tryd.prog yl [(Value.int .i64 t7_6), (Value.string s16)] w14 fun e18 w19 =>
  ∃ b17, e18 = Ending.returned (Value.bool b17) ∧
  V.sel (!b17)
  (R (Ending.returned undef) w19)
  (I4 (IntKind.wrap .i64 (t7_6 + 1)) w19 ∧ μ5 (IntKind.wrap .i64 (t7_6 + 1)) w19 < μ5 t7_6 w8))
  (I4 (IntKind.wrap .i64 (t7_6 + 1)) w14 ∧ μ5 (IntKind.wrap .i64 (t7_6 + 1)) w14 < μ5 t7_6 w8)))
  (R (Ending.returned undef) w8))) :
  Calls Tryd.prog 69 #[(Value.func (.yield yl) #[] #[]), (Value.pointer free0_1)] w R :=
  V.calls_of_R ⟨V.assoc [(0, [7])], V.assocP [], V.assocC [], V.assocS [], ⟨[], true⟩⟩ Tryd.func69 rfl (Eq.mp (by kernel_rfl) h)

end Go.Proofs.YtcampkaenlohbaaDoor
