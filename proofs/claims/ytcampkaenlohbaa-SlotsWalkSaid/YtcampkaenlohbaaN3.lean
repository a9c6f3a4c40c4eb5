/- Normal forms of the program's functions, printed by a program of mine; the kernel checks each. -/
import Derived.Test.YtcampkaenlohbaaProg
import Derived.Test.YtcampkaenlohbaaV2
set_option linter.unusedVariables false
set_option maxRecDepth 100000
namespace Go.Proofs.Ytcampkaenlohbaa
open Go

theorem slots_Table_int__Copy_nf (t_1 : Option Addr) (of_f2 : Nat) (of_a3 : Array Value) (of_c4 : Array Value) (w : World) (R : Ending → World → Prop) (h :
  V.sel (Option.isNone t_1)
  (R (Ending.returned (Value.pointer none)) w)
  (∃ S5 : World → Prop, S5 (World.drew w) ∧
  V.ptr t_1 fun a7 =>
  ∃ n8, (∀ w6, S5 w6 → World.cell? w6 (Addr.add a7 0) = some (Value.int .i64 n8)) ∧
  V.ptr t_1 fun a9 =>
  ∃ n10, (∀ w6, S5 w6 → World.cell? w6 (Addr.add a9 3) = some (Value.int .i64 n10)) ∧
  ∀ w11, w11 = (World.alloc (World.drew w) (.map #[] 0)) →
  S5 w11 ∧
  ∀ w12, w12 = (World.alloc w11 (.cells #[(Value.int .i64 n8), (Value.map (some (Array.size (World.heap (World.drew w))))), (Value.slice none 0 0), (Value.int .i64 n10)] 79)) →
  S5 w12 ∧
  V.ptr t_1 fun a13 =>
  ∃ A14, ∃ A14l, ∃ A14c, World.cell? w12 (Addr.add a13 2) = some (Value.slice A14 A14l A14c) ∧
  ∃ I15 : Int → World → Prop, ∃ μ16 : Int → World → Nat, I15 0 w12 ∧
  ∀ t26_17 (j18 : Nat → Value) (w19 : World), I15 t26_17 w19 →
  (V.sel (decide (t26_17 < ((A14l : Nat) : Int)))
  (V.when (decide ((0 : Int) ≤ t26_17 ∧ (t26_17 : Int) < ((A14l : Nat) : Int))) (V.ptr A14 fun a20 =>
  ∃ b21, ∃ s22, ∃ n23, V.cellsC (fun a_ x_ => World.cell? w19 a_ = some x_) (Addr.add a20 ((Int.toNat t26_17) * 3)) [(Value.bool b21), (Value.string s22), (Value.int .i64 n23)] ∧
  ∀ w24, w24 = (World.alloc w19 (.cells #[(Value.bool false), (Value.string ByteArray.empty), (Value.int .i64 0)] 81)) →
  ∃ w25, Sem.run Try.prog (Instr.storeAt 81 (Value.pointer (some ⟨Array.size (World.heap w19), 0, none⟩)) (Value.agg #[(Value.bool b21), (Value.string s22), (Value.int .i64 n23)])) w24 = .ok () w25 ∧
  ∃ b26, World.cell? w25 (Addr.add ⟨Array.size (World.heap w19), 0, none⟩ 0) = some (Value.bool b26) ∧
  V.sel b26
  (∃ m27, World.cell? w25 (Addr.add ⟨Array.size (World.heap w11), 0, none⟩ 1) = some (Value.map m27) ∧
  ∃ s28, World.cell? w25 (Addr.add ⟨Array.size (World.heap w19), 0, none⟩ 1) = some (Value.string s28) ∧
  ∃ w29, Sem.run Try.prog (Instr.mapUpdate 28 (Value.map m27) (Value.string s28) (Value.int .i64 t26_17)) (World.drew w25) = .ok () w29 ∧
  ∃ n30, World.cell? w29 (Addr.add ⟨Array.size (World.heap w19), 0, none⟩ 2) = some (Value.int .i64 n30) ∧
  V.when (V.hasB Try.prog of_f2) (Calls Try.prog of_f2 ⟨Array.toList of_a3 ++ [(Value.int .i64 n30)] ++ Array.toList of_c4⟩ w29 fun e32 w33 =>
  ∃ n31, e32 = Ending.returned (Value.int .i64 n31) ∧
  ∃ w34, Sem.run Try.prog (Instr.storeAt 3 (Value.pointer (some (Addr.add ⟨Array.size (World.heap w19), 0, none⟩ 2))) (Value.int .i64 n31)) w33 = .ok () w34 ∧
  ∃ S35 : World → Prop, S35 (World.drew w34) ∧
  ∃ A37, ∃ A37l, ∃ A37c, (∀ w36, S35 w36 → World.cell? w36 (Addr.add ⟨Array.size (World.heap w11), 0, none⟩ 2) = some (Value.slice A37 A37l A37c)) ∧
  ∃ b38, ∃ s39, ∃ n40, V.cellsC (fun a_ x_ => ∀ w36, S35 w36 → World.cell? w36 a_ = some x_) ⟨Array.size (World.heap w19), 0, none⟩ [(Value.bool b38), (Value.string s39), (Value.int .i64 n40)] ∧
  ∀ w41, w41 = (World.alloc (World.drew w34) (.cells #[(Value.bool b38), (Value.string s39), (Value.int .i64 n40)] 81)) →
  S35 w41 ∧
  ∃ A42, ∃ A42l, ∃ A42c, ∃ w43, Sem.run Try.prog (Builtin.append_ #[77, 77] 77 #[(Value.slice A37 A37l A37c), (Value.slice (some ⟨Array.size (World.heap (World.drew w34)), 0, none⟩) 1 1)]) w41 = .ok (Value.slice A42 A42l A42c) w43 ∧
  S35 w43 ∧
  ∃ w44, Sem.run Try.prog (Instr.storeAt 77 (Value.pointer (some (Addr.add ⟨Array.size (World.heap w11), 0, none⟩ 2))) (Value.slice A42 A42l A42c)) w43 = .ok () w44 ∧
  I15 (IntKind.wrap .i64 (t26_17 + 1)) w44 ∧ μ16 (IntKind.wrap .i64 (t26_17 + 1)) w44 < μ16 t26_17 w19))
  (∃ S45 : World → Prop, S45 (World.drew w25) ∧
  ∃ A47, ∃ A47l, ∃ A47c, (∀ w46, S45 w46 → World.cell? w46 (Addr.add ⟨Array.size (World.heap w11), 0, none⟩ 2) = some (Value.slice A47 A47l A47c)) ∧
  ∃ b48, ∃ s49, ∃ n50, V.cellsC (fun a_ x_ => ∀ w46, S45 w46 → World.cell? w46 a_ = some x_) ⟨Array.size (World.heap w19), 0, none⟩ [(Value.bool b48), (Value.string s49), (Value.int .i64 n50)] ∧
  ∀ w51, w51 = (World.alloc (World.drew w25) (.cells #[(Value.bool b48), (Value.string s49), (Value.int .i64 n50)] 81)) →
  S45 w51 ∧
  ∃ A52, ∃ A52l, ∃ A52c, ∃ w53, Sem.run Try.prog (Builtin.append_ #[77, 77] 77 #[(Value.slice A47 A47l A47c), (Value.slice (some ⟨Array.size (World.heap (World.drew w25)), 0, none⟩) 1 1)]) w51 = .ok (Value.slice A52 A52l A52c) w53 ∧
  S45 w53 ∧
  ∃ w54, Sem.run Try.prog (Instr.storeAt 77 (Value.pointer (some (Addr.add ⟨Array.size (World.heap w11), 0, none⟩ 2))) (Value.slice A52 A52l A52c)) w53 = .ok () w54 ∧
  I15 (IntKind.wrap .i64 (t26_17 + 1)) w54 ∧ μ16 (IntKind.wrap .i64 (t26_17 + 1)) w54 < μ16 t26_17 w19)))
  (R (Ending.returned (Value.pointer (some ⟨Array.size (World.heap w11), 0, none⟩))) w19)))) :
  Calls Try.prog 27 #[(Value.pointer t_1), (Value.func (.func of_f2) of_a3 of_c4)] w R :=
  V.calls_of_R ⟨V.assoc [(0, [26])], V.assocP [(3, V.line [0, 1, 2, 3, 5, 6, 7, 8, 4, 9, 10, 11]), (8, V.line [0, 1, 2, 3, 4, 5, 6, 7]), (11, V.line [0, 1, 2, 3, 4, 5, 6, 7, 8, 9, 10])], V.assocC [], V.assocS [], ⟨[], true⟩⟩ Try.func27 rfl (Eq.mp (by kernel_rfl) h)

theorem berthlaw05_SlotsCopies_l1_nf (v_1 : Int) (free0_2 : Option Addr) (w : World) (R : Ending → World → Prop) (h :
  V.ptr free0_2 fun a3 =>
  ∃ A4, ∃ A4l, ∃ A4c, World.cell? w a3 = some (Value.slice A4 A4l A4c) ∧
  ∀ w5, w5 = (World.alloc w (.cells #[(Value.int .i64 v_1)] 3)) →
  ∃ A6, ∃ A6l, ∃ A6c, ∃ w7, Sem.run Try.prog (Builtin.append_ #[73, 73] 73 #[(Value.slice A4 A4l A4c), (Value.slice (some ⟨Array.size (World.heap w), 0, none⟩) 1 1)]) w5 = .ok (Value.slice A6 A6l A6c) w7 ∧
  V.ptr free0_2 fun a8 =>
  ∃ w9, Sem.run Try.prog (Instr.storeAt 73 (Value.pointer (some a8)) (Value.slice A6 A6l A6c)) w7 = .ok () w9 ∧
  V.ptr free0_2 fun a10 =>
  ∃ A11, ∃ A11l, ∃ A11c, World.cell? w9 a10 = some (Value.slice A11 A11l A11c) ∧
  V.lt (IntKind.wrap .i64 ((IntKind.wrap .i64 (3 * v_1)) + ((A11l : Nat) : Int))) fun x12 =>
  R (Ending.returned (Value.int .i64 x12)) w9) :
  Calls Try.prog 28 #[(Value.int .i64 v_1), (Value.pointer free0_2)] w R :=
  V.calls_of_R ⟨V.assoc [], V.assocP [], V.assocC [], V.assocS [], ⟨[], true⟩⟩ Try.func28 rfl (Eq.mp (by kernel_rfl) h)

theorem berthlaw05_told_nf (t_1 : Option Addr) (m_2 : Int) (m_3 : Option Addr) (m_3l : Nat) (m_3c : Nat) (w : World) (R : Ending → World → Prop) (h :
  ∀ w4, w4 = (World.alloc w (.cells #[(Value.int .i64 m_2), (Value.slice m_3 m_3l m_3c)] 54)) →
  ∃ S5 : World → Prop, S5 (World.drew w4) ∧
  ∃ A7, ∃ A7l, ∃ A7c, (∀ w6, S5 w6 → World.cell? w6 (Addr.add ⟨Array.size (World.heap w), 0, none⟩ 1) = some (Value.slice A7 A7l A7c)) ∧
  Calls Try.prog 14 #[(Value.pointer t_1)] (World.drew w4) fun e9 w10 =>
  ∃ n8, e9 = Ending.returned (Value.int .i64 n8) ∧
  S5 w10 ∧
  V.sel (n8 != ((A7l : Nat) : Int))
  (R (Ending.returned (Value.bool false)) w10)
  (∃ n11, ∃ A12, ∃ A12l, ∃ A12c, V.cellsC (fun a_ x_ => ∀ w6, S5 w6 → World.cell? w6 a_ = some x_) ⟨Array.size (World.heap w), 0, none⟩ [(Value.int .i64 n11), (Value.slice A12 A12l A12c)] ∧
  Calls Try.prog 32 #[(Value.pointer t_1)] w10 fun e14 w15 =>
  ∃ n13, e14 = Ending.returned (Value.int .i64 n13) ∧
  S5 w15 ∧
  Calls Try.prog 36 #[(Value.agg #[(Value.int .i64 n11), (Value.slice A12 A12l A12c)])] w15 fun e17 w18 =>
  ∃ n16, e17 = Ending.returned (Value.int .i64 n16) ∧
  S5 w18 ∧
  V.sel (n13 != n16)
  (R (Ending.returned (Value.bool false)) w18)
  (∃ n19, ∃ A20, ∃ A20l, ∃ A20c, V.cellsC (fun a_ x_ => ∀ w6, S5 w6 → World.cell? w6 a_ = some x_) ⟨Array.size (World.heap w), 0, none⟩ [(Value.int .i64 n19), (Value.slice A20 A20l A20c)] ∧
  Calls Try.prog 17 #[(Value.pointer t_1)] w18 fun e22 w23 =>
  ∃ A21, ∃ A21l, ∃ A21c, e22 = Ending.returned (Value.slice A21 A21l A21c) ∧
  S5 w23 ∧
  Calls Try.prog 37 #[(Value.agg #[(Value.int .i64 n19), (Value.slice A20 A20l A20c)])] w23 fun e25 w26 =>
  ∃ A24, ∃ A24l, ∃ A24c, e25 = Ending.returned (Value.slice A24 A24l A24c) ∧
  S5 w26 ∧
  Calls Try.prog 16 #[(Value.slice A21 A21l A21c), (Value.slice A24 A24l A24c)] w26 fun e28 w29 =>
  ∃ b27, e28 = Ending.returned (Value.bool b27) ∧
  S5 w29 ∧
  V.sel (!b27)
  (R (Ending.returned (Value.bool false)) w29)
  (∃ A30, ∃ A30l, ∃ A30c, World.cell? w29 (Addr.add ⟨Array.size (World.heap w), 0, none⟩ 1) = some (Value.slice A30 A30l A30c) ∧
  ∃ I31 : Int → World → Prop, ∃ μ32 : Int → World → Nat, I31 0 w29 ∧
  ∀ t37_33 (j34 : Nat → Value) (w35 : World), I31 t37_33 w35 →
  (V.sel (decide (t37_33 < ((A30l : Nat) : Int)))
  (V.when (decide ((0 : Int) ≤ t37_33 ∧ (t37_33 : Int) < ((A30l : Nat) : Int))) (V.ptr A30 fun a36 =>
  ∃ n37, ∃ s38, ∃ n39, V.cellsC (fun a_ x_ => World.cell? w35 a_ = some x_) (Addr.add a36 ((Int.toNat t37_33) * 3)) [(Value.int .i64 n37), (Value.string s38), (Value.int .i64 n39)] ∧
  ∀ w40, w40 = (World.alloc w35 (.cells #[(Value.int .i64 0), (Value.string ByteArray.empty), (Value.int .i64 0)] 66)) →
  ∃ w41, Sem.run Try.prog (Instr.storeAt 66 (Value.pointer (some ⟨Array.size (World.heap w35), 0, none⟩)) (Value.agg #[(Value.int .i64 n37), (Value.string s38), (Value.int .i64 n39)])) w40 = .ok () w41 ∧
  ∃ s42, World.cell? w41 (Addr.add ⟨Array.size (World.heap w35), 0, none⟩ 1) = some (Value.string s42) ∧
  Calls Try.prog 15 #[(Value.pointer t_1), (Value.string s42)] w41 fun e46 w47 =>
  ∃ n43, ∃ n44, ∃ b45, e46 = Ending.returned (Value.tuple #[(Value.int .i64 n43), (Value.int .i64 n44), (Value.bool b45)]) ∧
  ∃ n48, World.cell? w47 (Addr.add ⟨Array.size (World.heap w35), 0, none⟩ 0) = some (Value.int .i64 n48) ∧
  Calls Try.prog 18 #[(Value.pointer t_1), (Value.int .i64 n48)] w47 fun e52 w53 =>
  ∃ s49, ∃ n50, ∃ b51, e52 = Ending.returned (Value.tuple #[(Value.string s49), (Value.int .i64 n50), (Value.bool b51)]) ∧
  V.sel (!b45)
  (R (Ending.returned (Value.bool false)) w53)
  (V.sel (!b51)
  (R (Ending.returned (Value.bool false)) w53)
  (∃ n54, World.cell? w53 (Addr.add ⟨Array.size (World.heap w35), 0, none⟩ 0) = some (Value.int .i64 n54) ∧
  V.sel (n43 != n54)
  (R (Ending.returned (Value.bool false)) w53)
  (∃ n55, World.cell? w53 (Addr.add ⟨Array.size (World.heap w35), 0, none⟩ 2) = some (Value.int .i64 n55) ∧
  V.sel (n44 != n55)
  (R (Ending.returned (Value.bool false)) w53)
  (∃ s56, World.cell? w53 (Addr.add ⟨Array.size (World.heap w35), 0, none⟩ 1) = some (Value.string s56) ∧
  V.sel (!(ByteArray.toList s49 == ByteArray.toList s56))
  (R (Ending.returned (Value.bool false)) w53)
  (∃ n57, World.cell? w53 (Addr.add ⟨Array.size (World.heap w35), 0, none⟩ 2) = some (Value.int .i64 n57) ∧
  V.sel (n50 != n57)
  (R (Ending.returned (Value.bool false)) w53)
  (I31 (IntKind.wrap .i64 (t37_33 + 1)) w53 ∧ μ32 (IntKind.wrap .i64 (t37_33 + 1)) w53 < μ32 t37_33 w35))))))))
  (R (Ending.returned (Value.bool true)) w35)))))) :
  Calls Try.prog 29 #[(Value.pointer t_1), (Value.agg #[(Value.int .i64 m_2), (Value.slice m_3 m_3l m_3c)])] w R :=
  V.calls_of_R ⟨V.assoc [(0, [37])], V.assocP [(1, V.line [0, 2, 3, 4, 1, 5, 6, 7, 9, 8, 10, 11, 12, 13, 14, 16, 15, 17, 18, 19, 20])], V.assocC [], V.assocS [], ⟨[], true⟩⟩ Try.func29 rfl (Eq.mp (by kernel_rfl) h)

theorem slots_Table_int__look_nf (t_1 : Option Addr) (name_2 : ByteArray) (w : World) (R : Ending → World → Prop) (h :
  V.sel (Option.isNone t_1)
  (R (Ending.returned (Value.tuple #[(Value.int .i64 0), (Value.int .i64 1)])) w)
  (V.sel (decide (((ByteArray.size name_2 : Nat) : Int) < 1))
  (R (Ending.returned (Value.tuple #[(Value.int .i64 0), (Value.int .i64 51)])) w)
  (V.sel (decide (((ByteArray.size name_2 : Nat) : Int) > 63))
  (R (Ending.returned (Value.tuple #[(Value.int .i64 0), (Value.int .i64 51)])) w)
  (V.ptr t_1 fun a3 =>
  ∃ m4, World.cell? w (Addr.add a3 1) = some (Value.map m4) ∧
  ∃ n5, ∃ b6, ∃ w7, Sem.run Try.prog (Instr.lookup 28 (Value.map m4) (Value.string name_2) true) w = .ok (Value.tuple #[(Value.int .i64 n5), (Value.bool b6)]) w7 ∧
  V.sel (!b6)
  (R (Ending.returned (Value.tuple #[(Value.int .i64 0), (Value.int .i64 54)])) w7)
  (R (Ending.returned (Value.tuple #[(Value.int .i64 n5), (Value.int .i64 0)])) w7))))) :
  Calls Try.prog 30 #[(Value.pointer t_1), (Value.string name_2)] w R :=
  V.calls_of_R ⟨V.assoc [], V.assocP [], V.assocC [], V.assocS [], ⟨[], true⟩⟩ Try.func30 rfl (Eq.mp (by kernel_rfl) h)

theorem slices_Sort___string_string__nf (x_1 : Option Addr) (x_1l : Nat) (x_1c : Nat) (w : World) (R : Ending → World → Prop) (h :
  Calls Try.prog 43 #[(Value.int .u64 (IntKind.wrap .u64 (((x_1l : Nat) : Int))))] w fun e3 w4 =>
  ∃ n2, e3 = Ending.returned (Value.int .i64 n2) ∧
  Calls Try.prog 42 #[(Value.slice x_1 x_1l x_1c), (Value.int .i64 0), (Value.int .i64 ((x_1l : Nat) : Int)), (Value.int .i64 n2)] w4 fun e5 w6 =>
  e5 = Ending.returned undef ∧
  R (Ending.returned undef) w6) :
  Calls Try.prog 31 #[(Value.slice x_1 x_1l x_1c)] w R :=
  V.calls_of_R ⟨V.assoc [], V.assocP [], V.assocC [], V.assocS [], ⟨[], true⟩⟩ Try.func31 rfl (Eq.mp (by kernel_rfl) h)

theorem slots_Table_int__Span_nf (t_1 : Option Addr) (w : World) (R : Ending → World → Prop) (h :
  V.sel (Option.isNone t_1)
  (R (Ending.returned (Value.int .i64 0)) w)
  (V.ptr t_1 fun a2 =>
  ∃ A3, ∃ A3l, ∃ A3c, World.cell? w (Addr.add a2 2) = some (Value.slice A3 A3l A3c) ∧
  R (Ending.returned (Value.int .i64 ((A3l : Nat) : Int))) w)) :
  Calls Try.prog 32 #[(Value.pointer t_1)] w R :=
  V.calls_of_R ⟨V.assoc [], V.assocP [], V.assocC [], V.assocS [], ⟨[], true⟩⟩ Try.func32 rfl (Eq.mp (by kernel_rfl) h)

theorem berthlaw05_World_changes_nf (w_1 : Option Addr) (o_2 : Int) (o_3 : Int) (o_4 : Int) (o_5 : ByteArray) (o_6 : Int) (i_7 : Int) (w : World) (R : Ending → World → Prop) (h :
  ∀ w8, w8 = (World.alloc w (.cells #[(Value.int .i64 o_2), (Value.int .i64 o_3), (Value.int .i64 o_4), (Value.string o_5), (Value.int .i64 o_6)] 31)) →
  ∃ n9, World.cell? w8 (Addr.add ⟨Array.size (World.heap w), 0, none⟩ 0) = some (Value.int .i64 n9) ∧
  V.sel (n9 == 1)
  (∃ n10, World.cell? w8 (Addr.add ⟨Array.size (World.heap w), 0, none⟩ 2) = some (Value.int .i64 n10) ∧
  Calls Try.prog 10 #[(Value.int .i64 n10)] w8 fun e13 w14 =>
  ∃ p11, ∃ n12, e13 = Ending.returned (Value.tuple #[(Value.pointer p11), (Value.int .i64 n12)]) ∧
  ∃ n15, World.cell? w14 (Addr.add ⟨Array.size (World.heap w), 0, none⟩ 2) = some (Value.int .i64 n15) ∧
  Calls Try.prog 25 #[(Value.int .i64 n15)] w14 fun e19 w20 =>
  ∃ n16, ∃ A17, ∃ A17l, ∃ A17c, ∃ n18, e19 = Ending.returned (Value.tuple #[(Value.agg #[(Value.int .i64 n16), (Value.slice A17 A17l A17c)]), (Value.int .i64 n18)]) ∧
  ∀ w21, w21 = (World.alloc w20 (.cells #[(Value.int .i64 0), (Value.slice none 0 0)] 54)) →
  ∃ w22, Sem.run Try.prog (Instr.storeAt 54 (Value.pointer (some ⟨Array.size (World.heap w20), 0, none⟩)) (Value.agg #[(Value.int .i64 n16), (Value.slice A17 A17l A17c)])) w21 = .ok () w22 ∧
  V.sel (n12 != n18)
  (R (Ending.returned (Value.bool false)) w22)
  (V.sel (!((!(Option.isNone p11)) == (n18 == 0)))
  (R (Ending.returned (Value.bool false)) w22)
  (V.sel (!(Option.isNone p11))
  (∃ S23 : World → Prop, S23 (World.drew w22) ∧
  ∃ n25, ∃ A26, ∃ A26l, ∃ A26c, V.cellsC (fun a_ x_ => ∀ w24, S23 w24 → World.cell? w24 a_ = some x_) ⟨Array.size (World.heap w20), 0, none⟩ [(Value.int .i64 n25), (Value.slice A26 A26l A26c)] ∧
  V.ptr w_1 fun a27 =>
  V.when (decide ((0 : Int) ≤ i_7 ∧ (i_7 : Int) < 4)) (V.ptr w_1 fun a28 =>
  ∃ w29, Sem.run Try.prog (Instr.storeAt 24 (Value.pointer (some (Addr.add (Addr.add a27 0) ((Int.toNat i_7) * 1)))) (Value.pointer p11)) (World.drew w22) = .ok () w29 ∧
  S23 w29 ∧
  V.when (decide ((0 : Int) ≤ i_7 ∧ (i_7 : Int) < 4)) (∃ w30, Sem.run Try.prog (Instr.storeAt 54 (Value.pointer (some (Addr.add (Addr.add a28 4) ((Int.toNat i_7) * 2)))) (Value.agg #[(Value.int .i64 n25), (Value.slice A26 A26l A26c)])) w29 = .ok () w30 ∧
  S23 w30 ∧
  R (Ending.returned (Value.bool true)) w30)))
  (R (Ending.returned (Value.bool true)) w22))))
  (V.sel (n9 == 2)
  (∃ S31 : World → Prop, S31 (World.drew w8) ∧
  V.ptr w_1 fun a33 =>
  V.when (decide ((0 : Int) ≤ i_7 ∧ (i_7 : Int) < 4)) (∃ p34, (∀ w32, S31 w32 → World.cell? w32 (Addr.add (Addr.add a33 0) ((Int.toNat i_7) * 1)) = some (Value.pointer p34)) ∧
  ∃ s35, (∀ w32, S31 w32 → World.cell? w32 (Addr.add ⟨Array.size (World.heap w), 0, none⟩ 3) = some (Value.string s35)) ∧
  ∃ n36, (∀ w32, S31 w32 → World.cell? w32 (Addr.add ⟨Array.size (World.heap w), 0, none⟩ 4) = some (Value.int .i64 n36)) ∧
  Calls Try.prog 11 #[(Value.pointer p34), (Value.string s35), (Value.int .i64 n36)] (World.drew w8) fun e39 w40 =>
  ∃ n37, ∃ n38, e39 = Ending.returned (Value.tuple #[(Value.int .i64 n37), (Value.int .i64 n38)]) ∧
  S31 w40 ∧
  V.ptr w_1 fun a41 =>
  V.when (decide ((0 : Int) ≤ i_7 ∧ (i_7 : Int) < 4)) (∃ p42, World.cell? w40 (Addr.add (Addr.add a41 0) ((Int.toNat i_7) * 1)) = some (Value.pointer p42) ∧
  V.sel (Option.isNone p42)
  (V.sel (n37 == 0)
  (R (Ending.returned (Value.bool (n38 == 1))) w40)
  (R (Ending.returned (Value.bool false)) w40))
  (∃ J43 : Option Addr → Int → Int → World → Prop, (∃ S44 : World → Prop, S44 (World.drew w40) ∧
  V.ptr w_1 fun a46 =>
  V.when (decide ((0 : Int) ≤ i_7 ∧ (i_7 : Int) < 4)) (∃ n47, ∃ A48, ∃ A48l, ∃ A48c, V.cellsC (fun a_ x_ => ∀ w45, S44 w45 → World.cell? w45 a_ = some x_) (Addr.add (Addr.add a46 4) ((Int.toNat i_7) * 2)) [(Value.int .i64 n47), (Value.slice A48 A48l A48c)] ∧
  ∃ s49, (∀ w45, S44 w45 → World.cell? w45 (Addr.add ⟨Array.size (World.heap w), 0, none⟩ 3) = some (Value.string s49)) ∧
  ∃ n50, (∀ w45, S44 w45 → World.cell? w45 (Addr.add ⟨Array.size (World.heap w), 0, none⟩ 4) = some (Value.int .i64 n50)) ∧
  (Calls Try.prog 44 #[(Value.agg #[(Value.int .i64 n47), (Value.slice A48 A48l A48c)]), (Value.string s49), (Value.int .i64 n50)] (World.drew w40) fun e55 w56 =>
  ∃ n51, ∃ A52, ∃ A52l, ∃ A52c, ∃ n53, ∃ n54, e55 = Ending.returned (Value.tuple #[(Value.agg #[(Value.int .i64 n51), (Value.slice A52 A52l A52c)]), (Value.int .i64 n53), (Value.int .i64 n54)]) ∧
  S44 w56 ∧
  ∀ w57, w57 = (World.alloc w56 (.cells #[(Value.int .i64 0), (Value.slice none 0 0)] 54)) →
  S44 w57 ∧
  ∃ w58, Sem.run Try.prog (Instr.storeAt 54 (Value.pointer (some ⟨Array.size (World.heap w56), 0, none⟩)) (Value.agg #[(Value.int .i64 n51), (Value.slice A52 A52l A52c)])) w57 = .ok () w58 ∧
  S44 w58 ∧
  J43 (some ⟨Array.size (World.heap w56), 0, none⟩) n53 n54 w58) ∧
  (∀ w59, w59 = (World.alloc (World.drew w40) (.cells #[(Value.int .i64 0), (Value.slice none 0 0)] 54)) →
  S44 w59 ∧
  Calls Try.prog 44 #[(Value.agg #[(Value.int .i64 n47), (Value.slice A48 A48l A48c)]), (Value.string s49), (Value.int .i64 n50)] w59 fun e64 w65 =>
  ∃ n60, ∃ A61, ∃ A61l, ∃ A61c, ∃ n62, ∃ n63, e64 = Ending.returned (Value.tuple #[(Value.agg #[(Value.int .i64 n60), (Value.slice A61 A61l A61c)]), (Value.int .i64 n62), (Value.int .i64 n63)]) ∧
  S44 w65 ∧
  ∃ w66, Sem.run Try.prog (Instr.storeAt 54 (Value.pointer (some ⟨Array.size (World.heap (World.drew w40)), 0, none⟩)) (Value.agg #[(Value.int .i64 n60), (Value.slice A61 A61l A61c)])) w65 = .ok () w66 ∧
  S44 w66 ∧
  J43 (some ⟨Array.size (World.heap (World.drew w40)), 0, none⟩) n62 n63 w66) ∧ True)) ∧
  ∀ m_67 s_68 f_69 (j70 : Nat → Value) (w71 : World), J43 m_67 s_68 f_69 w71 →
  ∃ S72 : World → Prop, S72 (World.drew w71) ∧
  V.ptr m_67 fun a74 =>
  ∃ n75, ∃ A76, ∃ A76l, ∃ A76c, V.cellsC (fun a_ x_ => ∀ w73, S72 w73 → World.cell? w73 a_ = some x_) a74 [(Value.int .i64 n75), (Value.slice A76 A76l A76c)] ∧
  V.ptr w_1 fun a77 =>
  V.when (decide ((0 : Int) ≤ i_7 ∧ (i_7 : Int) < 4)) (∃ w78, Sem.run Try.prog (Instr.storeAt 54 (Value.pointer (some (Addr.add (Addr.add a77 4) ((Int.toNat i_7) * 2)))) (Value.agg #[(Value.int .i64 n75), (Value.slice A76 A76l A76c)])) (World.drew w71) = .ok () w78 ∧
  S72 w78 ∧
  V.sel (n37 == s_68)
  (R (Ending.returned (Value.bool (n38 == f_69))) w78)
  (R (Ending.returned (Value.bool false)) w78))))))
  (V.sel (n9 == 3)
  (∃ S79 : World → Prop, S79 (World.drew w8) ∧
  V.ptr w_1 fun a81 =>
  V.when (decide ((0 : Int) ≤ i_7 ∧ (i_7 : Int) < 4)) (∃ p82, (∀ w80, S79 w80 → World.cell? w80 (Addr.add (Addr.add a81 0) ((Int.toNat i_7) * 1)) = some (Value.pointer p82)) ∧
  ∃ s83, (∀ w80, S79 w80 → World.cell? w80 (Addr.add ⟨Array.size (World.heap w), 0, none⟩ 3) = some (Value.string s83)) ∧
  ∃ n84, (∀ w80, S79 w80 → World.cell? w80 (Addr.add ⟨Array.size (World.heap w), 0, none⟩ 4) = some (Value.int .i64 n84)) ∧
  Calls Try.prog 12 #[(Value.pointer p82), (Value.string s83), (Value.int .i64 n84)] (World.drew w8) fun e86 w87 =>
  ∃ n85, e86 = Ending.returned (Value.int .i64 n85) ∧
  S79 w87 ∧
  V.ptr w_1 fun a88 =>
  V.when (decide ((0 : Int) ≤ i_7 ∧ (i_7 : Int) < 4)) (∃ p89, World.cell? w87 (Addr.add (Addr.add a88 0) ((Int.toNat i_7) * 1)) = some (Value.pointer p89) ∧
  V.sel (Option.isNone p89)
  (R (Ending.returned (Value.bool (n85 == 1))) w87)
  (∃ J90 : Option Addr → Int → World → Prop, (∃ S91 : World → Prop, S91 (World.drew w87) ∧
  V.ptr w_1 fun a93 =>
  V.when (decide ((0 : Int) ≤ i_7 ∧ (i_7 : Int) < 4)) (∃ n94, ∃ A95, ∃ A95l, ∃ A95c, V.cellsC (fun a_ x_ => ∀ w92, S91 w92 → World.cell? w92 a_ = some x_) (Addr.add (Addr.add a93 4) ((Int.toNat i_7) * 2)) [(Value.int .i64 n94), (Value.slice A95 A95l A95c)] ∧
  ∃ s96, (∀ w92, S91 w92 → World.cell? w92 (Addr.add ⟨Array.size (World.heap w), 0, none⟩ 3) = some (Value.string s96)) ∧
  ∃ n97, (∀ w92, S91 w92 → World.cell? w92 (Addr.add ⟨Array.size (World.heap w), 0, none⟩ 4) = some (Value.int .i64 n97)) ∧
  (Calls Try.prog 45 #[(Value.agg #[(Value.int .i64 n94), (Value.slice A95 A95l A95c)]), (Value.string s96), (Value.int .i64 n97)] (World.drew w87) fun e101 w102 =>
  ∃ n98, ∃ A99, ∃ A99l, ∃ A99c, ∃ n100, e101 = Ending.returned (Value.tuple #[(Value.agg #[(Value.int .i64 n98), (Value.slice A99 A99l A99c)]), (Value.int .i64 n100)]) ∧
  S91 w102 ∧
  ∀ w103, w103 = (World.alloc w102 (.cells #[(Value.int .i64 0), (Value.slice none 0 0)] 54)) →
  S91 w103 ∧
  ∃ w104, Sem.run Try.prog (Instr.storeAt 54 (Value.pointer (some ⟨Array.size (World.heap w102), 0, none⟩)) (Value.agg #[(Value.int .i64 n98), (Value.slice A99 A99l A99c)])) w103 = .ok () w104 ∧
  S91 w104 ∧
  J90 (some ⟨Array.size (World.heap w102), 0, none⟩) n100 w104) ∧
  (∀ w105, w105 = (World.alloc (World.drew w87) (.cells #[(Value.int .i64 0), (Value.slice none 0 0)] 54)) →
  S91 w105 ∧
  Calls Try.prog 45 #[(Value.agg #[(Value.int .i64 n94), (Value.slice A95 A95l A95c)]), (Value.string s96), (Value.int .i64 n97)] w105 fun e109 w110 =>
  ∃ n106, ∃ A107, ∃ A107l, ∃ A107c, ∃ n108, e109 = Ending.returned (Value.tuple #[(Value.agg #[(Value.int .i64 n106), (Value.slice A107 A107l A107c)]), (Value.int .i64 n108)]) ∧
  S91 w110 ∧
  ∃ w111, Sem.run Try.prog (Instr.storeAt 54 (Value.pointer (some ⟨Array.size (World.heap (World.drew w87)), 0, none⟩)) (Value.agg #[(Value.int .i64 n106), (Value.slice A107 A107l A107c)])) w110 = .ok () w111 ∧
  S91 w111 ∧
  J90 (some ⟨Array.size (World.heap (World.drew w87)), 0, none⟩) n108 w111) ∧ True)) ∧
  ∀ m_112 f_113 (j114 : Nat → Value) (w115 : World), J90 m_112 f_113 w115 →
  ∃ S116 : World → Prop, S116 (World.drew w115) ∧
  V.ptr m_112 fun a118 =>
  ∃ n119, ∃ A120, ∃ A120l, ∃ A120c, V.cellsC (fun a_ x_ => ∀ w117, S116 w117 → World.cell? w117 a_ = some x_) a118 [(Value.int .i64 n119), (Value.slice A120 A120l A120c)] ∧
  V.ptr w_1 fun a121 =>
  V.when (decide ((0 : Int) ≤ i_7 ∧ (i_7 : Int) < 4)) (∃ w122, Sem.run Try.prog (Instr.storeAt 54 (Value.pointer (some (Addr.add (Addr.add a121 4) ((Int.toNat i_7) * 2)))) (Value.agg #[(Value.int .i64 n119), (Value.slice A120 A120l A120c)])) (World.drew w115) = .ok () w122 ∧
  S116 w122 ∧
  R (Ending.returned (Value.bool (n85 == f_113))) w122)))))
  (V.sel (n9 == 4)
  (∃ S123 : World → Prop, S123 (World.drew w8) ∧
  V.ptr w_1 fun a125 =>
  V.when (decide ((0 : Int) ≤ i_7 ∧ (i_7 : Int) < 4)) (∃ p126, (∀ w124, S123 w124 → World.cell? w124 (Addr.add (Addr.add a125 0) ((Int.toNat i_7) * 1)) = some (Value.pointer p126)) ∧
  ∃ s127, (∀ w124, S123 w124 → World.cell? w124 (Addr.add ⟨Array.size (World.heap w), 0, none⟩ 3) = some (Value.string s127)) ∧
  Calls Try.prog 13 #[(Value.pointer p126), (Value.string s127)] (World.drew w8) fun e130 w131 =>
  ∃ n128, ∃ n129, e130 = Ending.returned (Value.tuple #[(Value.int .i64 n128), (Value.int .i64 n129)]) ∧
  S123 w131 ∧
  V.ptr w_1 fun a132 =>
  V.when (decide ((0 : Int) ≤ i_7 ∧ (i_7 : Int) < 4)) (∃ p133, World.cell? w131 (Addr.add (Addr.add a132 0) ((Int.toNat i_7) * 1)) = some (Value.pointer p133) ∧
  V.sel (Option.isNone p133)
  (V.sel (n128 == 0)
  (R (Ending.returned (Value.bool (n129 == 1))) w131)
  (R (Ending.returned (Value.bool false)) w131))
  (∃ J134 : Option Addr → Int → Int → World → Prop, (∃ S135 : World → Prop, S135 (World.drew w131) ∧
  V.ptr w_1 fun a137 =>
  V.when (decide ((0 : Int) ≤ i_7 ∧ (i_7 : Int) < 4)) (∃ n138, ∃ A139, ∃ A139l, ∃ A139c, V.cellsC (fun a_ x_ => ∀ w136, S135 w136 → World.cell? w136 a_ = some x_) (Addr.add (Addr.add a137 4) ((Int.toNat i_7) * 2)) [(Value.int .i64 n138), (Value.slice A139 A139l A139c)] ∧
  ∃ s140, (∀ w136, S135 w136 → World.cell? w136 (Addr.add ⟨Array.size (World.heap w), 0, none⟩ 3) = some (Value.string s140)) ∧
  (Calls Try.prog 46 #[(Value.agg #[(Value.int .i64 n138), (Value.slice A139 A139l A139c)]), (Value.string s140)] (World.drew w131) fun e145 w146 =>
  ∃ n141, ∃ A142, ∃ A142l, ∃ A142c, ∃ n143, ∃ n144, e145 = Ending.returned (Value.tuple #[(Value.agg #[(Value.int .i64 n141), (Value.slice A142 A142l A142c)]), (Value.int .i64 n143), (Value.int .i64 n144)]) ∧
  S135 w146 ∧
  ∀ w147, w147 = (World.alloc w146 (.cells #[(Value.int .i64 0), (Value.slice none 0 0)] 54)) →
  S135 w147 ∧
  ∃ w148, Sem.run Try.prog (Instr.storeAt 54 (Value.pointer (some ⟨Array.size (World.heap w146), 0, none⟩)) (Value.agg #[(Value.int .i64 n141), (Value.slice A142 A142l A142c)])) w147 = .ok () w148 ∧
  S135 w148 ∧
  J134 (some ⟨Array.size (World.heap w146), 0, none⟩) n143 n144 w148) ∧
  (∀ w149, w149 = (World.alloc (World.drew w131) (.cells #[(Value.int .i64 0), (Value.slice none 0 0)] 54)) →
  S135 w149 ∧
  Calls Try.prog 46 #[(Value.agg #[(Value.int .i64 n138), (Value.slice A139 A139l A139c)]), (Value.string s140)] w149 fun e154 w155 =>
  ∃ n150, ∃ A151, ∃ A151l, ∃ A151c, ∃ n152, ∃ n153, e154 = Ending.returned (Value.tuple #[(Value.agg #[(Value.int .i64 n150), (Value.slice A151 A151l A151c)]), (Value.int .i64 n152), (Value.int .i64 n153)]) ∧
  S135 w155 ∧
  ∃ w156, Sem.run Try.prog (Instr.storeAt 54 (Value.pointer (some ⟨Array.size (World.heap (World.drew w131)), 0, none⟩)) (Value.agg #[(Value.int .i64 n150), (Value.slice A151 A151l A151c)])) w155 = .ok () w156 ∧
  S135 w156 ∧
  J134 (some ⟨Array.size (World.heap (World.drew w131)), 0, none⟩) n152 n153 w156) ∧ True)) ∧
  ∀ m_157 s_158 f_159 (j160 : Nat → Value) (w161 : World), J134 m_157 s_158 f_159 w161 →
  ∃ S162 : World → Prop, S162 (World.drew w161) ∧
  V.ptr m_157 fun a164 =>
  ∃ n165, ∃ A166, ∃ A166l, ∃ A166c, V.cellsC (fun a_ x_ => ∀ w163, S162 w163 → World.cell? w163 a_ = some x_) a164 [(Value.int .i64 n165), (Value.slice A166 A166l A166c)] ∧
  V.ptr w_1 fun a167 =>
  V.when (decide ((0 : Int) ≤ i_7 ∧ (i_7 : Int) < 4)) (∃ w168, Sem.run Try.prog (Instr.storeAt 54 (Value.pointer (some (Addr.add (Addr.add a167 4) ((Int.toNat i_7) * 2)))) (Value.agg #[(Value.int .i64 n165), (Value.slice A166 A166l A166c)])) (World.drew w161) = .ok () w168 ∧
  S162 w168 ∧
  V.sel (n128 == s_158)
  (R (Ending.returned (Value.bool (n129 == f_159))) w168)
  (R (Ending.returned (Value.bool false)) w168))))))
  (R (Ending.returned (Value.bool true)) w8))))) :
  Calls Try.prog 33 #[(Value.pointer w_1), (Value.agg #[(Value.int .i64 o_2), (Value.int .i64 o_3), (Value.int .i64 o_4), (Value.string o_5), (Value.int .i64 o_6)]), (Value.int .i64 i_7)] w R :=
  V.calls_of_R ⟨V.assoc [], V.assocP [(8, V.line [0, 1, 2, 3, 4, 5, 6, 7, 8, 10, 11, 9, 12, 13]), (10, V.line [0, 1, 2, 3, 4, 5, 6, 7, 8, 9, 10, 11, 12, 13, 14, 15]), (13, (V.Plan.one 0 (V.Plan.one 1 (V.Plan.one 2 (V.Plan.one 3 (V.Plan.one 4 (V.Plan.one 5 (V.Plan.one 6 (V.Plan.one 7 (V.Plan.one 8 (V.Plan.one 9 (V.Plan.alt 10 (V.Plan.one 11 (V.Plan.one 12 (V.Plan.one 13 (V.Plan.one 14 (V.Plan.one 15 (V.Plan.one 16 (V.Plan.one 17 (V.Plan.one 18 V.Plan.done)))))))) (V.Plan.alt 15 (V.Plan.one 10 (V.Plan.one 11 (V.Plan.one 12 (V.Plan.one 13 (V.Plan.one 14 (V.Plan.one 16 (V.Plan.one 17 (V.Plan.one 18 V.Plan.done)))))))) V.Plan.stop))))))))))))), (14, V.line [0, 1, 2, 3, 4, 5, 6]), (17, V.line [0, 1, 2, 3, 4, 5, 6, 7, 8, 9, 10, 11]), (20, (V.Plan.one 0 (V.Plan.one 1 (V.Plan.one 2 (V.Plan.one 3 (V.Plan.one 4 (V.Plan.one 5 (V.Plan.one 6 (V.Plan.one 7 (V.Plan.one 8 (V.Plan.one 9 (V.Plan.alt 10 (V.Plan.one 11 (V.Plan.one 12 (V.Plan.one 13 (V.Plan.one 14 (V.Plan.one 15 (V.Plan.one 16 V.Plan.done)))))) (V.Plan.alt 14 (V.Plan.one 10 (V.Plan.one 11 (V.Plan.one 12 (V.Plan.one 13 (V.Plan.one 15 (V.Plan.one 16 V.Plan.done)))))) V.Plan.stop))))))))))))), (21, V.line [0, 1, 2, 3, 4, 5, 6]), (24, V.line [0, 1, 2, 3, 4, 5, 6, 7, 8, 9, 10, 11, 12, 13]), (27, (V.Plan.one 0 (V.Plan.one 1 (V.Plan.one 2 (V.Plan.one 3 (V.Plan.one 4 (V.Plan.one 5 (V.Plan.one 6 (V.Plan.one 7 (V.Plan.alt 8 (V.Plan.one 9 (V.Plan.one 10 (V.Plan.one 11 (V.Plan.one 12 (V.Plan.one 13 (V.Plan.one 14 (V.Plan.one 15 (V.Plan.one 16 V.Plan.done)))))))) (V.Plan.alt 13 (V.Plan.one 8 (V.Plan.one 9 (V.Plan.one 10 (V.Plan.one 11 (V.Plan.one 12 (V.Plan.one 14 (V.Plan.one 15 (V.Plan.one 16 V.Plan.done)))))))) V.Plan.stop))))))))))), (28, V.line [0, 1, 2, 3, 4, 5, 6])], V.assocC [(13, ([13, 14, 15], [V.Sh.one .ptr, V.Sh.one (.int .i64), V.Sh.one (.int .i64)])), (20, ([17, 18], [V.Sh.one .ptr, V.Sh.one (.int .i64)])), (27, ([21, 22, 23], [V.Sh.one .ptr, V.Sh.one (.int .i64), V.Sh.one (.int .i64)]))], V.assocS [], ⟨[], true⟩⟩ Try.func33 rfl (Eq.mp (by kernel_rfl) h)

theorem berthref05_Table_Find_nf (t_1 : Int) (t_2 : Option Addr) (t_2l : Nat) (t_2c : Nat) (name_3 : ByteArray) (w : World) (R : Ending → World → Prop) (h :
  ∀ w4, w4 = (World.alloc w (.cells #[(Value.int .i64 t_1), (Value.slice t_2 t_2l t_2c)] 54)) →
  ∃ I5 : Int → World → Prop, ∃ μ6 : Int → World → Nat, I5 0 w4 ∧
  ∀ i_7 (j8 : Nat → Value) (w9 : World), I5 i_7 w9 →
  (∃ A10, ∃ A10l, ∃ A10c, World.cell? w9 (Addr.add ⟨Array.size (World.heap w), 0, none⟩ 1) = some (Value.slice A10 A10l A10c) ∧
  V.sel (decide (i_7 < ((A10l : Nat) : Int)))
  (∃ A11, ∃ A11l, ∃ A11c, World.cell? w9 (Addr.add ⟨Array.size (World.heap w), 0, none⟩ 1) = some (Value.slice A11 A11l A11c) ∧
  V.when (decide ((0 : Int) ≤ i_7 ∧ (i_7 : Int) < ((A11l : Nat) : Int))) (V.ptr A11 fun a12 =>
  ∃ s13, World.cell? w9 (Addr.add (Addr.add a12 ((Int.toNat i_7) * 3)) 1) = some (Value.string s13) ∧
  V.sel (ByteArray.toList s13 == ByteArray.toList name_3)
  (R (Ending.returned (Value.int .i64 i_7)) w9)
  (I5 (IntKind.wrap .i64 (i_7 + 1)) w9 ∧ μ6 (IntKind.wrap .i64 (i_7 + 1)) w9 < μ6 i_7 w9)))
  (R (Ending.returned (Value.int .i64 (-1))) w9))) :
  Calls Try.prog 34 #[(Value.agg #[(Value.int .i64 t_1), (Value.slice t_2 t_2l t_2c)]), (Value.string name_3)] w R :=
  V.calls_of_R ⟨V.assoc [(0, [5])], V.assocP [], V.assocC [], V.assocS [], ⟨[], true⟩⟩ Try.func34 rfl (Eq.mp (by kernel_rfl) h)

theorem berthref05_Table_At_nf (t_1 : Int) (t_2 : Option Addr) (t_2l : Nat) (t_2c : Nat) (slot_3 : Int) (w : World) (R : Ending → World → Prop) (h :
  ∀ w4, w4 = (World.alloc w (.cells #[(Value.int .i64 t_1), (Value.slice t_2 t_2l t_2c)] 54)) →
  ∃ I5 : Int → World → Prop, ∃ μ6 : Int → World → Nat, I5 0 w4 ∧
  ∀ i_7 (j8 : Nat → Value) (w9 : World), I5 i_7 w9 →
  (∃ A10, ∃ A10l, ∃ A10c, World.cell? w9 (Addr.add ⟨Array.size (World.heap w), 0, none⟩ 1) = some (Value.slice A10 A10l A10c) ∧
  V.sel (decide (i_7 < ((A10l : Nat) : Int)))
  (∃ A11, ∃ A11l, ∃ A11c, World.cell? w9 (Addr.add ⟨Array.size (World.heap w), 0, none⟩ 1) = some (Value.slice A11 A11l A11c) ∧
  V.when (decide ((0 : Int) ≤ i_7 ∧ (i_7 : Int) < ((A11l : Nat) : Int))) (V.ptr A11 fun a12 =>
  ∃ n13, World.cell? w9 (Addr.add (Addr.add a12 ((Int.toNat i_7) * 3)) 0) = some (Value.int .i64 n13) ∧
  V.sel (n13 == slot_3)
  (R (Ending.returned (Value.int .i64 i_7)) w9)
  (I5 (IntKind.wrap .i64 (i_7 + 1)) w9 ∧ μ6 (IntKind.wrap .i64 (i_7 + 1)) w9 < μ6 i_7 w9)))
  (R (Ending.returned (Value.int .i64 (-1))) w9))) :
  Calls Try.prog 35 #[(Value.agg #[(Value.int .i64 t_1), (Value.slice t_2 t_2l t_2c)]), (Value.int .i64 slot_3)] w R :=
  V.calls_of_R ⟨V.assoc [(0, [5])], V.assocP [], V.assocC [], V.assocS [], ⟨[], true⟩⟩ Try.func35 rfl (Eq.mp (by kernel_rfl) h)

theorem berthref05_Table_Span_nf (t_1 : Int) (t_2 : Option Addr) (t_2l : Nat) (t_2c : Nat) (w : World) (R : Ending → World → Prop) (h :
  ∀ w3, w3 = (World.alloc w (.cells #[(Value.int .i64 t_1), (Value.slice t_2 t_2l t_2c)] 54)) →
  ∃ I4 : Int → Int → World → Prop, ∃ μ5 : Int → Int → World → Nat, I4 0 0 w3 ∧
  ∀ n_6 i_7 (j8 : Nat → Value) (w9 : World), I4 n_6 i_7 w9 →
  (∃ A10, ∃ A10l, ∃ A10c, World.cell? w9 (Addr.add ⟨Array.size (World.heap w), 0, none⟩ 1) = some (Value.slice A10 A10l A10c) ∧
  V.sel (decide (i_7 < ((A10l : Nat) : Int)))
  (∃ A11, ∃ A11l, ∃ A11c, World.cell? w9 (Addr.add ⟨Array.size (World.heap w), 0, none⟩ 1) = some (Value.slice A11 A11l A11c) ∧
  V.when (decide ((0 : Int) ≤ i_7 ∧ (i_7 : Int) < ((A11l : Nat) : Int))) (V.ptr A11 fun a12 =>
  ∃ n13, World.cell? w9 (Addr.add (Addr.add a12 ((Int.toNat i_7) * 3)) 0) = some (Value.int .i64 n13) ∧
  V.lt (if (IntKind.wrap .i64 (n13 + 1)) > n_6 then (IntKind.wrap .i64 (n13 + 1)) else n_6) fun x14 =>
  I4 x14 (IntKind.wrap .i64 (i_7 + 1)) w9 ∧ μ5 x14 (IntKind.wrap .i64 (i_7 + 1)) w9 < μ5 n_6 i_7 w9))
  (R (Ending.returned (Value.int .i64 n_6)) w9))) :
  Calls Try.prog 36 #[(Value.agg #[(Value.int .i64 t_1), (Value.slice t_2 t_2l t_2c)])] w R :=
  V.calls_of_R ⟨V.assoc [(0, [3, 4])], V.assocP [], V.assocC [], V.assocS [], ⟨[], true⟩⟩ Try.func36 rfl (Eq.mp (by kernel_rfl) h)

theorem berthref05_Table_Names_nf (t_1 : Int) (t_2 : Option Addr) (t_2l : Nat) (t_2c : Nat) (w : World) (R : Ending → World → Prop) (h :
  ∀ w3, w3 = (World.alloc w (.cells #[(Value.int .i64 t_1), (Value.slice t_2 t_2l t_2c)] 54)) →
  ∀ w4, w4 = (World.alloc w3 (.cells #[] 9)) →
  ∃ I5 : Option Addr → Nat → Nat → Int → World → Prop, ∃ μ6 : Option Addr → Nat → Nat → Int → World → Nat, I5 (some ⟨Array.size (World.heap w3), 0, none⟩) 0 0 0 w4 ∧
  ∀ out_7 out_7l out_7c i_8 (j9 : Nat → Value) (w10 : World), I5 out_7 out_7l out_7c i_8 w10 →
  (∃ A11, ∃ A11l, ∃ A11c, World.cell? w10 (Addr.add ⟨Array.size (World.heap w), 0, none⟩ 1) = some (Value.slice A11 A11l A11c) ∧
  V.sel (decide (i_8 < ((A11l : Nat) : Int)))
  (∃ A12, ∃ A12l, ∃ A12c, World.cell? w10 (Addr.add ⟨Array.size (World.heap w), 0, none⟩ 1) = some (Value.slice A12 A12l A12c) ∧
  V.when (decide ((0 : Int) ≤ i_8 ∧ (i_8 : Int) < ((A12l : Nat) : Int))) (V.ptr A12 fun a13 =>
  ∃ s14, World.cell? w10 (Addr.add (Addr.add a13 ((Int.toNat i_8) * 3)) 1) = some (Value.string s14) ∧
  ∃ I15 : Int → World → Prop, ∃ μ16 : Int → World → Nat, I15 0 w10 ∧
  ∀ at_17 (j18 : Nat → Value) (w19 : World), I15 at_17 w19 →
  (V.sel (decide (at_17 < ((out_7l : Nat) : Int)))
  (V.when (decide ((0 : Int) ≤ at_17 ∧ (at_17 : Int) < ((out_7l : Nat) : Int))) (V.ptr out_7 fun a20 =>
  ∃ s21, World.cell? w19 (Addr.add a20 ((Int.toNat at_17) * 1)) = some (Value.string s21) ∧
  V.sel (Op.bytesLess (ByteArray.toList s21) (ByteArray.toList s14))
  (I15 (IntKind.wrap .i64 (at_17 + 1)) w19 ∧ μ16 (IntKind.wrap .i64 (at_17 + 1)) w19 < μ16 at_17 w19)
  (∀ w22, w22 = (World.alloc w19 (.cells #[(Value.string ByteArray.empty)] 9)) →
  ∃ A23, ∃ A23l, ∃ A23c, ∃ w24, Sem.run Try.prog (Builtin.append_ #[41, 41] 41 #[(Value.slice out_7 out_7l out_7c), (Value.slice (some ⟨Array.size (World.heap w19), 0, none⟩) 1 1)]) w22 = .ok (Value.slice A23 A23l A23c) w24 ∧
  V.lt (IntKind.wrap .i64 (((A23l : Nat) : Int) - 1)) fun x25 =>
  ∃ I26 : Int → World → Prop, ∃ μ27 : Int → World → Nat, I26 x25 w24 ∧
  ∀ j_28 (j29 : Nat → Value) (w30 : World), I26 j_28 w30 →
  (V.sel (decide (j_28 > at_17))
  (V.when (decide ((0 : Int) ≤ (IntKind.wrap .i64 (j_28 - 1)) ∧ ((IntKind.wrap .i64 (j_28 - 1)) : Int) < ((A23l : Nat) : Int))) (V.ptr A23 fun a31 =>
  ∃ s32, World.cell? w30 (Addr.add a31 ((Int.toNat (IntKind.wrap .i64 (j_28 - 1))) * 1)) = some (Value.string s32) ∧
  V.when (decide ((0 : Int) ≤ j_28 ∧ (j_28 : Int) < ((A23l : Nat) : Int))) (V.ptr A23 fun a33 =>
  ∃ w34, Sem.run Try.prog (Instr.storeAt 9 (Value.pointer (some (Addr.add a33 ((Int.toNat j_28) * 1)))) (Value.string s32)) w30 = .ok () w34 ∧
  I26 (IntKind.wrap .i64 (j_28 - 1)) w34 ∧ μ27 (IntKind.wrap .i64 (j_28 - 1)) w34 < μ27 j_28 w30)))
  (V.when (decide ((0 : Int) ≤ at_17 ∧ (at_17 : Int) < ((A23l : Nat) : Int))) (V.ptr A23 fun a35 =>
  ∃ w36, Sem.run Try.prog (Instr.storeAt 9 (Value.pointer (some (Addr.add a35 ((Int.toNat at_17) * 1)))) (Value.string s14)) w30 = .ok () w36 ∧
  I5 A23 A23l A23c (IntKind.wrap .i64 (i_8 + 1)) w36 ∧ μ6 A23 A23l A23c (IntKind.wrap .i64 (i_8 + 1)) w36 < μ6 out_7 out_7l out_7c i_8 w10))))))
  (∀ w37, w37 = (World.alloc w19 (.cells #[(Value.string ByteArray.empty)] 9)) →
  ∃ A38, ∃ A38l, ∃ A38c, ∃ w39, Sem.run Try.prog (Builtin.append_ #[41, 41] 41 #[(Value.slice out_7 out_7l out_7c), (Value.slice (some ⟨Array.size (World.heap w19), 0, none⟩) 1 1)]) w37 = .ok (Value.slice A38 A38l A38c) w39 ∧
  V.lt (IntKind.wrap .i64 (((A38l : Nat) : Int) - 1)) fun x40 =>
  ∃ I41 : Int → World → Prop, ∃ μ42 : Int → World → Nat, I41 x40 w39 ∧
  ∀ j_43 (j44 : Nat → Value) (w45 : World), I41 j_43 w45 →
  (V.sel (decide (j_43 > at_17))
  (V.when (decide ((0 : Int) ≤ (IntKind.wrap .i64 (j_43 - 1)) ∧ ((IntKind.wrap .i64 (j_43 - 1)) : Int) < ((A38l : Nat) : Int))) (V.ptr A38 fun a46 =>
  ∃ s47, World.cell? w45 (Addr.add a46 ((Int.toNat (IntKind.wrap .i64 (j_43 - 1))) * 1)) = some (Value.string s47) ∧
  V.when (decide ((0 : Int) ≤ j_43 ∧ (j_43 : Int) < ((A38l : Nat) : Int))) (V.ptr A38 fun a48 =>
  ∃ w49, Sem.run Try.prog (Instr.storeAt 9 (Value.pointer (some (Addr.add a48 ((Int.toNat j_43) * 1)))) (Value.string s47)) w45 = .ok () w49 ∧
  I41 (IntKind.wrap .i64 (j_43 - 1)) w49 ∧ μ42 (IntKind.wrap .i64 (j_43 - 1)) w49 < μ42 j_43 w45)))
  (V.when (decide ((0 : Int) ≤ at_17 ∧ (at_17 : Int) < ((A38l : Nat) : Int))) (V.ptr A38 fun a50 =>
  ∃ w51, Sem.run Try.prog (Instr.storeAt 9 (Value.pointer (some (Addr.add a50 ((Int.toNat at_17) * 1)))) (Value.string s14)) w45 = .ok () w51 ∧
  I5 A38 A38l A38c (IntKind.wrap .i64 (i_8 + 1)) w51 ∧ μ6 A38 A38l A38c (IntKind.wrap .i64 (i_8 + 1)) w51 < μ6 out_7 out_7l out_7c i_8 w10)))))))
  (R (Ending.returned (Value.slice out_7 out_7l out_7c)) w10))) :
  Calls Try.prog 37 #[(Value.agg #[(Value.int .i64 t_1), (Value.slice t_2 t_2l t_2c)])] w R :=
  V.calls_of_R ⟨V.assoc [(0, [3, 4]), (1, [6]), (2, [7])], V.assocP [], V.assocC [], V.assocS [], ⟨[], true⟩⟩ Try.func37 rfl (Eq.mp (by kernel_rfl) h)

theorem berthlaw05_taken_int__nf (t_1 : Option Addr) (n_2 : Int) (w : World) (R : Ending → World → Prop) (h :
  ∀ w3, w3 = (World.alloc w (.cells #[(Value.int .i64 n_2)] 3)) →
  ∀ w4, w4 = (World.alloc w3 (.cells #[] 64)) →
  ∀ w5, w5 = (World.alloc w4 (.cells #[(Value.slice none 0 0)] 62)) →
  ∃ w6, Sem.run Try.prog (Instr.storeAt 62 (Value.pointer (some ⟨Array.size (World.heap w4), 0, none⟩)) (Value.slice (some ⟨Array.size (World.heap w3), 0, none⟩) 0 0)) w5 = .ok () w6 ∧
  ∃ n7, World.cell? w6 ⟨Array.size (World.heap w), 0, none⟩ = some (Value.int .i64 n7) ∧
  V.sel (decide (n7 ≤ 0))
  (∃ A8, ∃ A8l, ∃ A8c, World.cell? w6 ⟨Array.size (World.heap w4), 0, none⟩ = some (Value.slice A8 A8l A8c) ∧
  R (Ending.returned (Value.slice A8 A8l A8c)) w6)
  (Calls Try.prog 22 #[(Value.pointer t_1)] w6 fun e10 w11 =>
  ∃ f9, ∃ f9a, ∃ f9c, e10 = Ending.returned (Value.func (.func f9) f9a f9c) ∧
  V.when (V.hasB Try.prog f9 && true) (∀ (Rc12 : Loop) (l13 : Nat) (w14 : World), l13 = Array.size (World.heap w11) + 1 → w14 = World.alloc (World.alloc w11 (.deferred (some []))) (.loop { Rc12 with state := .ready, pending := none }) →
  (∀ y20_17 y21_18 (W15 : World) (R16 : Ending → World → Prop), V.LoopSt W15 l13 Rc12 .ready none →
  (V.LoopSt W15 l13 Rc12 .ready none ∧
  ∃ A19, ∃ A19l, ∃ A19c, World.cell? (V.setLoop W15 l13 Rc12 .busy none) ⟨Array.size (World.heap w4), 0, none⟩ = some (Value.slice A19 A19l A19c) ∧
  ∀ w20, w20 = (World.alloc (V.setLoop W15 l13 Rc12 .busy none) (.cells #[(Value.int .i64 y20_17), (Value.string y21_18)] 64)) →
  ∃ A21, ∃ A21l, ∃ A21c, ∃ w22, Sem.run Try.prog (Builtin.append_ #[62, 62] 62 #[(Value.slice A19 A19l A19c), (Value.slice (some ⟨Array.size (World.heap (V.setLoop W15 l13 Rc12 .busy none)), 0, none⟩) 1 1)]) w20 = .ok (Value.slice A21 A21l A21c) w22 ∧
  ∃ w23, Sem.run Try.prog (Instr.storeAt 62 (Value.pointer (some ⟨Array.size (World.heap w4), 0, none⟩)) (Value.slice A21 A21l A21c)) w22 = .ok () w23 ∧
  ∃ A24, ∃ A24l, ∃ A24c, World.cell? w23 ⟨Array.size (World.heap w4), 0, none⟩ = some (Value.slice A24 A24l A24c) ∧
  ∃ n25, World.cell? w23 ⟨Array.size (World.heap w), 0, none⟩ = some (Value.int .i64 n25) ∧
  V.sel (decide (((A24l : Nat) : Int) ≥ n25))
  (V.LoopSt w23 l13 Rc12 .busy none ∧ R16 (Ending.returned (Value.bool false)) (V.setLoop w23 l13 Rc12 .done (some (Code.exit 0))))
  (V.LoopSt w23 l13 Rc12 .busy none ∧ R16 (Ending.returned (Value.bool true)) (V.setLoop w23 l13 Rc12 .ready none))) →
  V.Yield Try.prog l13 [(Value.int .i64 y20_17), (Value.string y21_18)] W15 R16) →
  Calls Try.prog f9 ⟨Array.toList f9a ++ [(Value.func (.yield l13) #[] #[])] ++ Array.toList f9c⟩ w14 fun e26 w28 => (∃ v27, e26 = Ending.returned v27) ∧
  ((V.LoopSt w28 l13 Rc12 .ready none ∧
  ∃ A29, ∃ A29l, ∃ A29c, World.cell? (V.setLoop w28 l13 Rc12 .exhausted none) ⟨Array.size (World.heap w4), 0, none⟩ = some (Value.slice A29 A29l A29c) ∧
  V.closeR (Array.size (World.heap w11) :: []) (V.setLoop w28 l13 Rc12 .exhausted none) fun w30 =>
  R (Ending.returned (Value.slice A29 A29l A29c)) w30) ∨
  (V.LoopSt w28 l13 Rc12 .done (some (Code.exit 0)) ∧
  ∃ A31, ∃ A31l, ∃ A31c, World.cell? (V.setLoop w28 l13 Rc12 .exhausted (some (Code.exit 0))) ⟨Array.size (World.heap w4), 0, none⟩ = some (Value.slice A31 A31l A31c) ∧
  V.closeR (Array.size (World.heap w11) :: []) (V.setLoop w28 l13 Rc12 .exhausted (some (Code.exit 0))) fun w32 =>
  R (Ending.returned (Value.slice A31 A31l A31c)) w32) ∨
  False)))) :
  Calls Try.prog 38 #[(Value.pointer t_1), (Value.int .i64 n_2)] w R :=
  V.calls_of_R ⟨V.assoc [], V.assocP [], V.assocC [], V.assocS [(0, [V.Sh.one (.int .i64), V.Sh.one .str])], ⟨[], true⟩⟩ Try.func38 rfl (Eq.mp (by kernel_rfl) h)

theorem berthlaw05_World_copied_nf (w_1 : Option Addr) (i_2 : Int) (j_3 : Int) (w : World) (R : Ending → World → Prop) (h :
  V.ptr w_1 fun a4 =>
  V.when (decide ((0 : Int) ≤ i_2 ∧ (i_2 : Int) < 4)) (∃ p5, World.cell? w (Addr.add (Addr.add a4 0) ((Int.toNat i_2) * 1)) = some (Value.pointer p5) ∧
  Calls Try.prog 27 #[(Value.pointer p5), Value.nilFunc] w fun e7 w8 =>
  ∃ p6, e7 = Ending.returned (Value.pointer p6) ∧
  V.ptr w_1 fun a9 =>
  V.when (decide ((0 : Int) ≤ i_2 ∧ (i_2 : Int) < 4)) (∃ p10, World.cell? w8 (Addr.add (Addr.add a9 0) ((Int.toNat i_2) * 1)) = some (Value.pointer p10) ∧
  V.sel (!((Option.isNone p6) == (Option.isNone p10)))
  (R (Ending.returned (Value.bool false)) w8)
  (∃ S11 : World → Prop, S11 (World.drew w8) ∧
  V.ptr w_1 fun a13 =>
  V.when (decide ((0 : Int) ≤ i_2 ∧ (i_2 : Int) < 4)) (∃ n14, ∃ A15, ∃ A15l, ∃ A15c, V.cellsC (fun a_ x_ => ∀ w12, S11 w12 → World.cell? w12 a_ = some x_) (Addr.add (Addr.add a13 4) ((Int.toNat i_2) * 2)) [(Value.int .i64 n14), (Value.slice A15 A15l A15c)] ∧
  V.ptr w_1 fun a16 =>
  V.when (decide ((0 : Int) ≤ j_3 ∧ (j_3 : Int) < 4)) (V.ptr w_1 fun a17 =>
  ∃ w18, Sem.run Try.prog (Instr.storeAt 24 (Value.pointer (some (Addr.add (Addr.add a16 0) ((Int.toNat j_3) * 1)))) (Value.pointer p6)) (World.drew w8) = .ok () w18 ∧
  S11 w18 ∧
  V.when (decide ((0 : Int) ≤ j_3 ∧ (j_3 : Int) < 4)) (∃ w19, Sem.run Try.prog (Instr.storeAt 54 (Value.pointer (some (Addr.add (Addr.add a17 4) ((Int.toNat j_3) * 2)))) (Value.agg #[(Value.int .i64 n14), (Value.slice A15 A15l A15c)])) w18 = .ok () w19 ∧
  S11 w19 ∧
  R (Ending.returned (Value.bool true)) w19))))))) :
  Calls Try.prog 39 #[(Value.pointer w_1), (Value.int .i64 i_2), (Value.int .i64 j_3)] w R :=
  V.calls_of_R ⟨V.assoc [], V.assocP [(4, V.line [0, 1, 2, 3, 4, 5, 6, 7, 8, 9, 10, 11, 12, 13, 15, 16, 14, 17, 18])], V.assocC [], V.assocS [], ⟨[], true⟩⟩ Try.func39 rfl (Eq.mp (by kernel_rfl) h)

theorem slices_Clone___slots_row_int__slots_row_int___nf (s_1 : Option Addr) (s_1l : Nat) (s_1c : Nat) (w : World) (R : Ending → World → Prop) (h :
  V.sel (Option.isNone s_1)
  (R (Ending.returned (Value.slice none 0 0)) w)
  (∀ w2, w2 = (World.alloc w (.cells #[] 81)) →
  ∃ A3, ∃ A3l, ∃ A3c, ∃ w4, Sem.run Try.prog (Builtin.append_ #[77, 77] 77 #[(Value.slice (some ⟨Array.size (World.heap w), 0, none⟩) 0 0), (Value.slice s_1 s_1l s_1c)]) w2 = .ok (Value.slice A3 A3l A3c) w4 ∧
  R (Ending.returned (Value.slice A3 A3l A3c)) w4)) :
  Calls Try.prog 40 #[(Value.slice s_1 s_1l s_1c)] w R :=
  V.calls_of_R ⟨V.assoc [], V.assocP [], V.assocC [], V.assocS [], ⟨[], true⟩⟩ Try.func40 rfl (Eq.mp (by kernel_rfl) h)

theorem slots_Table_int__All_l1_nf (yl : Nat) (free0_1 : Option Addr) (w : World) (R : Ending → World → Prop) (h :
  V.ptr free0_1 fun a2 =>
  ∃ A3, ∃ A3l, ∃ A3c, World.cell? w a2 = some (Value.slice A3 A3l A3c) ∧
  ∃ I4 : Int → World → Prop, ∃ μ5 : Int → World → Nat, I4 0 w ∧
  ∀ t7_6 (j7 : Nat → Value) (w8 : World), I4 t7_6 w8 →
  (V.sel (decide (t7_6 < ((A3l : Nat) : Int)))
  (V.when (decide ((0 : Int) ≤ t7_6 ∧ (t7_6 : Int) < ((A3l : Nat) : Int))) (V.ptr A3 fun a9 =>
  ∃ b10, ∃ s11, ∃ n12, V.cellsC (fun a_ x_ => World.cell? w8 a_ = some x_) (Addr.add a9 ((Int.toNat t7_6) * 3)) [(Value.bool b10), (Value.string s11), (Value.int .i64 n12)] ∧
  ∀ w13, w13 = (World.alloc w8 (.cells #[(Value.bool false), (Value.string ByteArray.empty), (Value.int .i64 0)] 81)) →
  ∃ w14, Sem.run Try.prog (Instr.storeAt 81 (Value.pointer (some ⟨Array.size (World.heap w8), 0, none⟩)) (Value.agg #[(Value.bool b10), (Value.string s11), (Value.int .i64 n12)])) w13 = .ok () w14 ∧
  ∃ b15, World.cell? w14 (Addr.add ⟨Array.size (World.heap w8), 0, none⟩ 0) = some (Value.bool b15) ∧
  V.sel b15
  (∃ s16, World.cell? w14 (Addr.add ⟨Array.size (World.heap w8), 0, none⟩ 1) = some (Value.string s16) ∧
  V.Yield Try.prog yl [(Value.int .i64 t7_6), (Value.string s16)] w14 fun e18 w19 =>
  ∃ b17, e18 = Ending.returned (Value.bool b17) ∧
  V.sel (!b17)
  (R (Ending.returned undef) w19)
  (I4 (IntKind.wrap .i64 (t7_6 + 1)) w19 ∧ μ5 (IntKind.wrap .i64 (t7_6 + 1)) w19 < μ5 t7_6 w8))
  (I4 (IntKind.wrap .i64 (t7_6 + 1)) w14 ∧ μ5 (IntKind.wrap .i64 (t7_6 + 1)) w14 < μ5 t7_6 w8)))
  (R (Ending.returned undef) w8))) :
  Calls Try.prog 41 #[(Value.func (.yield yl) #[] #[]), (Value.pointer free0_1)] w R :=
  V.calls_of_R ⟨V.assoc [(0, [7])], V.assocP [], V.assocC [], V.assocS [], ⟨[], true⟩⟩ Try.func41 rfl (Eq.mp (by kernel_rfl) h)

end Go.Proofs.Ytcampkaenlohbaa
