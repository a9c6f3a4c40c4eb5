/- Normal forms of the program's functions, printed by a program of mine; the kernel checks each. -/
import Derived.Test.YtcampkaenlohbaaDoorProg
import Derived.Test.YtcampkaenlohbaaDoorV2
set_option linter.unusedVariables false
set_option maxRecDepth 100000
namespace Go.Proofs.YtcampkaenlohbaaDoor
open Go

theorem berthlaw05_seen_nf (t_1 : Option Addr) (m_2 : Int) (m_3 : Option Addr) (m_3l : Nat) (m_3c : Nat) (w : World) (R : Ending → World → Prop) (h :
  ∀ w4, w4 = (World.alloc w (.cells #[(Value.int .i64 m_2), (Value.slice m_3 m_3l m_3c)] 45)) →
  ∃ S5 : World → Prop, S5 (World.drew w4) ∧
  ∃ A7, ∃ A7l, ∃ A7c, (∀ w6, S5 w6 → World.cell? w6 (Addr.add ⟨Array.size (World.heap w), 0, none⟩ 1) = some (Value.slice A7 A7l A7c)) ∧
  Calls Tryd.prog 10 #[(Value.pointer t_1)] (World.drew w4) fun e9 w10 =>
  ∃ n8, e9 = Ending.returned (Value.int .i64 n8) ∧
  S5 w10 ∧
  V.sel (n8 != ((A7l : Nat) : Int))
  (R (Ending.returned (Value.bool false)) w10)
  (∃ n11, ∃ A12, ∃ A12l, ∃ A12c, V.cellsC (fun a_ x_ => ∀ w6, S5 w6 → World.cell? w6 a_ = some x_) ⟨Array.size (World.heap w), 0, none⟩ [(Value.int .i64 n11), (Value.slice A12 A12l A12c)] ∧
  Calls Tryd.prog 11 #[(Value.pointer t_1)] w10 fun e14 w15 =>
  ∃ n13, e14 = Ending.returned (Value.int .i64 n13) ∧
  S5 w15 ∧
  Calls Tryd.prog 53 #[(Value.agg #[(Value.int .i64 n11), (Value.slice A12 A12l A12c)])] w15 fun e17 w18 =>
  ∃ n16, e17 = Ending.returned (Value.int .i64 n16) ∧
  S5 w18 ∧
  V.sel (n13 != n16)
  (R (Ending.returned (Value.bool false)) w18)
  (∃ n19, ∃ A20, ∃ A20l, ∃ A20c, V.cellsC (fun a_ x_ => ∀ w6, S5 w6 → World.cell? w6 a_ = some x_) ⟨Array.size (World.heap w), 0, none⟩ [(Value.int .i64 n19), (Value.slice A20 A20l A20c)] ∧
  Calls Tryd.prog 35 #[(Value.pointer t_1)] w18 fun e22 w23 =>
  ∃ A21, ∃ A21l, ∃ A21c, e22 = Ending.returned (Value.slice A21 A21l A21c) ∧
  S5 w23 ∧
  Calls Tryd.prog 31 #[(Value.agg #[(Value.int .i64 n19), (Value.slice A20 A20l A20c)])] w23 fun e25 w26 =>
  ∃ A24, ∃ A24l, ∃ A24c, e25 = Ending.returned (Value.slice A24 A24l A24c) ∧
  S5 w26 ∧
  Calls Tryd.prog 29 #[(Value.slice A21 A21l A21c), (Value.slice A24 A24l A24c)] w26 fun e28 w29 =>
  ∃ b27, e28 = Ending.returned (Value.bool b27) ∧
  S5 w29 ∧
  V.sel (!b27)
  (R (Ending.returned (Value.bool false)) w29)
  (∃ A30, ∃ A30l, ∃ A30c, (∀ w6, S5 w6 → World.cell? w6 (Addr.add ⟨Array.size (World.heap w), 0, none⟩ 1) = some (Value.slice A30 A30l A30c)) ∧
  ∃ n31, ∃ A32, ∃ A32l, ∃ A32c, V.cellsC (fun a_ x_ => ∀ w6, S5 w6 → World.cell? w6 a_ = some x_) ⟨Array.size (World.heap w), 0, none⟩ [(Value.int .i64 n31), (Value.slice A32 A32l A32c)] ∧
  ∃ A33, ∃ A33l, ∃ A33c, (∀ w6, S5 w6 → World.cell? w6 (Addr.add ⟨Array.size (World.heap w), 0, none⟩ 1) = some (Value.slice A33 A33l A33c)) ∧
  Calls Tryd.prog 55 #[(Value.pointer t_1), (Value.int .i64 (IntKind.wrap .i64 (((A30l : Nat) : Int) + 2)))] w29 fun e35 w36 =>
  ∃ A34, ∃ A34l, ∃ A34c, e35 = Ending.returned (Value.slice A34 A34l A34c) ∧
  S5 w36 ∧
  Calls Tryd.prog 56 #[(Value.agg #[(Value.int .i64 n31), (Value.slice A32 A32l A32c)])] w36 fun e38 w39 =>
  ∃ A37, ∃ A37l, ∃ A37c, e38 = Ending.returned (Value.slice A37 A37l A37c) ∧
  S5 w39 ∧
  Calls Tryd.prog 54 #[(Value.slice A34 A34l A34c), (Value.slice A37 A37l A37c), (Value.int .i64 (IntKind.wrap .i64 (((A33l : Nat) : Int) + 2)))] w39 fun e41 w42 =>
  ∃ b40, e41 = Ending.returned (Value.bool b40) ∧
  S5 w42 ∧
  V.sel (!b40)
  (R (Ending.returned (Value.bool false)) w42)
  (∃ A43, ∃ A43l, ∃ A43c, World.cell? w42 (Addr.add ⟨Array.size (World.heap w), 0, none⟩ 1) = some (Value.slice A43 A43l A43c) ∧
  ∃ I44 : Int → World → Prop, ∃ μ45 : Int → World → Nat, I44 0 w42 ∧
  ∀ t57_46 (j47 : Nat → Value) (w48 : World), I44 t57_46 w48 →
  (V.sel (decide (t57_46 < ((A43l : Nat) : Int)))
  (V.when (decide ((0 : Int) ≤ t57_46 ∧ (t57_46 : Int) < ((A43l : Nat) : Int))) (V.ptr A43 fun a49 =>
  ∃ n50, ∃ s51, ∃ n52, V.cellsC (fun a_ x_ => World.cell? w48 a_ = some x_) (Addr.add a49 ((Int.toNat t57_46) * 3)) [(Value.int .i64 n50), (Value.string s51), (Value.int .i64 n52)] ∧
  ∀ w53, w53 = (World.alloc w48 (.cells #[(Value.int .i64 0), (Value.string ByteArray.empty), (Value.int .i64 0)] 59)) →
  ∃ w54, Sem.run Tryd.prog (Instr.storeAt 59 (Value.pointer (some ⟨Array.size (World.heap w48), 0, none⟩)) (Value.agg #[(Value.int .i64 n50), (Value.string s51), (Value.int .i64 n52)])) w53 = .ok () w54 ∧
  ∃ s55, World.cell? w54 (Addr.add ⟨Array.size (World.heap w48), 0, none⟩ 1) = some (Value.string s55) ∧
  Calls Tryd.prog 51 #[(Value.pointer t_1), (Value.string s55)] w54 fun e59 w60 =>
  ∃ n56, ∃ n57, ∃ b58, e59 = Ending.returned (Value.tuple #[(Value.int .i64 n56), (Value.int .i64 n57), (Value.bool b58)]) ∧
  ∃ n61, World.cell? w60 (Addr.add ⟨Array.size (World.heap w48), 0, none⟩ 0) = some (Value.int .i64 n61) ∧
  Calls Tryd.prog 52 #[(Value.pointer t_1), (Value.int .i64 n61)] w60 fun e65 w66 =>
  ∃ s62, ∃ n63, ∃ b64, e65 = Ending.returned (Value.tuple #[(Value.string s62), (Value.int .i64 n63), (Value.bool b64)]) ∧
  V.sel (!b58)
  (R (Ending.returned (Value.bool false)) w66)
  (V.sel (!b64)
  (R (Ending.returned (Value.bool false)) w66)
  (∃ n67, World.cell? w66 (Addr.add ⟨Array.size (World.heap w48), 0, none⟩ 0) = some (Value.int .i64 n67) ∧
  V.sel (n56 != n67)
  (R (Ending.returned (Value.bool false)) w66)
  (∃ n68, World.cell? w66 (Addr.add ⟨Array.size (World.heap w48), 0, none⟩ 2) = some (Value.int .i64 n68) ∧
  V.sel (n57 != n68)
  (R (Ending.returned (Value.bool false)) w66)
  (∃ s69, World.cell? w66 (Addr.add ⟨Array.size (World.heap w48), 0, none⟩ 1) = some (Value.string s69) ∧
  V.sel (!(ByteArray.toList s62 == ByteArray.toList s69))
  (R (Ending.returned (Value.bool false)) w66)
  (∃ n70, World.cell? w66 (Addr.add ⟨Array.size (World.heap w48), 0, none⟩ 2) = some (Value.int .i64 n70) ∧
  V.sel (n63 != n70)
  (R (Ending.returned (Value.bool false)) w66)
  (I44 (IntKind.wrap .i64 (t57_46 + 1)) w66 ∧ μ45 (IntKind.wrap .i64 (t57_46 + 1)) w66 < μ45 t57_46 w48))))))))
  (∃ I71 : Int → World → Prop, ∃ μ72 : Int → World → Nat, I71 (-1) w48 ∧
  ∀ slot_73 (j74 : Nat → Value) (w75 : World), I71 slot_73 w75 →
  (∃ n76, ∃ A77, ∃ A77l, ∃ A77c, V.cellsC (fun a_ x_ => World.cell? w75 a_ = some x_) ⟨Array.size (World.heap w), 0, none⟩ [(Value.int .i64 n76), (Value.slice A77 A77l A77c)] ∧
  Calls Tryd.prog 53 #[(Value.agg #[(Value.int .i64 n76), (Value.slice A77 A77l A77c)])] w75 fun e79 w80 =>
  ∃ n78, e79 = Ending.returned (Value.int .i64 n78) ∧
  V.sel (decide (slot_73 ≤ n78))
  (∃ n81, ∃ A82, ∃ A82l, ∃ A82c, V.cellsC (fun a_ x_ => World.cell? w80 a_ = some x_) ⟨Array.size (World.heap w), 0, none⟩ [(Value.int .i64 n81), (Value.slice A82 A82l A82c)] ∧
  Calls Tryd.prog 28 #[(Value.agg #[(Value.int .i64 n81), (Value.slice A82 A82l A82c)]), (Value.int .i64 slot_73)] w80 fun e84 w85 =>
  ∃ n83, e84 = Ending.returned (Value.int .i64 n83) ∧
  V.sel (decide (n83 < 0))
  (Calls Tryd.prog 52 #[(Value.pointer t_1), (Value.int .i64 slot_73)] w85 fun e89 w90 =>
  ∃ s86, ∃ n87, ∃ b88, e89 = Ending.returned (Value.tuple #[(Value.string s86), (Value.int .i64 n87), (Value.bool b88)]) ∧
  V.sel (!(ByteArray.toList s86 == ByteArray.toList ByteArray.empty))
  (R (Ending.returned (Value.bool false)) w90)
  (V.sel (n87 != 0)
  (R (Ending.returned (Value.bool false)) w90)
  (V.sel b88
  (R (Ending.returned (Value.bool false)) w90)
  (I71 (IntKind.wrap .i64 (slot_73 + 1)) w90 ∧ μ72 (IntKind.wrap .i64 (slot_73 + 1)) w90 < μ72 slot_73 w75))))
  (I71 (IntKind.wrap .i64 (slot_73 + 1)) w85 ∧ μ72 (IntKind.wrap .i64 (slot_73 + 1)) w85 < μ72 slot_73 w75))
  (R (Ending.returned (Value.bool true)) w80))))))))) :
  Calls Tryd.prog 36 #[(Value.pointer t_1), (Value.agg #[(Value.int .i64 m_2), (Value.slice m_3 m_3l m_3c)])] w R :=
  V.calls_of_R ⟨V.assoc [(0, [57]), (1, [13])], V.assocP [(1, V.line [0, 2, 3, 4, 1, 5, 6, 7, 9, 8, 10, 11, 12, 13, 14, 16, 15, 17, 18, 19, 20, 21, 22, 23, 24, 25, 26, 28, 30, 31, 32, 33, 27, 29, 34, 35, 36])], V.assocC [], V.assocS [], ⟨[], true⟩⟩ Tryd.func36 rfl (Eq.mp (by kernel_rfl) h)

theorem slots_Table_int__look_nf (t_1 : Option Addr) (name_2 : ByteArray) (w : World) (R : Ending → World → Prop) (h :
  V.sel (Option.isNone t_1)
  (R (Ending.returned (Value.tuple #[(Value.int .i64 0), (Value.int .i64 1)])) w)
  (V.sel (decide (((ByteArray.size name_2 : Nat) : Int) < 1))
  (R (Ending.returned (Value.tuple #[(Value.int .i64 0), (Value.int .i64 51)])) w)
  (V.sel (decide (((ByteArray.size name_2 : Nat) : Int) > 63))
  (R (Ending.returned (Value.tuple #[(Value.int .i64 0), (Value.int .i64 51)])) w)
  (V.ptr t_1 fun a3 =>
  ∃ m4, World.cell? w (Addr.add a3 1) = some (Value.map m4) ∧
  ∃ n5, ∃ b6, ∃ w7, Sem.run Tryd.prog (Instr.lookup 81 (Value.map m4) (Value.string name_2) true) w = .ok (Value.tuple #[(Value.int .i64 n5), (Value.bool b6)]) w7 ∧
  V.sel (!b6)
  (R (Ending.returned (Value.tuple #[(Value.int .i64 0), (Value.int .i64 54)])) w7)
  (R (Ending.returned (Value.tuple #[(Value.int .i64 n5), (Value.int .i64 0)])) w7))))) :
  Calls Tryd.prog 37 #[(Value.pointer t_1), (Value.string name_2)] w R :=
  V.calls_of_R ⟨V.assoc [], V.assocP [], V.assocC [], V.assocS [], ⟨[], true⟩⟩ Tryd.func37 rfl (Eq.mp (by kernel_rfl) h)

theorem berthref05_badName_nf (name_1 : ByteArray) (w : World) (R : Ending → World → Prop) (h :
  V.sel (decide (((ByteArray.size name_1 : Nat) : Int) < 1))
  (R (Ending.returned (Value.bool true)) w)
  (R (Ending.returned (Value.bool (decide (((ByteArray.size name_1 : Nat) : Int) > 63)))) w)) :
  Calls Tryd.prog 41 #[(Value.string name_1)] w R :=
  V.calls_of_R ⟨V.assoc [], V.assocP [], V.assocC [], V.assocS [], ⟨[], true⟩⟩ Tryd.func41 rfl (Eq.mp (by kernel_rfl) h)

theorem berthref05_Table_Find_nf (t_1 : Int) (t_2 : Option Addr) (t_2l : Nat) (t_2c : Nat) (name_3 : ByteArray) (w : World) (R : Ending → World → Prop) (h :
  ∀ w4, w4 = (World.alloc w (.cells #[(Value.int .i64 t_1), (Value.slice t_2 t_2l t_2c)] 45)) →
  ∃ I5 : Int → World → Prop, ∃ μ6 : Int → World → Nat, I5 0 w4 ∧
  ∀ i_7 (j8 : Nat → Value) (w9 : World), I5 i_7 w9 →
  (∃ A10, ∃ A10l, ∃ A10c, World.cell? w9 (Addr.add ⟨Array.size (World.heap w), 0, none⟩ 1) = some (Value.slice A10 A10l A10c) ∧
  V.sel (decide (i_7 < ((A10l : Nat) : Int)))
  (∃ A11, ∃ A11l, ∃ A11c, World.cell? w9 (Addr.add ⟨Array.size (World.heap w), 0, none⟩ 1) = some (Value.slice A11 A11l A11c) ∧
  V.when (decide ((0 : Int) ≤ i_7 ∧ (i_7 : Int) < ((A11l : Nat) : Int))) (V.ptr A11 fun a12 =>
  ∃ s13, World.cell? w9 (Addr.add (Addr.add a12 ((Int.toNat i_7) * 3)) 1) = some (Value.string s13) ∧
  V.sel (ByteArray.toList s13 == ByteArray.toList name_3)
  (R (Ending.returned (Value.int .i64 i_7)) w9)
  (I5 (IntKind.wrap .i64 (i_7 + 1)) w9 ∧ μ6 (IntKind.wrap .i64 (i_7 + 1)) w9 < μ6 i_7 w9)))
  (R (Ending.returned (Value.int .i64 (-1))) w9))) :
  Calls Tryd.prog 42 #[(Value.agg #[(Value.int .i64 t_1), (Value.slice t_2 t_2l t_2c)]), (Value.string name_3)] w R :=
  V.calls_of_R ⟨V.assoc [(0, [5])], V.assocP [], V.assocC [], V.assocS [], ⟨[], true⟩⟩ Tryd.func42 rfl (Eq.mp (by kernel_rfl) h)

theorem berthlaw05_World_changes_nf (w_1 : Option Addr) (o_2 : Int) (o_3 : Int) (o_4 : Int) (o_5 : ByteArray) (o_6 : Int) (i_7 : Int) (w : World) (R : Ending → World → Prop) (h :
  ∀ w8, w8 = (World.alloc w (.cells #[(Value.int .i64 o_2), (Value.int .i64 o_3), (Value.int .i64 o_4), (Value.string o_5), (Value.int .i64 o_6)] 49)) →
  ∃ n9, World.cell? w8 (Addr.add ⟨Array.size (World.heap w), 0, none⟩ 0) = some (Value.int .i64 n9) ∧
  V.sel (n9 == 1)
  (∃ n10, World.cell? w8 (Addr.add ⟨Array.size (World.heap w), 0, none⟩ 2) = some (Value.int .i64 n10) ∧
  Calls Tryd.prog 7 #[(Value.int .i64 n10)] w8 fun e13 w14 =>
  ∃ p11, ∃ n12, e13 = Ending.returned (Value.tuple #[(Value.pointer p11), (Value.int .i64 n12)]) ∧
  ∃ n15, World.cell? w14 (Addr.add ⟨Array.size (World.heap w), 0, none⟩ 2) = some (Value.int .i64 n15) ∧
  Calls Tryd.prog 15 #[(Value.int .i64 n15)] w14 fun e19 w20 =>
  ∃ n16, ∃ A17, ∃ A17l, ∃ A17c, ∃ n18, e19 = Ending.returned (Value.tuple #[(Value.agg #[(Value.int .i64 n16), (Value.slice A17 A17l A17c)]), (Value.int .i64 n18)]) ∧
  ∀ w21, w21 = (World.alloc w20 (.cells #[(Value.int .i64 0), (Value.slice none 0 0)] 45)) →
  ∃ w22, Sem.run Tryd.prog (Instr.storeAt 45 (Value.pointer (some ⟨Array.size (World.heap w20), 0, none⟩)) (Value.agg #[(Value.int .i64 n16), (Value.slice A17 A17l A17c)])) w21 = .ok () w22 ∧
  V.sel (n12 != n18)
  (R (Ending.returned (Value.bool false)) w22)
  (V.sel (!((!(Option.isNone p11)) == (n18 == 0)))
  (R (Ending.returned (Value.bool false)) w22)
  (V.sel (!(Option.isNone p11))
  (∃ S23 : World → Prop, S23 (World.drew w22) ∧
  ∃ n25, ∃ A26, ∃ A26l, ∃ A26c, V.cellsC (fun a_ x_ => ∀ w24, S23 w24 → World.cell? w24 a_ = some x_) ⟨Array.size (World.heap w20), 0, none⟩ [(Value.int .i64 n25), (Value.slice A26 A26l A26c)] ∧
  V.ptr w_1 fun a27 =>
  V.when (decide ((0 : Int) ≤ i_7 ∧ (i_7 : Int) < 4)) (V.ptr w_1 fun a28 =>
  ∃ w29, Sem.run Tryd.prog (Instr.storeAt 24 (Value.pointer (some (Addr.add (Addr.add a27 0) ((Int.toNat i_7) * 1)))) (Value.pointer p11)) (World.drew w22) = .ok () w29 ∧
  S23 w29 ∧
  V.when (decide ((0 : Int) ≤ i_7 ∧ (i_7 : Int) < 4)) (∃ w30, Sem.run Tryd.prog (Instr.storeAt 45 (Value.pointer (some (Addr.add (Addr.add a28 4) ((Int.toNat i_7) * 2)))) (Value.agg #[(Value.int .i64 n25), (Value.slice A26 A26l A26c)])) w29 = .ok () w30 ∧
  S23 w30 ∧
  R (Ending.returned (Value.bool true)) w30)))
  (R (Ending.returned (Value.bool true)) w22))))
  (V.sel (n9 == 2)
  (∃ S31 : World → Prop, S31 (World.drew w8) ∧
  V.ptr w_1 fun a33 =>
  V.when (decide ((0 : Int) ≤ i_7 ∧ (i_7 : Int) < 4)) (∃ p34, (∀ w32, S31 w32 → World.cell? w32 (Addr.add (Addr.add a33 0) ((Int.toNat i_7) * 1)) = some (Value.pointer p34)) ∧
  ∃ s35, (∀ w32, S31 w32 → World.cell? w32 (Addr.add ⟨Array.size (World.heap w), 0, none⟩ 3) = some (Value.string s35)) ∧
  ∃ n36, (∀ w32, S31 w32 → World.cell? w32 (Addr.add ⟨Array.size (World.heap w), 0, none⟩ 4) = some (Value.int .i64 n36)) ∧
  Calls Tryd.prog 8 #[(Value.pointer p34), (Value.string s35), (Value.int .i64 n36)] (World.drew w8) fun e39 w40 =>
  ∃ n37, ∃ n38, e39 = Ending.returned (Value.tuple #[(Value.int .i64 n37), (Value.int .i64 n38)]) ∧
  S31 w40 ∧
  V.ptr w_1 fun a41 =>
  V.when (decide ((0 : Int) ≤ i_7 ∧ (i_7 : Int) < 4)) (∃ p42, World.cell? w40 (Addr.add (Addr.add a41 0) ((Int.toNat i_7) * 1)) = some (Value.pointer p42) ∧
  V.sel (Option.isNone p42)
  (V.sel (n37 == 0)
  (R (Ending.returned (Value.bool (n38 == 1))) w40)
  (R (Ending.returned (Value.bool false)) w40))
  (∃ J43 : Option Addr → Int → Int → World → Prop, (∃ S44 : World → Prop, S44 (World.drew w40) ∧
  V.ptr w_1 fun a46 =>
  V.when (decide ((0 : Int) ≤ i_7 ∧ (i_7 : Int) < 4)) (∃ n47, ∃ A48, ∃ A48l, ∃ A48c, V.cellsC (fun a_ x_ => ∀ w45, S44 w45 → World.cell? w45 a_ = some x_) (Addr.add (Addr.add a46 4) ((Int.toNat i_7) * 2)) [(Value.int .i64 n47), (Value.slice A48 A48l A48c)] ∧
  ∃ s49, (∀ w45, S44 w45 → World.cell? w45 (Addr.add ⟨Array.size (World.heap w), 0, none⟩ 3) = some (Value.string s49)) ∧
  ∃ n50, (∀ w45, S44 w45 → World.cell? w45 (Addr.add ⟨Array.size (World.heap w), 0, none⟩ 4) = some (Value.int .i64 n50)) ∧
  (Calls Tryd.prog 18 #[(Value.agg #[(Value.int .i64 n47), (Value.slice A48 A48l A48c)]), (Value.string s49), (Value.int .i64 n50)] (World.drew w40) fun e55 w56 =>
  ∃ n51, ∃ A52, ∃ A52l, ∃ A52c, ∃ n53, ∃ n54, e55 = Ending.returned (Value.tuple #[(Value.agg #[(Value.int .i64 n51), (Value.slice A52 A52l A52c)]), (Value.int .i64 n53), (Value.int .i64 n54)]) ∧
  S44 w56 ∧
  ∀ w57, w57 = (World.alloc w56 (.cells #[(Value.int .i64 0), (Value.slice none 0 0)] 45)) →
  S44 w57 ∧
  ∃ w58, Sem.run Tryd.prog (Instr.storeAt 45 (Value.pointer (some ⟨Array.size (World.heap w56), 0, none⟩)) (Value.agg #[(Value.int .i64 n51), (Value.slice A52 A52l A52c)])) w57 = .ok () w58 ∧
  S44 w58 ∧
  J43 (some ⟨Array.size (World.heap w56), 0, none⟩) n53 n54 w58) ∧
  (∀ w59, w59 = (World.alloc (World.drew w40) (.cells #[(Value.int .i64 0), (Value.slice none 0 0)] 45)) →
  S44 w59 ∧
  Calls Tryd.prog 18 #[(Value.agg #[(Value.int .i64 n47), (Value.slice A48 A48l A48c)]), (Value.string s49), (Value.int .i64 n50)] w59 fun e64 w65 =>
  ∃ n60, ∃ A61, ∃ A61l, ∃ A61c, ∃ n62, ∃ n63, e64 = Ending.returned (Value.tuple #[(Value.agg #[(Value.int .i64 n60), (Value.slice A61 A61l A61c)]), (Value.int .i64 n62), (Value.int .i64 n63)]) ∧
  S44 w65 ∧
  ∃ w66, Sem.run Tryd.prog (Instr.storeAt 45 (Value.pointer (some ⟨Array.size (World.heap (World.drew w40)), 0, none⟩)) (Value.agg #[(Value.int .i64 n60), (Value.slice A61 A61l A61c)])) w65 = .ok () w66 ∧
  S44 w66 ∧
  J43 (some ⟨Array.size (World.heap (World.drew w40)), 0, none⟩) n62 n63 w66) ∧ True)) ∧
  ∀ m_67 s_68 f_69 (j70 : Nat → Value) (w71 : World), J43 m_67 s_68 f_69 w71 →
  ∃ S72 : World → Prop, S72 (World.drew w71) ∧
  V.ptr m_67 fun a74 =>
  ∃ n75, ∃ A76, ∃ A76l, ∃ A76c, V.cellsC (fun a_ x_ => ∀ w73, S72 w73 → World.cell? w73 a_ = some x_) a74 [(Value.int .i64 n75), (Value.slice A76 A76l A76c)] ∧
  V.ptr w_1 fun a77 =>
  V.when (decide ((0 : Int) ≤ i_7 ∧ (i_7 : Int) < 4)) (∃ w78, Sem.run Tryd.prog (Instr.storeAt 45 (Value.pointer (some (Addr.add (Addr.add a77 4) ((Int.toNat i_7) * 2)))) (Value.agg #[(Value.int .i64 n75), (Value.slice A76 A76l A76c)])) (World.drew w71) = .ok () w78 ∧
  S72 w78 ∧
  V.sel (n37 == s_68)
  (R (Ending.returned (Value.bool (n38 == f_69))) w78)
  (R (Ending.returned (Value.bool false)) w78))))))
  (V.sel (n9 == 3)
  (∃ S79 : World → Prop, S79 (World.drew w8) ∧
  V.ptr w_1 fun a81 =>
  V.when (decide ((0 : Int) ≤ i_7 ∧ (i_7 : Int) < 4)) (∃ p82, (∀ w80, S79 w80 → World.cell? w80 (Addr.add (Addr.add a81 0) ((Int.toNat i_7) * 1)) = some (Value.pointer p82)) ∧
  ∃ s83, (∀ w80, S79 w80 → World.cell? w80 (Addr.add ⟨Array.size (World.heap w), 0, none⟩ 3) = some (Value.string s83)) ∧
  ∃ n84, (∀ w80, S79 w80 → World.cell? w80 (Addr.add ⟨Array.size (World.heap w), 0, none⟩ 4) = some (Value.int .i64 n84)) ∧
  Calls Tryd.prog 66 #[(Value.pointer p82), (Value.string s83), (Value.int .i64 n84)] (World.drew w8) fun e86 w87 =>
  ∃ n85, e86 = Ending.returned (Value.int .i64 n85) ∧
  S79 w87 ∧
  V.ptr w_1 fun a88 =>
  V.when (decide ((0 : Int) ≤ i_7 ∧ (i_7 : Int) < 4)) (∃ p89, World.cell? w87 (Addr.add (Addr.add a88 0) ((Int.toNat i_7) * 1)) = some (Value.pointer p89) ∧
  V.sel (Option.isNone p89)
  (R (Ending.returned (Value.bool (n85 == 1))) w87)
  (∃ J90 : Option Addr → Int → World → Prop, (∃ S91 : World → Prop, S91 (World.drew w87) ∧
  V.ptr w_1 fun a93 =>
  V.when (decide ((0 : Int) ≤ i_7 ∧ (i_7 : Int) < 4)) (∃ n94, ∃ A95, ∃ A95l, ∃ A95c, V.cellsC (fun a_ x_ => ∀ w92, S91 w92 → World.cell? w92 a_ = some x_) (Addr.add (Addr.add a93 4) ((Int.toNat i_7) * 2)) [(Value.int .i64 n94), (Value.slice A95 A95l A95c)] ∧
  ∃ s96, (∀ w92, S91 w92 → World.cell? w92 (Addr.add ⟨Array.size (World.heap w), 0, none⟩ 3) = some (Value.string s96)) ∧
  ∃ n97, (∀ w92, S91 w92 → World.cell? w92 (Addr.add ⟨Array.size (World.heap w), 0, none⟩ 4) = some (Value.int .i64 n97)) ∧
  (Calls Tryd.prog 21 #[(Value.agg #[(Value.int .i64 n94), (Value.slice A95 A95l A95c)]), (Value.string s96), (Value.int .i64 n97)] (World.drew w87) fun e101 w102 =>
  ∃ n98, ∃ A99, ∃ A99l, ∃ A99c, ∃ n100, e101 = Ending.returned (Value.tuple #[(Value.agg #[(Value.int .i64 n98), (Value.slice A99 A99l A99c)]), (Value.int .i64 n100)]) ∧
  S91 w102 ∧
  ∀ w103, w103 = (World.alloc w102 (.cells #[(Value.int .i64 0), (Value.slice none 0 0)] 45)) →
  S91 w103 ∧
  ∃ w104, Sem.run Tryd.prog (Instr.storeAt 45 (Value.pointer (some ⟨Array.size (World.heap w102), 0, none⟩)) (Value.agg #[(Value.int .i64 n98), (Value.slice A99 A99l A99c)])) w103 = .ok () w104 ∧
  S91 w104 ∧
  J90 (some ⟨Array.size (World.heap w102), 0, none⟩) n100 w104) ∧
  (∀ w105, w105 = (World.alloc (World.drew w87) (.cells #[(Value.int .i64 0), (Value.slice none 0 0)] 45)) →
  S91 w105 ∧
  Calls Tryd.prog 21 #[(Value.agg #[(Value.int .i64 n94), (Value.slice A95 A95l A95c)]), (Value.string s96), (Value.int .i64 n97)] w105 fun e109 w110 =>
  ∃ n106, ∃ A107, ∃ A107l, ∃ A107c, ∃ n108, e109 = Ending.returned (Value.tuple #[(Value.agg #[(Value.int .i64 n106), (Value.slice A107 A107l A107c)]), (Value.int .i64 n108)]) ∧
  S91 w110 ∧
  ∃ w111, Sem.run Tryd.prog (Instr.storeAt 45 (Value.pointer (some ⟨Array.size (World.heap (World.drew w87)), 0, none⟩)) (Value.agg #[(Value.int .i64 n106), (Value.slice A107 A107l A107c)])) w110 = .ok () w111 ∧
  S91 w111 ∧
  J90 (some ⟨Array.size (World.heap (World.drew w87)), 0, none⟩) n108 w111) ∧ True)) ∧
  ∀ m_112 f_113 (j114 : Nat → Value) (w115 : World), J90 m_112 f_113 w115 →
  ∃ S116 : World → Prop, S116 (World.drew w115) ∧
  V.ptr m_112 fun a118 =>
  ∃ n119, ∃ A120, ∃ A120l, ∃ A120c, V.cellsC (fun a_ x_ => ∀ w117, S116 w117 → World.cell? w117 a_ = some x_) a118 [(Value.int .i64 n119), (Value.slice A120 A120l A120c)] ∧
  V.ptr w_1 fun a121 =>
  V.when (decide ((0 : Int) ≤ i_7 ∧ (i_7 : Int) < 4)) (∃ w122, Sem.run Tryd.prog (Instr.storeAt 45 (Value.pointer (some (Addr.add (Addr.add a121 4) ((Int.toNat i_7) * 2)))) (Value.agg #[(Value.int .i64 n119), (Value.slice A120 A120l A120c)])) (World.drew w115) = .ok () w122 ∧
  S116 w122 ∧
  R (Ending.returned (Value.bool (n85 == f_113))) w122)))))
  (V.sel (n9 == 4)
  (∃ S123 : World → Prop, S123 (World.drew w8) ∧
  V.ptr w_1 fun a125 =>
  V.when (decide ((0 : Int) ≤ i_7 ∧ (i_7 : Int) < 4)) (∃ p126, (∀ w124, S123 w124 → World.cell? w124 (Addr.add (Addr.add a125 0) ((Int.toNat i_7) * 1)) = some (Value.pointer p126)) ∧
  ∃ s127, (∀ w124, S123 w124 → World.cell? w124 (Addr.add ⟨Array.size (World.heap w), 0, none⟩ 3) = some (Value.string s127)) ∧
  Calls Tryd.prog 12 #[(Value.pointer p126), (Value.string s127)] (World.drew w8) fun e130 w131 =>
  ∃ n128, ∃ n129, e130 = Ending.returned (Value.tuple #[(Value.int .i64 n128), (Value.int .i64 n129)]) ∧
  S123 w131 ∧
  V.ptr w_1 fun a132 =>
  V.when (decide ((0 : Int) ≤ i_7 ∧ (i_7 : Int) < 4)) (∃ p133, World.cell? w131 (Addr.add (Addr.add a132 0) ((Int.toNat i_7) * 1)) = some (Value.pointer p133) ∧
  V.sel (Option.isNone p133)
  (V.sel (n128 == 0)
  (R (Ending.returned (Value.bool (n129 == 1))) w131)
  (R (Ending.returned (Value.bool false)) w131))
  (∃ J134 : Option Addr → Int → Int → World → Prop, (∃ S135 : World → Prop, S135 (World.drew w131) ∧
  V.ptr w_1 fun a137 =>
  V.when (decide ((0 : Int) ≤ i_7 ∧ (i_7 : Int) < 4)) (∃ n138, ∃ A139, ∃ A139l, ∃ A139c, V.cellsC (fun a_ x_ => ∀ w136, S135 w136 → World.cell? w136 a_ = some x_) (Addr.add (Addr.add a137 4) ((Int.toNat i_7) * 2)) [(Value.int .i64 n138), (Value.slice A139 A139l A139c)] ∧
  ∃ s140, (∀ w136, S135 w136 → World.cell? w136 (Addr.add ⟨Array.size (World.heap w), 0, none⟩ 3) = some (Value.string s140)) ∧
  (Calls Tryd.prog 24 #[(Value.agg #[(Value.int .i64 n138), (Value.slice A139 A139l A139c)]), (Value.string s140)] (World.drew w131) fun e145 w146 =>
  ∃ n141, ∃ A142, ∃ A142l, ∃ A142c, ∃ n143, ∃ n144, e145 = Ending.returned (Value.tuple #[(Value.agg #[(Value.int .i64 n141), (Value.slice A142 A142l A142c)]), (Value.int .i64 n143), (Value.int .i64 n144)]) ∧
  S135 w146 ∧
  ∀ w147, w147 = (World.alloc w146 (.cells #[(Value.int .i64 0), (Value.slice none 0 0)] 45)) →
  S135 w147 ∧
  ∃ w148, Sem.run Tryd.prog (Instr.storeAt 45 (Value.pointer (some ⟨Array.size (World.heap w146), 0, none⟩)) (Value.agg #[(Value.int .i64 n141), (Value.slice A142 A142l A142c)])) w147 = .ok () w148 ∧
  S135 w148 ∧
  J134 (some ⟨Array.size (World.heap w146), 0, none⟩) n143 n144 w148) ∧
  (∀ w149, w149 = (World.alloc (World.drew w131) (.cells #[(Value.int .i64 0), (Value.slice none 0 0)] 45)) →
  S135 w149 ∧
  Calls Tryd.prog 24 #[(Value.agg #[(Value.int .i64 n138), (Value.slice A139 A139l A139c)]), (Value.string s140)] w149 fun e154 w155 =>
  ∃ n150, ∃ A151, ∃ A151l, ∃ A151c, ∃ n152, ∃ n153, e154 = Ending.returned (Value.tuple #[(Value.agg #[(Value.int .i64 n150), (Value.slice A151 A151l A151c)]), (Value.int .i64 n152), (Value.int .i64 n153)]) ∧
  S135 w155 ∧
  ∃ w156, Sem.run Tryd.prog (Instr.storeAt 45 (Value.pointer (some ⟨Array.size (World.heap (World.drew w131)), 0, none⟩)) (Value.agg #[(Value.int .i64 n150), (Value.slice A151 A151l A151c)])) w155 = .ok () w156 ∧
  S135 w156 ∧
  J134 (some ⟨Array.size (World.heap (World.drew w131)), 0, none⟩) n152 n153 w156) ∧ True)) ∧
  ∀ m_157 s_158 f_159 (j160 : Nat → Value) (w161 : World), J134 m_157 s_158 f_159 w161 →
  ∃ S162 : World → Prop, S162 (World.drew w161) ∧
  V.ptr m_157 fun a164 =>
  ∃ n165, ∃ A166, ∃ A166l, ∃ A166c, V.cellsC (fun a_ x_ => ∀ w163, S162 w163 → World.cell? w163 a_ = some x_) a164 [(Value.int .i64 n165), (Value.slice A166 A166l A166c)] ∧
  V.ptr w_1 fun a167 =>
  V.when (decide ((0 : Int) ≤ i_7 ∧ (i_7 : Int) < 4)) (∃ w168, Sem.run Tryd.prog (Instr.storeAt 45 (Value.pointer (some (Addr.add (Addr.add a167 4) ((Int.toNat i_7) * 2)))) (Value.agg #[(Value.int .i64 n165), (Value.slice A166 A166l A166c)])) (World.drew w161) = .ok () w168 ∧
  S162 w168 ∧
  V.sel (n128 == s_158)
  (R (Ending.returned (Value.bool (n129 == f_159))) w168)
  (R (Ending.returned (Value.bool false)) w168))))))
  (R (Ending.returned (Value.bool true)) w8))))) :
  Calls Tryd.prog 50 #[(Value.pointer w_1), (Value.agg #[(Value.int .i64 o_2), (Value.int .i64 o_3), (Value.int .i64 o_4), (Value.string o_5), (Value.int .i64 o_6)]), (Value.int .i64 i_7)] w R :=
  V.calls_of_R ⟨V.assoc [], V.assocP [(8, V.line [0, 1, 2, 3, 4, 5, 6, 7, 8, 10, 11, 9, 12, 13]), (10, V.line [0, 1, 2, 3, 4, 5, 6, 7, 8, 9, 10, 11, 12, 13, 14, 15]), (13, (V.Plan.one 0 (V.Plan.one 1 (V.Plan.one 2 (V.Plan.one 3 (V.Plan.one 4 (V.Plan.one 5 (V.Plan.one 6 (V.Plan.one 7 (V.Plan.one 8 (V.Plan.one 9 (V.Plan.alt 10 (V.Plan.one 11 (V.Plan.one 12 (V.Plan.one 13 (V.Plan.one 14 (V.Plan.one 15 (V.Plan.one 16 (V.Plan.one 17 (V.Plan.one 18 V.Plan.done)))))))) (V.Plan.alt 15 (V.Plan.one 10 (V.Plan.one 11 (V.Plan.one 12 (V.Plan.one 13 (V.Plan.one 14 (V.Plan.one 16 (V.Plan.one 17 (V.Plan.one 18 V.Plan.done)))))))) V.Plan.stop))))))))))))), (14, V.line [0, 1, 2, 3, 4, 5, 6]), (17, V.line [0, 1, 2, 3, 4, 5, 6, 7, 8, 9, 10, 11]), (20, (V.Plan.one 0 (V.Plan.one 1 (V.Plan.one 2 (V.Plan.one 3 (V.Plan.one 4 (V.Plan.one 5 (V.Plan.one 6 (V.Plan.one 7 (V.Plan.one 8 (V.Plan.one 9 (V.Plan.alt 10 (V.Plan.one 11 (V.Plan.one 12 (V.Plan.one 13 (V.Plan.one 14 (V.Plan.one 15 (V.Plan.one 16 V.Plan.done)))))) (V.Plan.alt 14 (V.Plan.one 10 (V.Plan.one 11 (V.Plan.one 12 (V.Plan.one 13 (V.Plan.one 15 (V.Plan.one 16 V.Plan.done)))))) V.Plan.stop))))))))))))), (21, V.line [0, 1, 2, 3, 4, 5, 6]), (24, V.line [0, 1, 2, 3, 4, 5, 6, 7, 8, 9, 10, 11, 12, 13]), (27, (V.Plan.one 0 (V.Plan.one 1 (V.Plan.one 2 (V.Plan.one 3 (V.Plan.one 4 (V.Plan.one 5 (V.Plan.one 6 (V.Plan.one 7 (V.Plan.alt 8 (V.Plan.one 9 (V.Plan.one 10 (V.Plan.one 11 (V.Plan.one 12 (V.Plan.one 13 (V.Plan.one 14 (V.Plan.one 15 (V.Plan.one 16 V.Plan.done)))))))) (V.Plan.alt 13 (V.Plan.one 8 (V.Plan.one 9 (V.Plan.one 10 (V.Plan.one 11 (V.Plan.one 12 (V.Plan.one 14 (V.Plan.one 15 (V.Plan.one 16 V.Plan.done)))))))) V.Plan.stop))))))))))), (28, V.line [0, 1, 2, 3, 4, 5, 6])], V.assocC [(13, ([13, 14, 15], [V.Sh.one .ptr, V.Sh.one (.int .i64), V.Sh.one (.int .i64)])), (20, ([17, 18], [V.Sh.one .ptr, V.Sh.one (.int .i64)])), (27, ([21, 22, 23], [V.Sh.one .ptr, V.Sh.one (.int .i64), V.Sh.one (.int .i64)]))], V.assocS [], ⟨[], true⟩⟩ Tryd.func50 rfl (Eq.mp (by kernel_rfl) h)

theorem slots_Table_int__Find_nf (t_1 : Option Addr) (name_2 : ByteArray) (w : World) (R : Ending → World → Prop) (h :
  Calls Tryd.prog 37 #[(Value.pointer t_1), (Value.string name_2)] w fun e5 w6 =>
  ∃ n3, ∃ n4, e5 = Ending.returned (Value.tuple #[(Value.int .i64 n3), (Value.int .i64 n4)]) ∧
  V.sel (n4 != 0)
  (R (Ending.returned (Value.tuple #[(Value.int .i64 0), (Value.int .i64 0), (Value.bool false)])) w6)
  (V.ptr t_1 fun a7 =>
  ∃ A8, ∃ A8l, ∃ A8c, World.cell? w6 (Addr.add a7 2) = some (Value.slice A8 A8l A8c) ∧
  V.when (decide ((0 : Int) ≤ n3 ∧ (n3 : Int) < ((A8l : Nat) : Int))) (V.ptr A8 fun a9 =>
  ∃ n10, World.cell? w6 (Addr.add (Addr.add a9 ((Int.toNat n3) * 3)) 2) = some (Value.int .i64 n10) ∧
  R (Ending.returned (Value.tuple #[(Value.int .i64 n3), (Value.int .i64 n10), (Value.bool true)])) (World.drew w6)))) :
  Calls Tryd.prog 51 #[(Value.pointer t_1), (Value.string name_2)] w R :=
  V.calls_of_R ⟨V.assoc [], V.assocP [(5, V.line [0, 1, 2, 3, 4, 5, 6, 7, 8, 9, 10, 11])], V.assocC [], V.assocS [], ⟨[], true⟩⟩ Tryd.func51 rfl (Eq.mp (by kernel_rfl) h)

theorem slots_Table_int__At_nf (t_1 : Option Addr) (slot_2 : Int) (w : World) (R : Ending → World → Prop) (h :
  V.sel (decide (slot_2 < 0))
  (R (Ending.returned (Value.tuple #[(Value.string ByteArray.empty), (Value.int .i64 0), (Value.bool false)])) w)
  (Calls Tryd.prog 11 #[(Value.pointer t_1)] w fun e4 w5 =>
  ∃ n3, e4 = Ending.returned (Value.int .i64 n3) ∧
  V.sel (decide (slot_2 ≥ n3))
  (R (Ending.returned (Value.tuple #[(Value.string ByteArray.empty), (Value.int .i64 0), (Value.bool false)])) w5)
  (V.ptr t_1 fun a6 =>
  ∃ A7, ∃ A7l, ∃ A7c, World.cell? w5 (Addr.add a6 2) = some (Value.slice A7 A7l A7c) ∧
  V.when (decide ((0 : Int) ≤ slot_2 ∧ (slot_2 : Int) < ((A7l : Nat) : Int))) (V.ptr A7 fun a8 =>
  ∃ b9, ∃ s10, ∃ n11, V.cellsC (fun a_ x_ => World.cell? w5 a_ = some x_) (Addr.add a8 ((Int.toNat slot_2) * 3)) [(Value.bool b9), (Value.string s10), (Value.int .i64 n11)] ∧
  ∀ w12, w12 = (World.alloc w5 (.cells #[(Value.bool false), (Value.string ByteArray.empty), (Value.int .i64 0)] 86)) →
  ∃ w13, Sem.run Tryd.prog (Instr.storeAt 86 (Value.pointer (some ⟨Array.size (World.heap w5), 0, none⟩)) (Value.agg #[(Value.bool b9), (Value.string s10), (Value.int .i64 n11)])) w12 = .ok () w13 ∧
  ∃ s14, World.cell? w13 (Addr.add ⟨Array.size (World.heap w5), 0, none⟩ 1) = some (Value.string s14) ∧
  ∃ n15, World.cell? w13 (Addr.add ⟨Array.size (World.heap w5), 0, none⟩ 2) = some (Value.int .i64 n15) ∧
  ∃ b16, World.cell? w13 (Addr.add ⟨Array.size (World.heap w5), 0, none⟩ 0) = some (Value.bool b16) ∧
  R (Ending.returned (Value.tuple #[(Value.string s14), (Value.int .i64 n15), (Value.bool b16)])) (World.drew w13))))) :
  Calls Tryd.prog 52 #[(Value.pointer t_1), (Value.int .i64 slot_2)] w R :=
  V.calls_of_R ⟨V.assoc [], V.assocP [(5, V.line [0, 1, 2, 3, 4, 5, 6, 7, 8])], V.assocC [], V.assocS [], ⟨[], true⟩⟩ Tryd.func52 rfl (Eq.mp (by kernel_rfl) h)

theorem berthref05_Table_Span_nf (t_1 : Int) (t_2 : Option Addr) (t_2l : Nat) (t_2c : Nat) (w : World) (R : Ending → World → Prop) (h :
  ∀ w3, w3 = (World.alloc w (.cells #[(Value.int .i64 t_1), (Value.slice t_2 t_2l t_2c)] 45)) →
  ∃ I4 : Int → Int → World → Prop, ∃ μ5 : Int → Int → World → Nat, I4 0 0 w3 ∧
  ∀ n_6 i_7 (j8 : Nat → Value) (w9 : World), I4 n_6 i_7 w9 →
  (∃ A10, ∃ A10l, ∃ A10c, World.cell? w9 (Addr.add ⟨Array.size (World.heap w), 0, none⟩ 1) = some (Value.slice A10 A10l A10c) ∧
  V.sel (decide (i_7 < ((A10l : Nat) : Int)))
  (∃ A11, ∃ A11l, ∃ A11c, World.cell? w9 (Addr.add ⟨Array.size (World.heap w), 0, none⟩ 1) = some (Value.slice A11 A11l A11c) ∧
  V.when (decide ((0 : Int) ≤ i_7 ∧ (i_7 : Int) < ((A11l : Nat) : Int))) (V.ptr A11 fun a12 =>
  ∃ n13, World.cell? w9 (Addr.add (Addr.add a12 ((Int.toNat i_7) * 3)) 0) = some (Value.int .i64 n13) ∧
  V.lt (if (IntKind.wrap .i64 (n13 + 1)) > n_6 then (IntKind.wrap .i64 (n13 + 1)) else n_6) fun x14 =>
  I4 x14 (IntKind.wrap .i64 (i_7 + 1)) w9 ∧ μ5 x14 (IntKind.wrap .i64 (i_7 + 1)) w9 < μ5 n_6 i_7 w9))
  (R (Ending.returned (Value.int .i64 n_6)) w9))) :
  Calls Tryd.prog 53 #[(Value.agg #[(Value.int .i64 t_1), (Value.slice t_2 t_2l t_2c)])] w R :=
  V.calls_of_R ⟨V.assoc [(0, [3, 4])], V.assocP [], V.assocC [], V.assocS [], ⟨[], true⟩⟩ Tryd.func53 rfl (Eq.mp (by kernel_rfl) h)

theorem berthlaw05_rowsAre_nf (got_1 : Option Addr) (got_1l : Nat) (got_1c : Nat) (want_2 : Option Addr) (want_2l : Nat) (want_2c : Nat) (n_3 : Int) (w : World) (R : Ending → World → Prop) (h :
  V.sel (((got_1l : Nat) : Int) != (if (if ((want_2l : Nat) : Int) < n_3 then ((want_2l : Nat) : Int) else n_3) > 0 then (if ((want_2l : Nat) : Int) < n_3 then ((want_2l : Nat) : Int) else n_3) else 0))
  (R (Ending.returned (Value.bool false)) w)
  (∃ I4 : Int → World → Prop, ∃ μ5 : Int → World → Nat, I4 0 w ∧
  ∀ t18_6 (j7 : Nat → Value) (w8 : World), I4 t18_6 w8 →
  (V.sel (decide (t18_6 < ((got_1l : Nat) : Int)))
  (V.when (decide ((0 : Int) ≤ t18_6 ∧ (t18_6 : Int) < ((got_1l : Nat) : Int))) (V.ptr got_1 fun a9 =>
  ∃ n10, World.cell? w8 (Addr.add (Addr.add a9 ((Int.toNat t18_6) * 2)) 0) = some (Value.int .i64 n10) ∧
  V.when (decide ((0 : Int) ≤ t18_6 ∧ (t18_6 : Int) < ((want_2l : Nat) : Int))) (V.ptr want_2 fun a11 =>
  ∃ n12, World.cell? w8 (Addr.add (Addr.add a11 ((Int.toNat t18_6) * 3)) 0) = some (Value.int .i64 n12) ∧
  V.sel (n10 != n12)
  (R (Ending.returned (Value.bool false)) (World.drew w8))
  (V.when (decide ((0 : Int) ≤ t18_6 ∧ (t18_6 : Int) < ((got_1l : Nat) : Int))) (V.ptr got_1 fun a13 =>
  ∃ s14, World.cell? w8 (Addr.add (Addr.add a13 ((Int.toNat t18_6) * 2)) 1) = some (Value.string s14) ∧
  V.when (decide ((0 : Int) ≤ t18_6 ∧ (t18_6 : Int) < ((want_2l : Nat) : Int))) (V.ptr want_2 fun a15 =>
  ∃ s16, World.cell? w8 (Addr.add (Addr.add a15 ((Int.toNat t18_6) * 3)) 1) = some (Value.string s16) ∧
  V.sel (!(ByteArray.toList s14 == ByteArray.toList s16))
  (R (Ending.returned (Value.bool false)) (World.drew w8))
  (I4 (IntKind.wrap .i64 (t18_6 + 1)) (World.drew w8) ∧ μ5 (IntKind.wrap .i64 (t18_6 + 1)) (World.drew w8) < μ5 t18_6 w8)))))))
  (R (Ending.returned (Value.bool true)) w8)))) :
  Calls Tryd.prog 54 #[(Value.slice got_1 got_1l got_1c), (Value.slice want_2 want_2l want_2c), (Value.int .i64 n_3)] w R :=
  V.calls_of_R ⟨V.assoc [(0, [18])], V.assocP [(6, V.line [0, 1, 2, 3, 4, 5, 6, 7, 8, 9, 10, 11, 12, 13, 14, 15, 16, 17, 18, 19, 20, 21, 22, 23])], V.assocC [], V.assocS [], ⟨[], true⟩⟩ Tryd.func54 rfl (Eq.mp (by kernel_rfl) h)

theorem berthlaw05_taken_int__nf (t_1 : Option Addr) (n_2 : Int) (w : World) (R : Ending → World → Prop) (h :
  ∀ w3, w3 = (World.alloc w (.cells #[(Value.int .i64 n_2)] 3)) →
  ∀ w4, w4 = (World.alloc w3 (.cells #[] 123)) →
  ∀ w5, w5 = (World.alloc w4 (.cells #[(Value.slice none 0 0)] 109)) →
  ∃ w6, Sem.run Tryd.prog (Instr.storeAt 109 (Value.pointer (some ⟨Array.size (World.heap w4), 0, none⟩)) (Value.slice (some ⟨Array.size (World.heap w3), 0, none⟩) 0 0)) w5 = .ok () w6 ∧
  ∃ n7, World.cell? w6 ⟨Array.size (World.heap w), 0, none⟩ = some (Value.int .i64 n7) ∧
  V.sel (decide (n7 ≤ 0))
  (∃ A8, ∃ A8l, ∃ A8c, World.cell? w6 ⟨Array.size (World.heap w4), 0, none⟩ = some (Value.slice A8 A8l A8c) ∧
  R (Ending.returned (Value.slice A8 A8l A8c)) w6)
  (Calls Tryd.prog 58 #[(Value.pointer t_1)] w6 fun e10 w11 =>
  ∃ f9, ∃ f9a, ∃ f9c, e10 = Ending.returned (Value.func (.func f9) f9a f9c) ∧
  V.when (V.hasB Tryd.prog f9 && true) (∀ (Rc12 : Loop) (l13 : Nat) (w14 : World), l13 = Array.size (World.heap w11) + 1 → w14 = World.alloc (World.alloc w11 (.deferred (some []))) (.loop { Rc12 with state := .ready, pending := none }) →
  (∀ y20_17 y21_18 (W15 : World) (R16 : Ending → World → Prop), V.LoopSt W15 l13 Rc12 .ready none →
  (V.LoopSt W15 l13 Rc12 .ready none ∧
  ∃ A19, ∃ A19l, ∃ A19c, World.cell? (V.setLoop W15 l13 Rc12 .busy none) ⟨Array.size (World.heap w4), 0, none⟩ = some (Value.slice A19 A19l A19c) ∧
  ∀ w20, w20 = (World.alloc (V.setLoop W15 l13 Rc12 .busy none) (.cells #[(Value.int .i64 y20_17), (Value.string y21_18)] 123)) →
  ∃ A21, ∃ A21l, ∃ A21c, ∃ w22, Sem.run Tryd.prog (Builtin.append_ #[109, 109] 109 #[(Value.slice A19 A19l A19c), (Value.slice (some ⟨Array.size (World.heap (V.setLoop W15 l13 Rc12 .busy none)), 0, none⟩) 1 1)]) w20 = .ok (Value.slice A21 A21l A21c) w22 ∧
  ∃ w23, Sem.run Tryd.prog (Instr.storeAt 109 (Value.pointer (some ⟨Array.size (World.heap w4), 0, none⟩)) (Value.slice A21 A21l A21c)) w22 = .ok () w23 ∧
  ∃ A24, ∃ A24l, ∃ A24c, World.cell? w23 ⟨Array.size (World.heap w4), 0, none⟩ = some (Value.slice A24 A24l A24c) ∧
  ∃ n25, World.cell? w23 ⟨Array.size (World.heap w), 0, none⟩ = some (Value.int .i64 n25) ∧
  V.sel (decide (((A24l : Nat) : Int) ≥ n25))
  (V.LoopSt w23 l13 Rc12 .busy none ∧ R16 (Ending.returned (Value.bool false)) (V.setLoop w23 l13 Rc12 .done (some (Code.exit 0))))
  (V.LoopSt w23 l13 Rc12 .busy none ∧ R16 (Ending.returned (Value.bool true)) (V.setLoop w23 l13 Rc12 .ready none))) →
  V.Yield Tryd.prog l13 [(Value.int .i64 y20_17), (Value.string y21_18)] W15 R16) →
  Calls Tryd.prog f9 ⟨Array.toList f9a ++ [(Value.func (.yield l13) #[] #[])] ++ Array.toList f9c⟩ w14 fun e26 w28 => (∃ v27, e26 = Ending.returned v27) ∧
  ((V.LoopSt w28 l13 Rc12 .ready none ∧
  ∃ A29, ∃ A29l, ∃ A29c, World.cell? (V.setLoop w28 l13 Rc12 .exhausted none) ⟨Array.size (World.heap w4), 0, none⟩ = some (Value.slice A29 A29l A29c) ∧
  V.closeR (Array.size (World.heap w11) :: []) (V.setLoop w28 l13 Rc12 .exhausted none) fun w30 =>
  R (Ending.returned (Value.slice A29 A29l A29c)) w30) ∨
  (V.LoopSt w28 l13 Rc12 .done (some (Code.exit 0)) ∧
  ∃ A31, ∃ A31l, ∃ A31c, World.cell? (V.setLoop w28 l13 Rc12 .exhausted (some (Code.exit 0))) ⟨Array.size (World.heap w4), 0, none⟩ = some (Value.slice A31 A31l A31c) ∧
  V.closeR (Array.size (World.heap w11) :: []) (V.setLoop w28 l13 Rc12 .exhausted (some (Code.exit 0))) fun w32 =>
  R (Ending.returned (Value.slice A31 A31l A31c)) w32) ∨
  False)))) :
  Calls Tryd.prog 55 #[(Value.pointer t_1), (Value.int .i64 n_2)] w R :=
  V.calls_of_R ⟨V.assoc [], V.assocP [], V.assocC [], V.assocS [(0, [V.Sh.one (.int .i64), V.Sh.one .str])], ⟨[], true⟩⟩ Tryd.func55 rfl (Eq.mp (by kernel_rfl) h)

theorem berthref05_Table_BySlot_nf (t_1 : Int) (t_2 : Option Addr) (t_2l : Nat) (t_2c : Nat) (w : World) (R : Ending → World → Prop) (h :
  ∀ w3, w3 = (World.alloc w (.cells #[(Value.int .i64 t_1), (Value.slice t_2 t_2l t_2c)] 45)) →
  ∀ w4, w4 = (World.alloc w3 (.cells #[] 59)) →
  ∃ I5 : Option Addr → Nat → Nat → Int → World → Prop, ∃ μ6 : Option Addr → Nat → Nat → Int → World → Nat, I5 (some ⟨Array.size (World.heap w3), 0, none⟩) 0 0 0 w4 ∧
  ∀ out_7 out_7l out_7c slot_8 (j9 : Nat → Value) (w10 : World), I5 out_7 out_7l out_7c slot_8 w10 →
  (∃ n11, ∃ A12, ∃ A12l, ∃ A12c, V.cellsC (fun a_ x_ => World.cell? w10 a_ = some x_) ⟨Array.size (World.heap w), 0, none⟩ [(Value.int .i64 n11), (Value.slice A12 A12l A12c)] ∧
  Calls Tryd.prog 53 #[(Value.agg #[(Value.int .i64 n11), (Value.slice A12 A12l A12c)])] w10 fun e14 w15 =>
  ∃ n13, e14 = Ending.returned (Value.int .i64 n13) ∧
  V.sel (decide (slot_8 < n13))
  (∃ n16, ∃ A17, ∃ A17l, ∃ A17c, V.cellsC (fun a_ x_ => World.cell? w15 a_ = some x_) ⟨Array.size (World.heap w), 0, none⟩ [(Value.int .i64 n16), (Value.slice A17 A17l A17c)] ∧
  Calls Tryd.prog 28 #[(Value.agg #[(Value.int .i64 n16), (Value.slice A17 A17l A17c)]), (Value.int .i64 slot_8)] w15 fun e19 w20 =>
  ∃ n18, e19 = Ending.returned (Value.int .i64 n18) ∧
  V.sel (decide (n18 ≥ 0))
  (∃ A21, ∃ A21l, ∃ A21c, World.cell? w20 (Addr.add ⟨Array.size (World.heap w), 0, none⟩ 1) = some (Value.slice A21 A21l A21c) ∧
  V.when (decide ((0 : Int) ≤ n18 ∧ (n18 : Int) < ((A21l : Nat) : Int))) (V.ptr A21 fun a22 =>
  ∃ n23, ∃ s24, ∃ n25, V.cellsC (fun a_ x_ => World.cell? w20 a_ = some x_) (Addr.add a22 ((Int.toNat n18) * 3)) [(Value.int .i64 n23), (Value.string s24), (Value.int .i64 n25)] ∧
  ∀ w26, w26 = (World.alloc w20 (.cells #[(Value.int .i64 n23), (Value.string s24), (Value.int .i64 n25)] 59)) →
  ∃ A27, ∃ A27l, ∃ A27c, ∃ w28, Sem.run Tryd.prog (Builtin.append_ #[43, 43] 43 #[(Value.slice out_7 out_7l out_7c), (Value.slice (some ⟨Array.size (World.heap w20), 0, none⟩) 1 1)]) w26 = .ok (Value.slice A27 A27l A27c) w28 ∧
  I5 A27 A27l A27c (IntKind.wrap .i64 (slot_8 + 1)) w28 ∧ μ6 A27 A27l A27c (IntKind.wrap .i64 (slot_8 + 1)) w28 < μ6 out_7 out_7l out_7c slot_8 w10))
  (I5 out_7 out_7l out_7c (IntKind.wrap .i64 (slot_8 + 1)) w20 ∧ μ6 out_7 out_7l out_7c (IntKind.wrap .i64 (slot_8 + 1)) w20 < μ6 out_7 out_7l out_7c slot_8 w10))
  (R (Ending.returned (Value.slice out_7 out_7l out_7c)) w15))) :
  Calls Tryd.prog 56 #[(Value.agg #[(Value.int .i64 t_1), (Value.slice t_2 t_2l t_2c)])] w R :=
  V.calls_of_R ⟨V.assoc [(0, [3, 4])], V.assocP [], V.assocC [], V.assocS [], ⟨[], true⟩⟩ Tryd.func56 rfl (Eq.mp (by kernel_rfl) h)

end Go.Proofs.YtcampkaenlohbaaDoor
