/- Normal forms of the program's functions, printed by a program of mine; the kernel checks each. -/
import Derived.Test.YtcampkaenlohbaaDoorProg
import Derived.Test.YtcampkaenlohbaaDoorV2
set_option linter.unusedVariables false
set_option maxRecDepth 100000
namespace Go.Proofs.YtcampkaenlohbaaDoor
open Go

theorem berthref05_Put_nf (t_1 : Int) (t_2 : Option Addr) (t_2l : Nat) (t_2c : Nat) (name_3 : ByteArray) (v_4 : Int) (w : World) (R : Ending → World → Prop) (h :
  ∀ w5, w5 = (World.alloc w (.cells #[(Value.int .i64 t_1), (Value.slice t_2 t_2l t_2c)] 45)) →
  ∀ w6, w6 = (World.alloc w5 (.cells #[(Value.int .i64 0), (Value.slice none 0 0)] 45)) →
  Calls Tryd.prog 41 #[(Value.string name_3)] w6 fun e8 w9 =>
  ∃ b7, e8 = Ending.returned (Value.bool b7) ∧
  V.sel b7
  (∃ n10, ∃ A11, ∃ A11l, ∃ A11c, V.cellsC (fun a_ x_ => World.cell? w9 a_ = some x_) ⟨Array.size (World.heap w), 0, none⟩ [(Value.int .i64 n10), (Value.slice A11 A11l A11c)] ∧
  ∃ w12, Sem.run Tryd.prog (Instr.storeAt 45 (Value.pointer (some ⟨Array.size (World.heap w5), 0, none⟩)) (Value.agg #[(Value.int .i64 n10), (Value.slice A11 A11l A11c)])) w9 = .ok () w12 ∧
  ∃ n13, ∃ A14, ∃ A14l, ∃ A14c, V.cellsC (fun a_ x_ => World.cell? w12 a_ = some x_) ⟨Array.size (World.heap w5), 0, none⟩ [(Value.int .i64 n13), (Value.slice A14 A14l A14c)] ∧
  R (Ending.returned (Value.tuple #[(Value.agg #[(Value.int .i64 n13), (Value.slice A14 A14l A14c)]), (Value.int .i64 0), (Value.int .i64 51)])) w12)
  (∃ n15, ∃ A16, ∃ A16l, ∃ A16c, V.cellsC (fun a_ x_ => World.cell? w9 a_ = some x_) ⟨Array.size (World.heap w), 0, none⟩ [(Value.int .i64 n15), (Value.slice A16 A16l A16c)] ∧
  Calls Tryd.prog 42 #[(Value.agg #[(Value.int .i64 n15), (Value.slice A16 A16l A16c)]), (Value.string name_3)] w9 fun e18 w19 =>
  ∃ n17, e18 = Ending.returned (Value.int .i64 n17) ∧
  V.sel (decide (n17 ≥ 0))
  (∃ n20, ∃ A21, ∃ A21l, ∃ A21c, V.cellsC (fun a_ x_ => World.cell? w19 a_ = some x_) ⟨Array.size (World.heap w), 0, none⟩ [(Value.int .i64 n20), (Value.slice A21 A21l A21c)] ∧
  ∃ w22, Sem.run Tryd.prog (Instr.storeAt 45 (Value.pointer (some ⟨Array.size (World.heap w5), 0, none⟩)) (Value.agg #[(Value.int .i64 n20), (Value.slice A21 A21l A21c)])) w19 = .ok () w22 ∧
  ∃ n23, ∃ A24, ∃ A24l, ∃ A24c, V.cellsC (fun a_ x_ => World.cell? w22 a_ = some x_) ⟨Array.size (World.heap w5), 0, none⟩ [(Value.int .i64 n23), (Value.slice A24 A24l A24c)] ∧
  R (Ending.returned (Value.tuple #[(Value.agg #[(Value.int .i64 n23), (Value.slice A24 A24l A24c)]), (Value.int .i64 0), (Value.int .i64 52)])) w22)
  (∃ A25, ∃ A25l, ∃ A25c, World.cell? w19 (Addr.add ⟨Array.size (World.heap w), 0, none⟩ 1) = some (Value.slice A25 A25l A25c) ∧
  ∃ n26, World.cell? w19 (Addr.add ⟨Array.size (World.heap w), 0, none⟩ 0) = some (Value.int .i64 n26) ∧
  V.sel (decide (((A25l : Nat) : Int) ≥ n26))
  (∃ n27, ∃ A28, ∃ A28l, ∃ A28c, V.cellsC (fun a_ x_ => World.cell? w19 a_ = some x_) ⟨Array.size (World.heap w), 0, none⟩ [(Value.int .i64 n27), (Value.slice A28 A28l A28c)] ∧
  ∃ w29, Sem.run Tryd.prog (Instr.storeAt 45 (Value.pointer (some ⟨Array.size (World.heap w5), 0, none⟩)) (Value.agg #[(Value.int .i64 n27), (Value.slice A28 A28l A28c)])) w19 = .ok () w29 ∧
  ∃ n30, ∃ A31, ∃ A31l, ∃ A31c, V.cellsC (fun a_ x_ => World.cell? w29 a_ = some x_) ⟨Array.size (World.heap w5), 0, none⟩ [(Value.int .i64 n30), (Value.slice A31 A31l A31c)] ∧
  R (Ending.returned (Value.tuple #[(Value.agg #[(Value.int .i64 n30), (Value.slice A31 A31l A31c)]), (Value.int .i64 0), (Value.int .i64 53)])) w29)
  (∃ I32 : Int → World → Prop, ∃ μ33 : Int → World → Nat, I32 0 w19 ∧
  ∀ slot_34 (j35 : Nat → Value) (w36 : World), I32 slot_34 w36 →
  (∃ n37, ∃ A38, ∃ A38l, ∃ A38c, V.cellsC (fun a_ x_ => World.cell? w36 a_ = some x_) ⟨Array.size (World.heap w), 0, none⟩ [(Value.int .i64 n37), (Value.slice A38 A38l A38c)] ∧
  Calls Tryd.prog 28 #[(Value.agg #[(Value.int .i64 n37), (Value.slice A38 A38l A38c)]), (Value.int .i64 slot_34)] w36 fun e40 w41 =>
  ∃ n39, e40 = Ending.returned (Value.int .i64 n39) ∧
  V.sel (decide (n39 ≥ 0))
  (I32 (IntKind.wrap .i64 (slot_34 + 1)) w41 ∧ μ33 (IntKind.wrap .i64 (slot_34 + 1)) w41 < μ33 slot_34 w36)
  (∀ w42, w42 = (World.alloc w41 (.cells #[] 59)) →
  ∃ A43, ∃ A43l, ∃ A43c, World.cell? w42 (Addr.add ⟨Array.size (World.heap w), 0, none⟩ 1) = some (Value.slice A43 A43l A43c) ∧
  ∃ A44, ∃ A44l, ∃ A44c, ∃ w45, Sem.run Tryd.prog (Builtin.append_ #[43, 43] 43 #[(Value.slice (some ⟨Array.size (World.heap w41), 0, none⟩) 0 0), (Value.slice A43 A43l A43c)]) w42 = .ok (Value.slice A44 A44l A44c) w45 ∧
  ∀ w46, w46 = (World.alloc w45 (.cells #[(Value.int .i64 slot_34), (Value.string name_3), (Value.int .i64 v_4)] 59)) →
  ∃ A47, ∃ A47l, ∃ A47c, ∃ w48, Sem.run Tryd.prog (Builtin.append_ #[43, 43] 43 #[(Value.slice A44 A44l A44c), (Value.slice (some ⟨Array.size (World.heap w45), 0, none⟩) 1 1)]) w46 = .ok (Value.slice A47 A47l A47c) w48 ∧
  ∃ n49, World.cell? w48 (Addr.add ⟨Array.size (World.heap w), 0, none⟩ 0) = some (Value.int .i64 n49) ∧
  ∃ w50, Sem.run Tryd.prog (Instr.storeAt 45 (Value.pointer (some ⟨Array.size (World.heap w5), 0, none⟩)) (Value.agg #[(Value.int .i64 n49), (Value.slice A47 A47l A47c)])) w48 = .ok () w50 ∧
  ∃ n51, ∃ A52, ∃ A52l, ∃ A52c, V.cellsC (fun a_ x_ => World.cell? w50 a_ = some x_) ⟨Array.size (World.heap w5), 0, none⟩ [(Value.int .i64 n51), (Value.slice A52 A52l A52c)] ∧
  R (Ending.returned (Value.tuple #[(Value.agg #[(Value.int .i64 n51), (Value.slice A52 A52l A52c)]), (Value.int .i64 slot_34), (Value.int .i64 0)])) w50)))))) :
  Calls Tryd.prog 18 #[(Value.agg #[(Value.int .i64 t_1), (Value.slice t_2 t_2l t_2c)]), (Value.string name_3), (Value.int .i64 v_4)] w R :=
  V.calls_of_R ⟨V.assoc [(0, [9])], V.assocP [], V.assocC [], V.assocS [], ⟨[], true⟩⟩ Tryd.func18 rfl (Eq.mp (by kernel_rfl) h)

theorem berthref05_Set_nf (t_1 : Int) (t_2 : Option Addr) (t_2l : Nat) (t_2c : Nat) (name_3 : ByteArray) (v_4 : Int) (w : World) (R : Ending → World → Prop) (h :
  ∀ w5, w5 = (World.alloc w (.cells #[(Value.int .i64 t_1), (Value.slice t_2 t_2l t_2c)] 45)) →
  ∀ w6, w6 = (World.alloc w5 (.cells #[(Value.int .i64 0), (Value.slice none 0 0)] 45)) →
  Calls Tryd.prog 41 #[(Value.string name_3)] w6 fun e8 w9 =>
  ∃ b7, e8 = Ending.returned (Value.bool b7) ∧
  V.sel b7
  (∃ n10, ∃ A11, ∃ A11l, ∃ A11c, V.cellsC (fun a_ x_ => World.cell? w9 a_ = some x_) ⟨Array.size (World.heap w), 0, none⟩ [(Value.int .i64 n10), (Value.slice A11 A11l A11c)] ∧
  ∃ w12, Sem.run Tryd.prog (Instr.storeAt 45 (Value.pointer (some ⟨Array.size (World.heap w5), 0, none⟩)) (Value.agg #[(Value.int .i64 n10), (Value.slice A11 A11l A11c)])) w9 = .ok () w12 ∧
  ∃ n13, ∃ A14, ∃ A14l, ∃ A14c, V.cellsC (fun a_ x_ => World.cell? w12 a_ = some x_) ⟨Array.size (World.heap w5), 0, none⟩ [(Value.int .i64 n13), (Value.slice A14 A14l A14c)] ∧
  R (Ending.returned (Value.tuple #[(Value.agg #[(Value.int .i64 n13), (Value.slice A14 A14l A14c)]), (Value.int .i64 51)])) w12)
  (∃ n15, ∃ A16, ∃ A16l, ∃ A16c, V.cellsC (fun a_ x_ => World.cell? w9 a_ = some x_) ⟨Array.size (World.heap w), 0, none⟩ [(Value.int .i64 n15), (Value.slice A16 A16l A16c)] ∧
  Calls Tryd.prog 42 #[(Value.agg #[(Value.int .i64 n15), (Value.slice A16 A16l A16c)]), (Value.string name_3)] w9 fun e18 w19 =>
  ∃ n17, e18 = Ending.returned (Value.int .i64 n17) ∧
  V.sel (decide (n17 < 0))
  (∃ n20, ∃ A21, ∃ A21l, ∃ A21c, V.cellsC (fun a_ x_ => World.cell? w19 a_ = some x_) ⟨Array.size (World.heap w), 0, none⟩ [(Value.int .i64 n20), (Value.slice A21 A21l A21c)] ∧
  ∃ w22, Sem.run Tryd.prog (Instr.storeAt 45 (Value.pointer (some ⟨Array.size (World.heap w5), 0, none⟩)) (Value.agg #[(Value.int .i64 n20), (Value.slice A21 A21l A21c)])) w19 = .ok () w22 ∧
  ∃ n23, ∃ A24, ∃ A24l, ∃ A24c, V.cellsC (fun a_ x_ => World.cell? w22 a_ = some x_) ⟨Array.size (World.heap w5), 0, none⟩ [(Value.int .i64 n23), (Value.slice A24 A24l A24c)] ∧
  R (Ending.returned (Value.tuple #[(Value.agg #[(Value.int .i64 n23), (Value.slice A24 A24l A24c)]), (Value.int .i64 54)])) w22)
  (∀ w25, w25 = (World.alloc w19 (.cells #[] 59)) →
  ∃ A26, ∃ A26l, ∃ A26c, World.cell? w25 (Addr.add ⟨Array.size (World.heap w), 0, none⟩ 1) = some (Value.slice A26 A26l A26c) ∧
  ∃ A27, ∃ A27l, ∃ A27c, ∃ w28, Sem.run Tryd.prog (Builtin.append_ #[43, 43] 43 #[(Value.slice (some ⟨Array.size (World.heap w19), 0, none⟩) 0 0), (Value.slice A26 A26l A26c)]) w25 = .ok (Value.slice A27 A27l A27c) w28 ∧
  V.when (decide ((0 : Int) ≤ n17 ∧ (n17 : Int) < ((A27l : Nat) : Int))) (V.ptr A27 fun a29 =>
  ∃ w30, Sem.run Tryd.prog (Instr.storeAt 3 (Value.pointer (some (Addr.add (Addr.add a29 ((Int.toNat n17) * 3)) 2))) (Value.int .i64 v_4)) w28 = .ok () w30 ∧
  ∃ n31, World.cell? w30 (Addr.add ⟨Array.size (World.heap w), 0, none⟩ 0) = some (Value.int .i64 n31) ∧
  ∃ w32, Sem.run Tryd.prog (Instr.storeAt 45 (Value.pointer (some ⟨Array.size (World.heap w5), 0, none⟩)) (Value.agg #[(Value.int .i64 n31), (Value.slice A27 A27l A27c)])) w30 = .ok () w32 ∧
  ∃ n33, ∃ A34, ∃ A34l, ∃ A34c, V.cellsC (fun a_ x_ => World.cell? w32 a_ = some x_) ⟨Array.size (World.heap w5), 0, none⟩ [(Value.int .i64 n33), (Value.slice A34 A34l A34c)] ∧
  R (Ending.returned (Value.tuple #[(Value.agg #[(Value.int .i64 n33), (Value.slice A34 A34l A34c)]), (Value.int .i64 0)])) w32)))) :
  Calls Tryd.prog 21 #[(Value.agg #[(Value.int .i64 t_1), (Value.slice t_2 t_2l t_2c)]), (Value.string name_3), (Value.int .i64 v_4)] w R :=
  V.calls_of_R ⟨V.assoc [], V.assocP [], V.assocC [], V.assocS [], ⟨[], true⟩⟩ Tryd.func21 rfl (Eq.mp (by kernel_rfl) h)

theorem berthref05_Drop_nf (t_1 : Int) (t_2 : Option Addr) (t_2l : Nat) (t_2c : Nat) (name_3 : ByteArray) (w : World) (R : Ending → World → Prop) (h :
  ∀ w4, w4 = (World.alloc w (.cells #[(Value.int .i64 t_1), (Value.slice t_2 t_2l t_2c)] 45)) →
  ∀ w5, w5 = (World.alloc w4 (.cells #[(Value.int .i64 0), (Value.slice none 0 0)] 45)) →
  Calls Tryd.prog 41 #[(Value.string name_3)] w5 fun e7 w8 =>
  ∃ b6, e7 = Ending.returned (Value.bool b6) ∧
  V.sel b6
  (∃ n9, ∃ A10, ∃ A10l, ∃ A10c, V.cellsC (fun a_ x_ => World.cell? w8 a_ = some x_) ⟨Array.size (World.heap w), 0, none⟩ [(Value.int .i64 n9), (Value.slice A10 A10l A10c)] ∧
  ∃ w11, Sem.run Tryd.prog (Instr.storeAt 45 (Value.pointer (some ⟨Array.size (World.heap w4), 0, none⟩)) (Value.agg #[(Value.int .i64 n9), (Value.slice A10 A10l A10c)])) w8 = .ok () w11 ∧
  ∃ n12, ∃ A13, ∃ A13l, ∃ A13c, V.cellsC (fun a_ x_ => World.cell? w11 a_ = some x_) ⟨Array.size (World.heap w4), 0, none⟩ [(Value.int .i64 n12), (Value.slice A13 A13l A13c)] ∧
  R (Ending.returned (Value.tuple #[(Value.agg #[(Value.int .i64 n12), (Value.slice A13 A13l A13c)]), (Value.int .i64 0), (Value.int .i64 51)])) w11)
  (∃ n14, ∃ A15, ∃ A15l, ∃ A15c, V.cellsC (fun a_ x_ => World.cell? w8 a_ = some x_) ⟨Array.size (World.heap w), 0, none⟩ [(Value.int .i64 n14), (Value.slice A15 A15l A15c)] ∧
  Calls Tryd.prog 42 #[(Value.agg #[(Value.int .i64 n14), (Value.slice A15 A15l A15c)]), (Value.string name_3)] w8 fun e17 w18 =>
  ∃ n16, e17 = Ending.returned (Value.int .i64 n16) ∧
  V.sel (decide (n16 < 0))
  (∃ n19, ∃ A20, ∃ A20l, ∃ A20c, V.cellsC (fun a_ x_ => World.cell? w18 a_ = some x_) ⟨Array.size (World.heap w), 0, none⟩ [(Value.int .i64 n19), (Value.slice A20 A20l A20c)] ∧
  ∃ w21, Sem.run Tryd.prog (Instr.storeAt 45 (Value.pointer (some ⟨Array.size (World.heap w4), 0, none⟩)) (Value.agg #[(Value.int .i64 n19), (Value.slice A20 A20l A20c)])) w18 = .ok () w21 ∧
  ∃ n22, ∃ A23, ∃ A23l, ∃ A23c, V.cellsC (fun a_ x_ => World.cell? w21 a_ = some x_) ⟨Array.size (World.heap w4), 0, none⟩ [(Value.int .i64 n22), (Value.slice A23 A23l A23c)] ∧
  R (Ending.returned (Value.tuple #[(Value.agg #[(Value.int .i64 n22), (Value.slice A23 A23l A23c)]), (Value.int .i64 0), (Value.int .i64 54)])) w21)
  (∀ w24, w24 = (World.alloc w18 (.cells #[] 59)) →
  ∃ I25 : Option Addr → Nat → Nat → Int → World → Prop, ∃ μ26 : Option Addr → Nat → Nat → Int → World → Nat, I25 (some ⟨Array.size (World.heap w18), 0, none⟩) 0 0 0 w24 ∧
  ∀ rows_27 rows_27l rows_27c i_28 (j29 : Nat → Value) (w30 : World), I25 rows_27 rows_27l rows_27c i_28 w30 →
  (∃ A31, ∃ A31l, ∃ A31c, World.cell? w30 (Addr.add ⟨Array.size (World.heap w), 0, none⟩ 1) = some (Value.slice A31 A31l A31c) ∧
  V.sel (decide (i_28 < ((A31l : Nat) : Int)))
  (V.sel (i_28 != n16)
  (∃ A32, ∃ A32l, ∃ A32c, World.cell? w30 (Addr.add ⟨Array.size (World.heap w), 0, none⟩ 1) = some (Value.slice A32 A32l A32c) ∧
  V.when (decide ((0 : Int) ≤ i_28 ∧ (i_28 : Int) < ((A32l : Nat) : Int))) (V.ptr A32 fun a33 =>
  ∃ n34, ∃ s35, ∃ n36, V.cellsC (fun a_ x_ => World.cell? w30 a_ = some x_) (Addr.add a33 ((Int.toNat i_28) * 3)) [(Value.int .i64 n34), (Value.string s35), (Value.int .i64 n36)] ∧
  ∀ w37, w37 = (World.alloc w30 (.cells #[(Value.int .i64 n34), (Value.string s35), (Value.int .i64 n36)] 59)) →
  ∃ A38, ∃ A38l, ∃ A38c, ∃ w39, Sem.run Tryd.prog (Builtin.append_ #[43, 43] 43 #[(Value.slice rows_27 rows_27l rows_27c), (Value.slice (some ⟨Array.size (World.heap w30), 0, none⟩) 1 1)]) w37 = .ok (Value.slice A38 A38l A38c) w39 ∧
  I25 A38 A38l A38c (IntKind.wrap .i64 (i_28 + 1)) w39 ∧ μ26 A38 A38l A38c (IntKind.wrap .i64 (i_28 + 1)) w39 < μ26 rows_27 rows_27l rows_27c i_28 w30))
  (I25 rows_27 rows_27l rows_27c (IntKind.wrap .i64 (i_28 + 1)) w30 ∧ μ26 rows_27 rows_27l rows_27c (IntKind.wrap .i64 (i_28 + 1)) w30 < μ26 rows_27 rows_27l rows_27c i_28 w30))
  (∃ S40 : World → Prop, S40 (World.drew w30) ∧
  ∃ n42, (∀ w41, S40 w41 → World.cell? w41 (Addr.add ⟨Array.size (World.heap w), 0, none⟩ 0) = some (Value.int .i64 n42)) ∧
  ∃ A43, ∃ A43l, ∃ A43c, (∀ w41, S40 w41 → World.cell? w41 (Addr.add ⟨Array.size (World.heap w), 0, none⟩ 1) = some (Value.slice A43 A43l A43c)) ∧
  V.when (decide ((0 : Int) ≤ n16 ∧ (n16 : Int) < ((A43l : Nat) : Int))) (V.ptr A43 fun a44 =>
  ∃ n45, (∀ w41, S40 w41 → World.cell? w41 (Addr.add (Addr.add a44 ((Int.toNat n16) * 3)) 0) = some (Value.int .i64 n45)) ∧
  ∃ w46, Sem.run Tryd.prog (Instr.storeAt 45 (Value.pointer (some ⟨Array.size (World.heap w4), 0, none⟩)) (Value.agg #[(Value.int .i64 n42), (Value.slice rows_27 rows_27l rows_27c)])) (World.drew w30) = .ok () w46 ∧
  S40 w46 ∧
  ∃ n47, ∃ A48, ∃ A48l, ∃ A48c, V.cellsC (fun a_ x_ => World.cell? w46 a_ = some x_) ⟨Array.size (World.heap w4), 0, none⟩ [(Value.int .i64 n47), (Value.slice A48 A48l A48c)] ∧
  R (Ending.returned (Value.tuple #[(Value.agg #[(Value.int .i64 n47), (Value.slice A48 A48l A48c)]), (Value.int .i64 n45), (Value.int .i64 0)])) w46)))))) :
  Calls Tryd.prog 24 #[(Value.agg #[(Value.int .i64 t_1), (Value.slice t_2 t_2l t_2c)]), (Value.string name_3)] w R :=
  V.calls_of_R ⟨V.assoc [(0, [8, 9])], V.assocP [(12, V.line [0, 1, 2, 3, 4, 5, 6, 7, 8, 9, 10, 11, 12])], V.assocC [], V.assocS [], ⟨[], true⟩⟩ Tryd.func24 rfl (Eq.mp (by kernel_rfl) h)

theorem berthref05_Table_At_nf (t_1 : Int) (t_2 : Option Addr) (t_2l : Nat) (t_2c : Nat) (slot_3 : Int) (w : World) (R : Ending → World → Prop) (h :
  ∀ w4, w4 = (World.alloc w (.cells #[(Value.int .i64 t_1), (Value.slice t_2 t_2l t_2c)] 45)) →
  ∃ I5 : Int → World → Prop, ∃ μ6 : Int → World → Nat, I5 0 w4 ∧
  ∀ i_7 (j8 : Nat → Value) (w9 : World), I5 i_7 w9 →
  (∃ A10, ∃ A10l, ∃ A10c, World.cell? w9 (Addr.add ⟨Array.size (World.heap w), 0, none⟩ 1) = some (Value.slice A10 A10l A10c) ∧
  V.sel (decide (i_7 < ((A10l : Nat) : Int)))
  (∃ A11, ∃ A11l, ∃ A11c, World.cell? w9 (Addr.add ⟨Array.size (World.heap w), 0, none⟩ 1) = some (Value.slice A11 A11l A11c) ∧
  V.when (decide ((0 : Int) ≤ i_7 ∧ (i_7 : Int) < ((A11l : Nat) : Int))) (V.ptr A11 fun a12 =>
  ∃ n13, World.cell? w9 (Addr.add (Addr.add a12 ((Int.toNat i_7) * 3)) 0) = some (Value.int .i64 n13) ∧
  V.sel (n13 == slot_3)
  (R (Ending.returned (Value.int .i64 i_7)) w9)
  (I5 (IntKind.wrap .i64 (i_7 + 1)) w9 ∧ μ6 (IntKind.wrap .i64 (i_7 + 1)) w9 < μ6 i_7 w9)))
  (R (Ending.returned (Value.int .i64 (-1))) w9))) :
  Calls Tryd.prog 28 #[(Value.agg #[(Value.int .i64 t_1), (Value.slice t_2 t_2l t_2c)]), (Value.int .i64 slot_3)] w R :=
  V.calls_of_R ⟨V.assoc [(0, [5])], V.assocP [], V.assocC [], V.assocS [], ⟨[], true⟩⟩ Tryd.func28 rfl (Eq.mp (by kernel_rfl) h)

theorem berthlaw05_textsAre_nf (a_1 : Option Addr) (a_1l : Nat) (a_1c : Nat) (b_2 : Option Addr) (b_2l : Nat) (b_2c : Nat) (w : World) (R : Ending → World → Prop) (h :
  V.sel (((a_1l : Nat) : Int) != ((b_2l : Nat) : Int))
  (R (Ending.returned (Value.bool false)) w)
  (∃ I3 : Int → World → Prop, ∃ μ4 : Int → World → Nat, I3 0 w ∧
  ∀ t13_5 (j6 : Nat → Value) (w7 : World), I3 t13_5 w7 →
  (V.sel (decide (t13_5 < ((a_1l : Nat) : Int)))
  (V.when (decide ((0 : Int) ≤ t13_5 ∧ (t13_5 : Int) < ((a_1l : Nat) : Int))) (V.ptr a_1 fun a8 =>
  ∃ s9, World.cell? w7 (Addr.add a8 ((Int.toNat t13_5) * 1)) = some (Value.string s9) ∧
  V.when (decide ((0 : Int) ≤ t13_5 ∧ (t13_5 : Int) < ((b_2l : Nat) : Int))) (V.ptr b_2 fun a10 =>
  ∃ s11, World.cell? w7 (Addr.add a10 ((Int.toNat t13_5) * 1)) = some (Value.string s11) ∧
  V.sel (!(ByteArray.toList s9 == ByteArray.toList s11))
  (R (Ending.returned (Value.bool false)) (World.drew w7))
  (I3 (IntKind.wrap .i64 (t13_5 + 1)) (World.drew w7) ∧ μ4 (IntKind.wrap .i64 (t13_5 + 1)) (World.drew w7) < μ4 t13_5 w7))))
  (R (Ending.returned (Value.bool true)) w7)))) :
  Calls Tryd.prog 29 #[(Value.slice a_1 a_1l a_1c), (Value.slice b_2 b_2l b_2c)] w R :=
  V.calls_of_R ⟨V.assoc [(0, [13])], V.assocP [(6, V.line [0, 1, 2, 3, 4, 5, 6, 7, 8])], V.assocC [], V.assocS [], ⟨[], true⟩⟩ Tryd.func29 rfl (Eq.mp (by kernel_rfl) h)

theorem berthref05_Table_Names_nf (t_1 : Int) (t_2 : Option Addr) (t_2l : Nat) (t_2c : Nat) (w : World) (R : Ending → World → Prop) (h :
  ∀ w3, w3 = (World.alloc w (.cells #[(Value.int .i64 t_1), (Value.slice t_2 t_2l t_2c)] 45)) →
  ∀ w4, w4 = (World.alloc w3 (.cells #[] 9)) →
  ∃ I5 : Option Addr → Nat → Nat → Int → World → Prop, ∃ μ6 : Option Addr → Nat → Nat → Int → World → Nat, I5 (some ⟨Array.size (World.heap w3), 0, none⟩) 0 0 0 w4 ∧
  ∀ out_7 out_7l out_7c i_8 (j9 : Nat → Value) (w10 : World), I5 out_7 out_7l out_7c i_8 w10 →
  (∃ A11, ∃ A11l, ∃ A11c, World.cell? w10 (Addr.add ⟨Array.size (World.heap w), 0, none⟩ 1) = some (Value.slice A11 A11l A11c) ∧
  V.sel (decide (i_8 < ((A11l : Nat) : Int)))
  (∃ A12, ∃ A12l, ∃ A12c, World.cell? w10 (Addr.add ⟨Array.size (World.heap w), 0, none⟩ 1) = some (Value.slice A12 A12l A12c) ∧
  V.when (decide ((0 : Int) ≤ i_8 ∧ (i_8 : Int) < ((A12l : Nat) : Int))) (V.ptr A12 fun a13 =>
  ∃ s14, World.cell? w10 (Addr.add (Addr.add a13 ((Int.toNat i_8) * 3)) 1) = some (Value.string s14) ∧
  ∃ I15 : Int → World → Prop, ∃ μ16 : Int → World → Nat, I15 0 w10 ∧
  ∀ at_17 (j18 : Nat → Value) (w19 : World), I15 at_17 w19 →
  (V.sel (decide (at_17 < ((out_7l : Nat) : Int)))
  (V.when (decide ((0 : Int) ≤ at_17 ∧ (at_17 : Int) < ((out_7l : Nat) : Int))) (V.ptr out_7 fun a20 =>
  ∃ s21, World.cell? w19 (Addr.add a20 ((Int.toNat at_17) * 1)) = some (Value.string s21) ∧
  V.sel (Op.bytesLess (ByteArray.toList s21) (ByteArray.toList s14))
  (I15 (IntKind.wrap .i64 (at_17 + 1)) w19 ∧ μ16 (IntKind.wrap .i64 (at_17 + 1)) w19 < μ16 at_17 w19)
  (∀ w22, w22 = (World.alloc w19 (.cells #[(Value.string ByteArray.empty)] 9)) →
  ∃ A23, ∃ A23l, ∃ A23c, ∃ w24, Sem.run Tryd.prog (Builtin.append_ #[68, 68] 68 #[(Value.slice out_7 out_7l out_7c), (Value.slice (some ⟨Array.size (World.heap w19), 0, none⟩) 1 1)]) w22 = .ok (Value.slice A23 A23l A23c) w24 ∧
  V.lt (IntKind.wrap .i64 (((A23l : Nat) : Int) - 1)) fun x25 =>
  ∃ I26 : Int → World → Prop, ∃ μ27 : Int → World → Nat, I26 x25 w24 ∧
  ∀ j_28 (j29 : Nat → Value) (w30 : World), I26 j_28 w30 →
  (V.sel (decide (j_28 > at_17))
  (V.when (decide ((0 : Int) ≤ (IntKind.wrap .i64 (j_28 - 1)) ∧ ((IntKind.wrap .i64 (j_28 - 1)) : Int) < ((A23l : Nat) : Int))) (V.ptr A23 fun a31 =>
  ∃ s32, World.cell? w30 (Addr.add a31 ((Int.toNat (IntKind.wrap .i64 (j_28 - 1))) * 1)) = some (Value.string s32) ∧
  V.when (decide ((0 : Int) ≤ j_28 ∧ (j_28 : Int) < ((A23l : Nat) : Int))) (V.ptr A23 fun a33 =>
  ∃ w34, Sem.run Tryd.prog (Instr.storeAt 9 (Value.pointer (some (Addr.add a33 ((Int.toNat j_28) * 1)))) (Value.string s32)) w30 = .ok () w34 ∧
  I26 (IntKind.wrap .i64 (j_28 - 1)) w34 ∧ μ27 (IntKind.wrap .i64 (j_28 - 1)) w34 < μ27 j_28 w30)))
  (V.when (decide ((0 : Int) ≤ at_17 ∧ (at_17 : Int) < ((A23l : Nat) : Int))) (V.ptr A23 fun a35 =>
  ∃ w36, Sem.run Tryd.prog (Instr.storeAt 9 (Value.pointer (some (Addr.add a35 ((Int.toNat at_17) * 1)))) (Value.string s14)) w30 = .ok () w36 ∧
  I5 A23 A23l A23c (IntKind.wrap .i64 (i_8 + 1)) w36 ∧ μ6 A23 A23l A23c (IntKind.wrap .i64 (i_8 + 1)) w36 < μ6 out_7 out_7l out_7c i_8 w10))))))
  (∀ w37, w37 = (World.alloc w19 (.cells #[(Value.string ByteArray.empty)] 9)) →
  ∃ A38, ∃ A38l, ∃ A38c, ∃ w39, Sem.run Tryd.prog (Builtin.append_ #[68, 68] 68 #[(Value.slice out_7 out_7l out_7c), (Value.slice (some ⟨Array.size (World.heap w19), 0, none⟩) 1 1)]) w37 = .ok (Value.slice A38 A38l A38c) w39 ∧
  V.lt (IntKind.wrap .i64 (((A38l : Nat) : Int) - 1)) fun x40 =>
  ∃ I41 : Int → World → Prop, ∃ μ42 : Int → World → Nat, I41 x40 w39 ∧
  ∀ j_43 (j44 : Nat → Value) (w45 : World), I41 j_43 w45 →
  (V.sel (decide (j_43 > at_17))
  (V.when (decide ((0 : Int) ≤ (IntKind.wrap .i64 (j_43 - 1)) ∧ ((IntKind.wrap .i64 (j_43 - 1)) : Int) < ((A38l : Nat) : Int))) (V.ptr A38 fun a46 =>
  ∃ s47, World.cell? w45 (Addr.add a46 ((Int.toNat (IntKind.wrap .i64 (j_43 - 1))) * 1)) = some (Value.string s47) ∧
  V.when (decide ((0 : Int) ≤ j_43 ∧ (j_43 : Int) < ((A38l : Nat) : Int))) (V.ptr A38 fun a48 =>
  ∃ w49, Sem.run Tryd.prog (Instr.storeAt 9 (Value.pointer (some (Addr.add a48 ((Int.toNat j_43) * 1)))) (Value.string s47)) w45 = .ok () w49 ∧
  I41 (IntKind.wrap .i64 (j_43 - 1)) w49 ∧ μ42 (IntKind.wrap .i64 (j_43 - 1)) w49 < μ42 j_43 w45)))
  (V.when (decide ((0 : Int) ≤ at_17 ∧ (at_17 : Int) < ((A38l : Nat) : Int))) (V.ptr A38 fun a50 =>
  ∃ w51, Sem.run Tryd.prog (Instr.storeAt 9 (Value.pointer (some (Addr.add a50 ((Int.toNat at_17) * 1)))) (Value.string s14)) w45 = .ok () w51 ∧
  I5 A38 A38l A38c (IntKind.wrap .i64 (i_8 + 1)) w51 ∧ μ6 A38 A38l A38c (IntKind.wrap .i64 (i_8 + 1)) w51 < μ6 out_7 out_7l out_7c i_8 w10)))))))
  (R (Ending.returned (Value.slice out_7 out_7l out_7c)) w10))) :
  Calls Tryd.prog 31 #[(Value.agg #[(Value.int .i64 t_1), (Value.slice t_2 t_2l t_2c)])] w R :=
  V.calls_of_R ⟨V.assoc [(0, [3, 4]), (1, [6]), (2, [7])], V.assocP [], V.assocC [], V.assocS [], ⟨[], true⟩⟩ Tryd.func31 rfl (Eq.mp (by kernel_rfl) h)

theorem berthlaw05_begin_nf  (w : World) (R : Ending → World → Prop) (h :
  ∀ w1, w1 = (World.alloc w (.cells #[(Value.pointer none), (Value.pointer none), (Value.pointer none), (Value.pointer none), (Value.int .i64 0), (Value.slice none 0 0), (Value.int .i64 0), (Value.slice none 0 0), (Value.int .i64 0), (Value.slice none 0 0), (Value.int .i64 0), (Value.slice none 0 0)] 78)) →
  ∀ w2, w2 = (World.alloc w1 (.cells #[(Value.int .i64 2), (Value.int .i64 5), (Value.int .i64 70)] 3)) →
  ∃ I3 : Int → World → Prop, ∃ μ4 : Int → World → Nat, I3 0 w2 ∧
  ∀ t11_5 (j6 : Nat → Value) (w7 : World), I3 t11_5 w7 →
  (V.sel (decide (t11_5 < 3))
  (V.when (decide ((0 : Int) ≤ t11_5 ∧ (t11_5 : Int) < 3)) (∃ n8, World.cell? w7 (Addr.add ⟨Array.size (World.heap w1), 0, none⟩ ((Int.toNat t11_5) * 1)) = some (Value.int .i64 n8) ∧
  Calls Tryd.prog 7 #[(Value.int .i64 n8)] w7 fun e11 w12 =>
  ∃ p9, ∃ n10, e11 = Ending.returned (Value.tuple #[(Value.pointer p9), (Value.int .i64 n10)]) ∧
  V.sel (Option.isNone p9)
  (R (Ending.returned (Value.tuple #[(Value.pointer none), (Value.bool false)])) w12)
  (V.sel (n10 != 0)
  (R (Ending.returned (Value.tuple #[(Value.pointer none), (Value.bool false)])) w12)
  (V.when (decide ((0 : Int) ≤ t11_5 ∧ (t11_5 : Int) < 4)) (∃ w13, Sem.run Tryd.prog (Instr.storeAt 24 (Value.pointer (some (Addr.add (Addr.add ⟨Array.size (World.heap w), 0, none⟩ 0) ((Int.toNat t11_5) * 1)))) (Value.pointer p9)) w12 = .ok () w13 ∧
  ∃ S14 : World → Prop, S14 (World.drew w13) ∧
  Calls Tryd.prog 15 #[(Value.int .i64 n8)] (World.drew w13) fun e19 w20 =>
  ∃ n16, ∃ A17, ∃ A17l, ∃ A17c, ∃ n18, e19 = Ending.returned (Value.tuple #[(Value.agg #[(Value.int .i64 n16), (Value.slice A17 A17l A17c)]), (Value.int .i64 n18)]) ∧
  S14 w20 ∧
  V.when (decide ((0 : Int) ≤ t11_5 ∧ (t11_5 : Int) < 4)) (∃ w21, Sem.run Tryd.prog (Instr.storeAt 45 (Value.pointer (some (Addr.add (Addr.add ⟨Array.size (World.heap w), 0, none⟩ 4) ((Int.toNat t11_5) * 2)))) (Value.agg #[(Value.int .i64 n16), (Value.slice A17 A17l A17c)])) w20 = .ok () w21 ∧
  S14 w21 ∧
  I3 (IntKind.wrap .i64 (t11_5 + 1)) w21 ∧ μ4 (IntKind.wrap .i64 (t11_5 + 1)) w21 < μ4 t11_5 w7))))))
  (R (Ending.returned (Value.tuple #[(Value.pointer (some ⟨Array.size (World.heap w), 0, none⟩)), (Value.bool true)])) w7))) :
  Calls Tryd.prog 33 #[] w R :=
  V.calls_of_R ⟨V.assoc [(0, [11])], V.assocP [(9, V.line [0, 1, 2, 7, 8, 3, 4, 5, 6, 9, 10])], V.assocC [], V.assocS [], ⟨[], true⟩⟩ Tryd.func33 rfl (Eq.mp (by kernel_rfl) h)

end Go.Proofs.YtcampkaenlohbaaDoor
