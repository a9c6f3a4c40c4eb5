/- Normal forms of the program's functions, printed by a program of mine; the kernel checks each. -/
import Derived.Test.YtcampkaenlohbaaProg
import Derived.Test.YtcampkaenlohbaaV2
set_option linter.unusedVariables false
set_option maxRecDepth 100000
namespace Go.Proofs.Ytcampkaenlohbaa
open Go

theorem berthref05_Put_nf (t_1 : Int) (t_2 : Option Addr) (t_2l : Nat) (t_2c : Nat) (name_3 : ByteArray) (v_4 : Int) (w : World) (R : Ending → World → Prop) (h :
  ∀ w5, w5 = (World.alloc w (.cells #[(Value.int .i64 t_1), (Value.slice t_2 t_2l t_2c)] 54)) →
  ∀ w6, w6 = (World.alloc w5 (.cells #[(Value.int .i64 0), (Value.slice none 0 0)] 54)) →
  Calls Try.prog 58 #[(Value.string name_3)] w6 fun e8 w9 =>
  ∃ b7, e8 = Ending.returned (Value.bool b7) ∧
  V.sel b7
  (∃ n10, ∃ A11, ∃ A11l, ∃ A11c, V.cellsC (fun a_ x_ => World.cell? w9 a_ = some x_) ⟨Array.size (World.heap w), 0, none⟩ [(Value.int .i64 n10), (Value.slice A11 A11l A11c)] ∧
  ∃ w12, Sem.run Try.prog (Instr.storeAt 54 (Value.pointer (some ⟨Array.size (World.heap w5), 0, none⟩)) (Value.agg #[(Value.int .i64 n10), (Value.slice A11 A11l A11c)])) w9 = .ok () w12 ∧
  ∃ n13, ∃ A14, ∃ A14l, ∃ A14c, V.cellsC (fun a_ x_ => World.cell? w12 a_ = some x_) ⟨Array.size (World.heap w5), 0, none⟩ [(Value.int .i64 n13), (Value.slice A14 A14l A14c)] ∧
  R (Ending.returned (Value.tuple #[(Value.agg #[(Value.int .i64 n13), (Value.slice A14 A14l A14c)]), (Value.int .i64 0), (Value.int .i64 51)])) w12)
  (∃ n15, ∃ A16, ∃ A16l, ∃ A16c, V.cellsC (fun a_ x_ => World.cell? w9 a_ = some x_) ⟨Array.size (World.heap w), 0, none⟩ [(Value.int .i64 n15), (Value.slice A16 A16l A16c)] ∧
  Calls Try.prog 34 #[(Value.agg #[(Value.int .i64 n15), (Value.slice A16 A16l A16c)]), (Value.string name_3)] w9 fun e18 w19 =>
  ∃ n17, e18 = Ending.returned (Value.int .i64 n17) ∧
  V.sel (decide (n17 ≥ 0))
  (∃ n20, ∃ A21, ∃ A21l, ∃ A21c, V.cellsC (fun a_ x_ => World.cell? w19 a_ = some x_) ⟨Array.size (World.heap w), 0, none⟩ [(Value.int .i64 n20), (Value.slice A21 A21l A21c)] ∧
  ∃ w22, Sem.run Try.prog (Instr.storeAt 54 (Value.pointer (some ⟨Array.size (World.heap w5), 0, none⟩)) (Value.agg #[(Value.int .i64 n20), (Value.slice A21 A21l A21c)])) w19 = .ok () w22 ∧
  ∃ n23, ∃ A24, ∃ A24l, ∃ A24c, V.cellsC (fun a_ x_ => World.cell? w22 a_ = some x_) ⟨Array.size (World.heap w5), 0, none⟩ [(Value.int .i64 n23), (Value.slice A24 A24l A24c)] ∧
  R (Ending.returned (Value.tuple #[(Value.agg #[(Value.int .i64 n23), (Value.slice A24 A24l A24c)]), (Value.int .i64 0), (Value.int .i64 52)])) w22)
  (∃ A25, ∃ A25l, ∃ A25c, World.cell? w19 (Addr.add ⟨Array.size (World.heap w), 0, none⟩ 1) = some (Value.slice A25 A25l A25c) ∧
  ∃ n26, World.cell? w19 (Addr.add ⟨Array.size (World.heap w), 0, none⟩ 0) = some (Value.int .i64 n26) ∧
  V.sel (decide (((A25l : Nat) : Int) ≥ n26))
  (∃ n27, ∃ A28, ∃ A28l, ∃ A28c, V.cellsC (fun a_ x_ => World.cell? w19 a_ = some x_) ⟨Array.size (World.heap w), 0, none⟩ [(Value.int .i64 n27), (Value.slice A28 A28l A28c)] ∧
  ∃ w29, Sem.run Try.prog (Instr.storeAt 54 (Value.pointer (some ⟨Array.size (World.heap w5), 0, none⟩)) (Value.agg #[(Value.int .i64 n27), (Value.slice A28 A28l A28c)])) w19 = .ok () w29 ∧
  ∃ n30, ∃ A31, ∃ A31l, ∃ A31c, V.cellsC (fun a_ x_ => World.cell? w29 a_ = some x_) ⟨Array.size (World.heap w5), 0, none⟩ [(Value.int .i64 n30), (Value.slice A31 A31l A31c)] ∧
  R (Ending.returned (Value.tuple #[(Value.agg #[(Value.int .i64 n30), (Value.slice A31 A31l A31c)]), (Value.int .i64 0), (Value.int .i64 53)])) w29)
  (∃ I32 : Int → World → Prop, ∃ μ33 : Int → World → Nat, I32 0 w19 ∧
  ∀ slot_34 (j35 : Nat → Value) (w36 : World), I32 slot_34 w36 →
  (∃ n37, ∃ A38, ∃ A38l, ∃ A38c, V.cellsC (fun a_ x_ => World.cell? w36 a_ = some x_) ⟨Array.size (World.heap w), 0, none⟩ [(Value.int .i64 n37), (Value.slice A38 A38l A38c)] ∧
  Calls Try.prog 35 #[(Value.agg #[(Value.int .i64 n37), (Value.slice A38 A38l A38c)]), (Value.int .i64 slot_34)] w36 fun e40 w41 =>
  ∃ n39, e40 = Ending.returned (Value.int .i64 n39) ∧
  V.sel (decide (n39 ≥ 0))
  (I32 (IntKind.wrap .i64 (slot_34 + 1)) w41 ∧ μ33 (IntKind.wrap .i64 (slot_34 + 1)) w41 < μ33 slot_34 w36)
  (∀ w42, w42 = (World.alloc w41 (.cells #[] 66)) →
  ∃ A43, ∃ A43l, ∃ A43c, World.cell? w42 (Addr.add ⟨Array.size (World.heap w), 0, none⟩ 1) = some (Value.slice A43 A43l A43c) ∧
  ∃ A44, ∃ A44l, ∃ A44c, ∃ w45, Sem.run Try.prog (Builtin.append_ #[52, 52] 52 #[(Value.slice (some ⟨Array.size (World.heap w41), 0, none⟩) 0 0), (Value.slice A43 A43l A43c)]) w42 = .ok (Value.slice A44 A44l A44c) w45 ∧
  ∀ w46, w46 = (World.alloc w45 (.cells #[(Value.int .i64 slot_34), (Value.string name_3), (Value.int .i64 v_4)] 66)) →
  ∃ A47, ∃ A47l, ∃ A47c, ∃ w48, Sem.run Try.prog (Builtin.append_ #[52, 52] 52 #[(Value.slice A44 A44l A44c), (Value.slice (some ⟨Array.size (World.heap w45), 0, none⟩) 1 1)]) w46 = .ok (Value.slice A47 A47l A47c) w48 ∧
  ∃ n49, World.cell? w48 (Addr.add ⟨Array.size (World.heap w), 0, none⟩ 0) = some (Value.int .i64 n49) ∧
  ∃ w50, Sem.run Try.prog (Instr.storeAt 54 (Value.pointer (some ⟨Array.size (World.heap w5), 0, none⟩)) (Value.agg #[(Value.int .i64 n49), (Value.slice A47 A47l A47c)])) w48 = .ok () w50 ∧
  ∃ n51, ∃ A52, ∃ A52l, ∃ A52c, V.cellsC (fun a_ x_ => World.cell? w50 a_ = some x_) ⟨Array.size (World.heap w5), 0, none⟩ [(Value.int .i64 n51), (Value.slice A52 A52l A52c)] ∧
  R (Ending.returned (Value.tuple #[(Value.agg #[(Value.int .i64 n51), (Value.slice A52 A52l A52c)]), (Value.int .i64 slot_34), (Value.int .i64 0)])) w50)))))) :
  Calls Try.prog 44 #[(Value.agg #[(Value.int .i64 t_1), (Value.slice t_2 t_2l t_2c)]), (Value.string name_3), (Value.int .i64 v_4)] w R :=
  V.calls_of_R ⟨V.assoc [(0, [9])], V.assocP [], V.assocC [], V.assocS [], ⟨[], true⟩⟩ Try.func44 rfl (Eq.mp (by kernel_rfl) h)

theorem berthref05_Set_nf (t_1 : Int) (t_2 : Option Addr) (t_2l : Nat) (t_2c : Nat) (name_3 : ByteArray) (v_4 : Int) (w : World) (R : Ending → World → Prop) (h :
  ∀ w5, w5 = (World.alloc w (.cells #[(Value.int .i64 t_1), (Value.slice t_2 t_2l t_2c)] 54)) →
  ∀ w6, w6 = (World.alloc w5 (.cells #[(Value.int .i64 0), (Value.slice none 0 0)] 54)) →
  Calls Try.prog 58 #[(Value.string name_3)] w6 fun e8 w9 =>
  ∃ b7, e8 = Ending.returned (Value.bool b7) ∧
  V.sel b7
  (∃ n10, ∃ A11, ∃ A11l, ∃ A11c, V.cellsC (fun a_ x_ => World.cell? w9 a_ = some x_) ⟨Array.size (World.heap w), 0, none⟩ [(Value.int .i64 n10), (Value.slice A11 A11l A11c)] ∧
  ∃ w12, Sem.run Try.prog (Instr.storeAt 54 (Value.pointer (some ⟨Array.size (World.heap w5), 0, none⟩)) (Value.agg #[(Value.int .i64 n10), (Value.slice A11 A11l A11c)])) w9 = .ok () w12 ∧
  ∃ n13, ∃ A14, ∃ A14l, ∃ A14c, V.cellsC (fun a_ x_ => World.cell? w12 a_ = some x_) ⟨Array.size (World.heap w5), 0, none⟩ [(Value.int .i64 n13), (Value.slice A14 A14l A14c)] ∧
  R (Ending.returned (Value.tuple #[(Value.agg #[(Value.int .i64 n13), (Value.slice A14 A14l A14c)]), (Value.int .i64 51)])) w12)
  (∃ n15, ∃ A16, ∃ A16l, ∃ A16c, V.cellsC (fun a_ x_ => World.cell? w9 a_ = some x_) ⟨Array.size (World.heap w), 0, none⟩ [(Value.int .i64 n15), (Value.slice A16 A16l A16c)] ∧
  Calls Try.prog 34 #[(Value.agg #[(Value.int .i64 n15), (Value.slice A16 A16l A16c)]), (Value.string name_3)] w9 fun e18 w19 =>
  ∃ n17, e18 = Ending.returned (Value.int .i64 n17) ∧
  V.sel (decide (n17 < 0))
  (∃ n20, ∃ A21, ∃ A21l, ∃ A21c, V.cellsC (fun a_ x_ => World.cell? w19 a_ = some x_) ⟨Array.size (World.heap w), 0, none⟩ [(Value.int .i64 n20), (Value.slice A21 A21l A21c)] ∧
  ∃ w22, Sem.run Try.prog (Instr.storeAt 54 (Value.pointer (some ⟨Array.size (World.heap w5), 0, none⟩)) (Value.agg #[(Value.int .i64 n20), (Value.slice A21 A21l A21c)])) w19 = .ok () w22 ∧
  ∃ n23, ∃ A24, ∃ A24l, ∃ A24c, V.cellsC (fun a_ x_ => World.cell? w22 a_ = some x_) ⟨Array.size (World.heap w5), 0, none⟩ [(Value.int .i64 n23), (Value.slice A24 A24l A24c)] ∧
  R (Ending.returned (Value.tuple #[(Value.agg #[(Value.int .i64 n23), (Value.slice A24 A24l A24c)]), (Value.int .i64 54)])) w22)
  (∀ w25, w25 = (World.alloc w19 (.cells #[] 66)) →
  ∃ A26, ∃ A26l, ∃ A26c, World.cell? w25 (Addr.add ⟨Array.size (World.heap w), 0, none⟩ 1) = some (Value.slice A26 A26l A26c) ∧
  ∃ A27, ∃ A27l, ∃ A27c, ∃ w28, Sem.run Try.prog (Builtin.append_ #[52, 52] 52 #[(Value.slice (some ⟨Array.size (World.heap w19), 0, none⟩) 0 0), (Value.slice A26 A26l A26c)]) w25 = .ok (Value.slice A27 A27l A27c) w28 ∧
  V.when (decide ((0 : Int) ≤ n17 ∧ (n17 : Int) < ((A27l : Nat) : Int))) (V.ptr A27 fun a29 =>
  ∃ w30, Sem.run Try.prog (Instr.storeAt 3 (Value.pointer (some (Addr.add (Addr.add a29 ((Int.toNat n17) * 3)) 2))) (Value.int .i64 v_4)) w28 = .ok () w30 ∧
  ∃ n31, World.cell? w30 (Addr.add ⟨Array.size (World.heap w), 0, none⟩ 0) = some (Value.int .i64 n31) ∧
  ∃ w32, Sem.run Try.prog (Instr.storeAt 54 (Value.pointer (some ⟨Array.size (World.heap w5), 0, none⟩)) (Value.agg #[(Value.int .i64 n31), (Value.slice A27 A27l A27c)])) w30 = .ok () w32 ∧
  ∃ n33, ∃ A34, ∃ A34l, ∃ A34c, V.cellsC (fun a_ x_ => World.cell? w32 a_ = some x_) ⟨Array.size (World.heap w5), 0, none⟩ [(Value.int .i64 n33), (Value.slice A34 A34l A34c)] ∧
  R (Ending.returned (Value.tuple #[(Value.agg #[(Value.int .i64 n33), (Value.slice A34 A34l A34c)]), (Value.int .i64 0)])) w32)))) :
  Calls Try.prog 45 #[(Value.agg #[(Value.int .i64 t_1), (Value.slice t_2 t_2l t_2c)]), (Value.string name_3), (Value.int .i64 v_4)] w R :=
  V.calls_of_R ⟨V.assoc [], V.assocP [], V.assocC [], V.assocS [], ⟨[], true⟩⟩ Try.func45 rfl (Eq.mp (by kernel_rfl) h)

theorem berthref05_Drop_nf (t_1 : Int) (t_2 : Option Addr) (t_2l : Nat) (t_2c : Nat) (name_3 : ByteArray) (w : World) (R : Ending → World → Prop) (h :
  ∀ w4, w4 = (World.alloc w (.cells #[(Value.int .i64 t_1), (Value.slice t_2 t_2l t_2c)] 54)) →
  ∀ w5, w5 = (World.alloc w4 (.cells #[(Value.int .i64 0), (Value.slice none 0 0)] 54)) →
  Calls Try.prog 58 #[(Value.string name_3)] w5 fun e7 w8 =>
  ∃ b6, e7 = Ending.returned (Value.bool b6) ∧
  V.sel b6
  (∃ n9, ∃ A10, ∃ A10l, ∃ A10c, V.cellsC (fun a_ x_ => World.cell? w8 a_ = some x_) ⟨Array.size (World.heap w), 0, none⟩ [(Value.int .i64 n9), (Value.slice A10 A10l A10c)] ∧
  ∃ w11, Sem.run Try.prog (Instr.storeAt 54 (Value.pointer (some ⟨Array.size (World.heap w4), 0, none⟩)) (Value.agg #[(Value.int .i64 n9), (Value.slice A10 A10l A10c)])) w8 = .ok () w11 ∧
  ∃ n12, ∃ A13, ∃ A13l, ∃ A13c, V.cellsC (fun a_ x_ => World.cell? w11 a_ = some x_) ⟨Array.size (World.heap w4), 0, none⟩ [(Value.int .i64 n12), (Value.slice A13 A13l A13c)] ∧
  R (Ending.returned (Value.tuple #[(Value.agg #[(Value.int .i64 n12), (Value.slice A13 A13l A13c)]), (Value.int .i64 0), (Value.int .i64 51)])) w11)
  (∃ n14, ∃ A15, ∃ A15l, ∃ A15c, V.cellsC (fun a_ x_ => World.cell? w8 a_ = some x_) ⟨Array.size (World.heap w), 0, none⟩ [(Value.int .i64 n14), (Value.slice A15 A15l A15c)] ∧
  Calls Try.prog 34 #[(Value.agg #[(Value.int .i64 n14), (Value.slice A15 A15l A15c)]), (Value.string name_3)] w8 fun e17 w18 =>
  ∃ n16, e17 = Ending.returned (Value.int .i64 n16) ∧
  V.sel (decide (n16 < 0))
  (∃ n19, ∃ A20, ∃ A20l, ∃ A20c, V.cellsC (fun a_ x_ => World.cell? w18 a_ = some x_) ⟨Array.size (World.heap w), 0, none⟩ [(Value.int .i64 n19), (Value.slice A20 A20l A20c)] ∧
  ∃ w21, Sem.run Try.prog (Instr.storeAt 54 (Value.pointer (some ⟨Array.size (World.heap w4), 0, none⟩)) (Value.agg #[(Value.int .i64 n19), (Value.slice A20 A20l A20c)])) w18 = .ok () w21 ∧
  ∃ n22, ∃ A23, ∃ A23l, ∃ A23c, V.cellsC (fun a_ x_ => World.cell? w21 a_ = some x_) ⟨Array.size (World.heap w4), 0, none⟩ [(Value.int .i64 n22), (Value.slice A23 A23l A23c)] ∧
  R (Ending.returned (Value.tuple #[(Value.agg #[(Value.int .i64 n22), (Value.slice A23 A23l A23c)]), (Value.int .i64 0), (Value.int .i64 54)])) w21)
  (∀ w24, w24 = (World.alloc w18 (.cells #[] 66)) →
  ∃ I25 : Option Addr → Nat → Nat → Int → World → Prop, ∃ μ26 : Option Addr → Nat → Nat → Int → World → Nat, I25 (some ⟨Array.size (World.heap w18), 0, none⟩) 0 0 0 w24 ∧
  ∀ rows_27 rows_27l rows_27c i_28 (j29 : Nat → Value) (w30 : World), I25 rows_27 rows_27l rows_27c i_28 w30 →
  (∃ A31, ∃ A31l, ∃ A31c, World.cell? w30 (Addr.add ⟨Array.size (World.heap w), 0, none⟩ 1) = some (Value.slice A31 A31l A31c) ∧
  V.sel (decide (i_28 < ((A31l : Nat) : Int)))
  (V.sel (i_28 != n16)
  (∃ A32, ∃ A32l, ∃ A32c, World.cell? w30 (Addr.add ⟨Array.size (World.heap w), 0, none⟩ 1) = some (Value.slice A32 A32l A32c) ∧
  V.when (decide ((0 : Int) ≤ i_28 ∧ (i_28 : Int) < ((A32l : Nat) : Int))) (V.ptr A32 fun a33 =>
  ∃ n34, ∃ s35, ∃ n36, V.cellsC (fun a_ x_ => World.cell? w30 a_ = some x_) (Addr.add a33 ((Int.toNat i_28) * 3)) [(Value.int .i64 n34), (Value.string s35), (Value.int .i64 n36)] ∧
  ∀ w37, w37 = (World.alloc w30 (.cells #[(Value.int .i64 n34), (Value.string s35), (Value.int .i64 n36)] 66)) →
  ∃ A38, ∃ A38l, ∃ A38c, ∃ w39, Sem.run Try.prog (Builtin.append_ #[52, 52] 52 #[(Value.slice rows_27 rows_27l rows_27c), (Value.slice (some ⟨Array.size (World.heap w30), 0, none⟩) 1 1)]) w37 = .ok (Value.slice A38 A38l A38c) w39 ∧
  I25 A38 A38l A38c (IntKind.wrap .i64 (i_28 + 1)) w39 ∧ μ26 A38 A38l A38c (IntKind.wrap .i64 (i_28 + 1)) w39 < μ26 rows_27 rows_27l rows_27c i_28 w30))
  (I25 rows_27 rows_27l rows_27c (IntKind.wrap .i64 (i_28 + 1)) w30 ∧ μ26 rows_27 rows_27l rows_27c (IntKind.wrap .i64 (i_28 + 1)) w30 < μ26 rows_27 rows_27l rows_27c i_28 w30))
  (∃ S40 : World → Prop, S40 (World.drew w30) ∧
  ∃ n42, (∀ w41, S40 w41 → World.cell? w41 (Addr.add ⟨Array.size (World.heap w), 0, none⟩ 0) = some (Value.int .i64 n42)) ∧
  ∃ A43, ∃ A43l, ∃ A43c, (∀ w41, S40 w41 → World.cell? w41 (Addr.add ⟨Array.size (World.heap w), 0, none⟩ 1) = some (Value.slice A43 A43l A43c)) ∧
  V.when (decide ((0 : Int) ≤ n16 ∧ (n16 : Int) < ((A43l : Nat) : Int))) (V.ptr A43 fun a44 =>
  ∃ n45, (∀ w41, S40 w41 → World.cell? w41 (Addr.add (Addr.add a44 ((Int.toNat n16) * 3)) 0) = some (Value.int .i64 n45)) ∧
  ∃ w46, Sem.run Try.prog (Instr.storeAt 54 (Value.pointer (some ⟨Array.size (World.heap w4), 0, none⟩)) (Value.agg #[(Value.int .i64 n42), (Value.slice rows_27 rows_27l rows_27c)])) (World.drew w30) = .ok () w46 ∧
  S40 w46 ∧
  ∃ n47, ∃ A48, ∃ A48l, ∃ A48c, V.cellsC (fun a_ x_ => World.cell? w46 a_ = some x_) ⟨Array.size (World.heap w4), 0, none⟩ [(Value.int .i64 n47), (Value.slice A48 A48l A48c)] ∧
  R (Ending.returned (Value.tuple #[(Value.agg #[(Value.int .i64 n47), (Value.slice A48 A48l A48c)]), (Value.int .i64 n45), (Value.int .i64 0)])) w46)))))) :
  Calls Try.prog 46 #[(Value.agg #[(Value.int .i64 t_1), (Value.slice t_2 t_2l t_2c)]), (Value.string name_3)] w R :=
  V.calls_of_R ⟨V.assoc [(0, [8, 9])], V.assocP [(12, V.line [0, 1, 2, 3, 4, 5, 6, 7, 8, 9, 10, 11, 12])], V.assocC [], V.assocS [], ⟨[], true⟩⟩ Try.func46 rfl (Eq.mp (by kernel_rfl) h)

theorem slices_insertionSortOrdered_string__nf (data_1 : Option Addr) (data_1l : Nat) (data_1c : Nat) (a_2 : Int) (b_3 : Int) (w : World) (R : Ending → World → Prop) (h :
  ∃ I4 : Int → World → Prop, ∃ μ5 : Int → World → Nat, I4 (IntKind.wrap .i64 (a_2 + 1)) w ∧
  ∀ i_6 (j7 : Nat → Value) (w8 : World), I4 i_6 w8 →
  (V.sel (decide (i_6 < b_3))
  (∃ I9 : Int → World → Prop, ∃ μ10 : Int → World → Nat, I9 i_6 w8 ∧
  ∀ j_11 (j12 : Nat → Value) (w13 : World), I9 j_11 w13 →
  (∃ S14 : World → Prop, S14 (World.drew w13) ∧
  V.sel (decide (j_11 > a_2))
  (V.when (decide ((0 : Int) ≤ j_11 ∧ (j_11 : Int) < ((data_1l : Nat) : Int))) (V.ptr data_1 fun a16 =>
  ∃ s17, (∀ w15, S14 w15 → World.cell? w15 (Addr.add a16 ((Int.toNat j_11) * 1)) = some (Value.string s17)) ∧
  V.when (decide ((0 : Int) ≤ (IntKind.wrap .i64 (j_11 - 1)) ∧ ((IntKind.wrap .i64 (j_11 - 1)) : Int) < ((data_1l : Nat) : Int))) (V.ptr data_1 fun a18 =>
  ∃ s19, (∀ w15, S14 w15 → World.cell? w15 (Addr.add a18 ((Int.toNat (IntKind.wrap .i64 (j_11 - 1))) * 1)) = some (Value.string s19)) ∧
  Calls Try.prog 53 #[(Value.string s17), (Value.string s19)] (World.drew w13) fun e21 w22 =>
  ∃ b20, e21 = Ending.returned (Value.bool b20) ∧
  S14 w22 ∧
  V.sel b20
  (∃ S23 : World → Prop, S23 (World.drew w22) ∧
  V.when (decide ((0 : Int) ≤ (IntKind.wrap .i64 (j_11 - 1)) ∧ ((IntKind.wrap .i64 (j_11 - 1)) : Int) < ((data_1l : Nat) : Int))) (V.ptr data_1 fun a25 =>
  ∃ s26, (∀ w24, S23 w24 → World.cell? w24 (Addr.add a25 ((Int.toNat (IntKind.wrap .i64 (j_11 - 1))) * 1)) = some (Value.string s26)) ∧
  V.when (decide ((0 : Int) ≤ j_11 ∧ (j_11 : Int) < ((data_1l : Nat) : Int))) (V.ptr data_1 fun a27 =>
  ∃ s28, (∀ w24, S23 w24 → World.cell? w24 (Addr.add a27 ((Int.toNat j_11) * 1)) = some (Value.string s28)) ∧
  V.when (decide ((0 : Int) ≤ j_11 ∧ (j_11 : Int) < ((data_1l : Nat) : Int))) (V.ptr data_1 fun a29 =>
  ∃ w30, Sem.run Try.prog (Instr.storeAt 9 (Value.pointer (some (Addr.add a29 ((Int.toNat j_11) * 1)))) (Value.string s26)) (World.drew w22) = .ok () w30 ∧
  S23 w30 ∧
  V.when (decide ((0 : Int) ≤ (IntKind.wrap .i64 (j_11 - 1)) ∧ ((IntKind.wrap .i64 (j_11 - 1)) : Int) < ((data_1l : Nat) : Int))) (V.ptr data_1 fun a31 =>
  ∃ w32, Sem.run Try.prog (Instr.storeAt 9 (Value.pointer (some (Addr.add a31 ((Int.toNat (IntKind.wrap .i64 (j_11 - 1))) * 1)))) (Value.string s28)) w30 = .ok () w32 ∧
  I9 (IntKind.wrap .i64 (j_11 - 1)) w32 ∧ μ10 (IntKind.wrap .i64 (j_11 - 1)) w32 < μ10 j_11 w13)))))
  (I4 (IntKind.wrap .i64 (i_6 + 1)) w22 ∧ μ5 (IntKind.wrap .i64 (i_6 + 1)) w22 < μ5 i_6 w8))))
  (I4 (IntKind.wrap .i64 (i_6 + 1)) (World.drew w13) ∧ μ5 (IntKind.wrap .i64 (i_6 + 1)) (World.drew w13) < μ5 i_6 w8)))
  (R (Ending.returned undef) w8))) :
  Calls Try.prog 47 #[(Value.slice data_1 data_1l data_1c), (Value.int .i64 a_2), (Value.int .i64 b_3)] w R :=
  V.calls_of_R ⟨V.assoc [(0, [6]), (1, [7])], V.assocP [(4, V.line [0, 1, 2, 3, 4, 5, 6, 7, 8, 9, 10, 11, 12, 13, 14]), (6, V.line [0, 1, 2, 3, 4, 5, 6, 7, 8, 9, 10, 11, 12, 13, 14, 15, 16, 17])], V.assocC [], V.assocS [], ⟨[], true⟩⟩ Try.func47 rfl (Eq.mp (by kernel_rfl) h)

theorem slices_heapSortOrdered_string__nf (data_1 : Option Addr) (data_1l : Nat) (data_1c : Nat) (a_2 : Int) (b_3 : Int) (w : World) (R : Ending → World → Prop) (h :
  V.lt (IntKind.wrap .i64 (Int.tdiv (IntKind.wrap .i64 ((IntKind.wrap .i64 (b_3 - a_2)) - 1)) 2)) fun x4 =>
  ∃ I5 : Int → World → Prop, ∃ μ6 : Int → World → Nat, I5 x4 w ∧
  ∀ i_7 (j8 : Nat → Value) (w9 : World), I5 i_7 w9 →
  (V.sel (decide (i_7 ≥ 0))
  (Calls Try.prog 59 #[(Value.slice data_1 data_1l data_1c), (Value.int .i64 i_7), (Value.int .i64 (IntKind.wrap .i64 (b_3 - a_2))), (Value.int .i64 a_2)] w9 fun e10 w11 =>
  e10 = Ending.returned undef ∧
  I5 (IntKind.wrap .i64 (i_7 - 1)) w11 ∧ μ6 (IntKind.wrap .i64 (i_7 - 1)) w11 < μ6 i_7 w9)
  (V.lt (IntKind.wrap .i64 ((IntKind.wrap .i64 (b_3 - a_2)) - 1)) fun x12 =>
  ∃ I13 : Int → World → Prop, ∃ μ14 : Int → World → Nat, I13 x12 w9 ∧
  ∀ i_15 (j16 : Nat → Value) (w17 : World), I13 i_15 w17 →
  (V.sel (decide (i_15 ≥ 0))
  (∃ S18 : World → Prop, S18 (World.drew w17) ∧
  V.when (decide ((0 : Int) ≤ (IntKind.wrap .i64 (a_2 + i_15)) ∧ ((IntKind.wrap .i64 (a_2 + i_15)) : Int) < ((data_1l : Nat) : Int))) (V.ptr data_1 fun a20 =>
  ∃ s21, (∀ w19, S18 w19 → World.cell? w19 (Addr.add a20 ((Int.toNat (IntKind.wrap .i64 (a_2 + i_15))) * 1)) = some (Value.string s21)) ∧
  V.when (decide ((0 : Int) ≤ a_2 ∧ (a_2 : Int) < ((data_1l : Nat) : Int))) (V.ptr data_1 fun a22 =>
  ∃ s23, (∀ w19, S18 w19 → World.cell? w19 (Addr.add a22 ((Int.toNat a_2) * 1)) = some (Value.string s23)) ∧
  V.when (decide ((0 : Int) ≤ a_2 ∧ (a_2 : Int) < ((data_1l : Nat) : Int))) (V.ptr data_1 fun a24 =>
  ∃ w25, Sem.run Try.prog (Instr.storeAt 9 (Value.pointer (some (Addr.add a24 ((Int.toNat a_2) * 1)))) (Value.string s21)) (World.drew w17) = .ok () w25 ∧
  S18 w25 ∧
  V.when (decide ((0 : Int) ≤ (IntKind.wrap .i64 (a_2 + i_15)) ∧ ((IntKind.wrap .i64 (a_2 + i_15)) : Int) < ((data_1l : Nat) : Int))) (V.ptr data_1 fun a26 =>
  ∃ w27, Sem.run Try.prog (Instr.storeAt 9 (Value.pointer (some (Addr.add a26 ((Int.toNat (IntKind.wrap .i64 (a_2 + i_15))) * 1)))) (Value.string s23)) w25 = .ok () w27 ∧
  Calls Try.prog 59 #[(Value.slice data_1 data_1l data_1c), (Value.int .i64 0), (Value.int .i64 i_15), (Value.int .i64 a_2)] w27 fun e28 w29 =>
  e28 = Ending.returned undef ∧
  I13 (IntKind.wrap .i64 (i_15 - 1)) w29 ∧ μ14 (IntKind.wrap .i64 (i_15 - 1)) w29 < μ14 i_15 w17)))))
  (R (Ending.returned undef) w17))))) :
  Calls Try.prog 48 #[(Value.slice data_1 data_1l data_1c), (Value.int .i64 a_2), (Value.int .i64 b_3)] w R :=
  V.calls_of_R ⟨V.assoc [(0, [9]), (1, [10])], V.assocP [(10, V.line [0, 1, 2, 3, 4, 5, 6, 7, 8, 9, 10, 11, 12, 13, 14, 15, 16, 17, 18, 19])], V.assocC [], V.assocS [], ⟨[], true⟩⟩ Try.func48 rfl (Eq.mp (by kernel_rfl) h)

theorem slices_breakPatternsOrdered_string__nf (data_1 : Option Addr) (data_1l : Nat) (data_1c : Nat) (a_2 : Int) (b_3 : Int) (w : World) (R : Ending → World → Prop) (h :
  V.sel (decide ((IntKind.wrap .i64 (b_3 - a_2)) ≥ 8))
  (∀ w4, w4 = (World.alloc w (.cells #[(Value.int .u64 0)] 109)) →
  ∃ w5, Sem.run Try.prog (Instr.storeAt 109 (Value.pointer (some ⟨Array.size (World.heap w), 0, none⟩)) (Value.int .u64 (IntKind.wrap .u64 ((IntKind.wrap .i64 (b_3 - a_2)))))) w4 = .ok () w5 ∧
  Calls Try.prog 60 #[(Value.int .i64 (IntKind.wrap .i64 (b_3 - a_2)))] w5 fun e7 w8 =>
  ∃ n6, e7 = Ending.returned (Value.int .u64 n6) ∧
  V.lt (IntKind.wrap .i64 ((IntKind.wrap .i64 (a_2 + (IntKind.wrap .i64 ((IntKind.wrap .i64 (Int.tdiv (IntKind.wrap .i64 (b_3 - a_2)) 4)) * 2)))) - 1)) fun x9 =>
  ∃ I10 : Int → World → Prop, ∃ μ11 : Int → World → Nat, I10 x9 w8 ∧
  ∀ idx_12 (j13 : Nat → Value) (w14 : World), I10 idx_12 w14 →
  (V.sel (decide (idx_12 ≤ (IntKind.wrap .i64 ((IntKind.wrap .i64 (a_2 + (IntKind.wrap .i64 ((IntKind.wrap .i64 (Int.tdiv (IntKind.wrap .i64 (b_3 - a_2)) 4)) * 2)))) + 1))))
  (Calls Try.prog 61 #[(Value.pointer (some ⟨Array.size (World.heap w), 0, none⟩))] w14 fun e16 w17 =>
  ∃ n15, e16 = Ending.returned (Value.int .u64 n15) ∧
  V.lt (IntKind.wrap .i64 ((IntKind.wrap .u64 ((BitVec.toNat (BitVec.ofInt 64 n15 &&& BitVec.ofInt 64 (IntKind.wrap .u64 (n6 - 1))) : Nat) : Int)))) fun x18 =>
  V.sel (decide (x18 ≥ (IntKind.wrap .i64 (b_3 - a_2))))
  (V.lt (IntKind.wrap .i64 (x18 - (IntKind.wrap .i64 (b_3 - a_2)))) fun x19 =>
  ∃ S20 : World → Prop, S20 (World.drew w17) ∧
  V.when (decide ((0 : Int) ≤ (IntKind.wrap .i64 (a_2 + x19)) ∧ ((IntKind.wrap .i64 (a_2 + x19)) : Int) < ((data_1l : Nat) : Int))) (V.ptr data_1 fun a22 =>
  ∃ s23, (∀ w21, S20 w21 → World.cell? w21 (Addr.add a22 ((Int.toNat (IntKind.wrap .i64 (a_2 + x19))) * 1)) = some (Value.string s23)) ∧
  V.when (decide ((0 : Int) ≤ idx_12 ∧ (idx_12 : Int) < ((data_1l : Nat) : Int))) (V.ptr data_1 fun a24 =>
  ∃ s25, (∀ w21, S20 w21 → World.cell? w21 (Addr.add a24 ((Int.toNat idx_12) * 1)) = some (Value.string s25)) ∧
  V.when (decide ((0 : Int) ≤ idx_12 ∧ (idx_12 : Int) < ((data_1l : Nat) : Int))) (V.ptr data_1 fun a26 =>
  ∃ w27, Sem.run Try.prog (Instr.storeAt 9 (Value.pointer (some (Addr.add a26 ((Int.toNat idx_12) * 1)))) (Value.string s23)) (World.drew w17) = .ok () w27 ∧
  S20 w27 ∧
  V.when (decide ((0 : Int) ≤ (IntKind.wrap .i64 (a_2 + x19)) ∧ ((IntKind.wrap .i64 (a_2 + x19)) : Int) < ((data_1l : Nat) : Int))) (V.ptr data_1 fun a28 =>
  ∃ w29, Sem.run Try.prog (Instr.storeAt 9 (Value.pointer (some (Addr.add a28 ((Int.toNat (IntKind.wrap .i64 (a_2 + x19))) * 1)))) (Value.string s25)) w27 = .ok () w29 ∧
  I10 (IntKind.wrap .i64 (idx_12 + 1)) w29 ∧ μ11 (IntKind.wrap .i64 (idx_12 + 1)) w29 < μ11 idx_12 w14)))))
  (∃ S30 : World → Prop, S30 (World.drew w17) ∧
  V.when (decide ((0 : Int) ≤ (IntKind.wrap .i64 (a_2 + x18)) ∧ ((IntKind.wrap .i64 (a_2 + x18)) : Int) < ((data_1l : Nat) : Int))) (V.ptr data_1 fun a32 =>
  ∃ s33, (∀ w31, S30 w31 → World.cell? w31 (Addr.add a32 ((Int.toNat (IntKind.wrap .i64 (a_2 + x18))) * 1)) = some (Value.string s33)) ∧
  V.when (decide ((0 : Int) ≤ idx_12 ∧ (idx_12 : Int) < ((data_1l : Nat) : Int))) (V.ptr data_1 fun a34 =>
  ∃ s35, (∀ w31, S30 w31 → World.cell? w31 (Addr.add a34 ((Int.toNat idx_12) * 1)) = some (Value.string s35)) ∧
  V.when (decide ((0 : Int) ≤ idx_12 ∧ (idx_12 : Int) < ((data_1l : Nat) : Int))) (V.ptr data_1 fun a36 =>
  ∃ w37, Sem.run Try.prog (Instr.storeAt 9 (Value.pointer (some (Addr.add a36 ((Int.toNat idx_12) * 1)))) (Value.string s33)) (World.drew w17) = .ok () w37 ∧
  S30 w37 ∧
  V.when (decide ((0 : Int) ≤ (IntKind.wrap .i64 (a_2 + x18)) ∧ ((IntKind.wrap .i64 (a_2 + x18)) : Int) < ((data_1l : Nat) : Int))) (V.ptr data_1 fun a38 =>
  ∃ w39, Sem.run Try.prog (Instr.storeAt 9 (Value.pointer (some (Addr.add a38 ((Int.toNat (IntKind.wrap .i64 (a_2 + x18))) * 1)))) (Value.string s35)) w37 = .ok () w39 ∧
  I10 (IntKind.wrap .i64 (idx_12 + 1)) w39 ∧ μ11 (IntKind.wrap .i64 (idx_12 + 1)) w39 < μ11 idx_12 w14))))))
  (R (Ending.returned undef) w14)))
  (R (Ending.returned undef) w)) :
  Calls Try.prog 49 #[(Value.slice data_1 data_1l data_1c), (Value.int .i64 a_2), (Value.int .i64 b_3)] w R :=
  V.calls_of_R ⟨V.assoc [(0, [9])], V.assocP [(10, V.line [0, 1, 2, 3, 4, 5, 6, 7, 8, 9, 10, 11, 12, 13, 14, 15, 16, 17, 18, 19])], V.assocC [], V.assocS [], ⟨[], true⟩⟩ Try.func49 rfl (Eq.mp (by kernel_rfl) h)

theorem slices_choosePivotOrdered_string__nf (data_1 : Option Addr) (data_1l : Nat) (data_1c : Nat) (a_2 : Int) (b_3 : Int) (w : World) (R : Ending → World → Prop) (h :
  ∀ w4, w4 = (World.alloc w (.cells #[(Value.int .i64 0)] 3)) →
  V.lt (IntKind.wrap .i64 (a_2 + (IntKind.wrap .i64 ((IntKind.wrap .i64 (Int.tdiv (IntKind.wrap .i64 (b_3 - a_2)) 4)) * 1)))) fun x5 =>
  V.lt (IntKind.wrap .i64 (a_2 + (IntKind.wrap .i64 ((IntKind.wrap .i64 (Int.tdiv (IntKind.wrap .i64 (b_3 - a_2)) 4)) * 2)))) fun x6 =>
  V.lt (IntKind.wrap .i64 (a_2 + (IntKind.wrap .i64 ((IntKind.wrap .i64 (Int.tdiv (IntKind.wrap .i64 (b_3 - a_2)) 4)) * 3)))) fun x7 =>
  V.sel (decide ((IntKind.wrap .i64 (b_3 - a_2)) ≥ 8))
  (V.sel (decide ((IntKind.wrap .i64 (b_3 - a_2)) ≥ 50))
  (Calls Try.prog 62 #[(Value.slice data_1 data_1l data_1c), (Value.int .i64 x5), (Value.pointer (some ⟨Array.size (World.heap w), 0, none⟩))] w4 fun e9 w10 =>
  ∃ n8, e9 = Ending.returned (Value.int .i64 n8) ∧
  Calls Try.prog 62 #[(Value.slice data_1 data_1l data_1c), (Value.int .i64 x6), (Value.pointer (some ⟨Array.size (World.heap w), 0, none⟩))] w10 fun e12 w13 =>
  ∃ n11, e12 = Ending.returned (Value.int .i64 n11) ∧
  Calls Try.prog 62 #[(Value.slice data_1 data_1l data_1c), (Value.int .i64 x7), (Value.pointer (some ⟨Array.size (World.heap w), 0, none⟩))] w13 fun e15 w16 =>
  ∃ n14, e15 = Ending.returned (Value.int .i64 n14) ∧
  Calls Try.prog 63 #[(Value.slice data_1 data_1l data_1c), (Value.int .i64 n8), (Value.int .i64 n11), (Value.int .i64 n14), (Value.pointer (some ⟨Array.size (World.heap w), 0, none⟩))] w16 fun e18 w19 =>
  ∃ n17, e18 = Ending.returned (Value.int .i64 n17) ∧
  ∃ n20, World.cell? w19 ⟨Array.size (World.heap w), 0, none⟩ = some (Value.int .i64 n20) ∧
  V.sel (n20 == 0)
  (R (Ending.returned (Value.tuple #[(Value.int .i64 n17), (Value.int .i64 1)])) w19)
  (V.sel (n20 == 12)
  (R (Ending.returned (Value.tuple #[(Value.int .i64 n17), (Value.int .i64 2)])) w19)
  (R (Ending.returned (Value.tuple #[(Value.int .i64 n17), (Value.int .i64 0)])) w19)))
  (Calls Try.prog 63 #[(Value.slice data_1 data_1l data_1c), (Value.int .i64 x5), (Value.int .i64 x6), (Value.int .i64 x7), (Value.pointer (some ⟨Array.size (World.heap w), 0, none⟩))] w4 fun e22 w23 =>
  ∃ n21, e22 = Ending.returned (Value.int .i64 n21) ∧
  ∃ n24, World.cell? w23 ⟨Array.size (World.heap w), 0, none⟩ = some (Value.int .i64 n24) ∧
  V.sel (n24 == 0)
  (R (Ending.returned (Value.tuple #[(Value.int .i64 n21), (Value.int .i64 1)])) w23)
  (V.sel (n24 == 12)
  (R (Ending.returned (Value.tuple #[(Value.int .i64 n21), (Value.int .i64 2)])) w23)
  (R (Ending.returned (Value.tuple #[(Value.int .i64 n21), (Value.int .i64 0)])) w23))))
  (∃ n25, World.cell? w4 ⟨Array.size (World.heap w), 0, none⟩ = some (Value.int .i64 n25) ∧
  V.sel (n25 == 0)
  (R (Ending.returned (Value.tuple #[(Value.int .i64 x6), (Value.int .i64 1)])) w4)
  (V.sel (n25 == 12)
  (R (Ending.returned (Value.tuple #[(Value.int .i64 x6), (Value.int .i64 2)])) w4)
  (R (Ending.returned (Value.tuple #[(Value.int .i64 x6), (Value.int .i64 0)])) w4)))) :
  Calls Try.prog 50 #[(Value.slice data_1 data_1l data_1c), (Value.int .i64 a_2), (Value.int .i64 b_3)] w R :=
  V.calls_of_R ⟨V.assoc [], V.assocP [], V.assocC [], V.assocS [], ⟨[], true⟩⟩ Try.func50 rfl (Eq.mp (by kernel_rfl) h)

theorem slices_reverseRangeOrdered_string__nf (data_1 : Option Addr) (data_1l : Nat) (data_1c : Nat) (a_2 : Int) (b_3 : Int) (w : World) (R : Ending → World → Prop) (h :
  ∃ I4 : Int → Int → World → Prop, ∃ μ5 : Int → Int → World → Nat, I4 a_2 (IntKind.wrap .i64 (b_3 - 1)) w ∧
  ∀ i_6 j_7 (j8 : Nat → Value) (w9 : World), I4 i_6 j_7 w9 →
  (V.sel (decide (i_6 < j_7))
  (∃ S10 : World → Prop, S10 (World.drew w9) ∧
  V.when (decide ((0 : Int) ≤ j_7 ∧ (j_7 : Int) < ((data_1l : Nat) : Int))) (V.ptr data_1 fun a12 =>
  ∃ s13, (∀ w11, S10 w11 → World.cell? w11 (Addr.add a12 ((Int.toNat j_7) * 1)) = some (Value.string s13)) ∧
  V.when (decide ((0 : Int) ≤ i_6 ∧ (i_6 : Int) < ((data_1l : Nat) : Int))) (V.ptr data_1 fun a14 =>
  ∃ s15, (∀ w11, S10 w11 → World.cell? w11 (Addr.add a14 ((Int.toNat i_6) * 1)) = some (Value.string s15)) ∧
  V.when (decide ((0 : Int) ≤ i_6 ∧ (i_6 : Int) < ((data_1l : Nat) : Int))) (V.ptr data_1 fun a16 =>
  ∃ w17, Sem.run Try.prog (Instr.storeAt 9 (Value.pointer (some (Addr.add a16 ((Int.toNat i_6) * 1)))) (Value.string s13)) (World.drew w9) = .ok () w17 ∧
  S10 w17 ∧
  V.when (decide ((0 : Int) ≤ j_7 ∧ (j_7 : Int) < ((data_1l : Nat) : Int))) (V.ptr data_1 fun a18 =>
  ∃ w19, Sem.run Try.prog (Instr.storeAt 9 (Value.pointer (some (Addr.add a18 ((Int.toNat j_7) * 1)))) (Value.string s15)) w17 = .ok () w19 ∧
  I4 (IntKind.wrap .i64 (i_6 + 1)) (IntKind.wrap .i64 (j_7 - 1)) w19 ∧ μ5 (IntKind.wrap .i64 (i_6 + 1)) (IntKind.wrap .i64 (j_7 - 1)) w19 < μ5 i_6 j_7 w9)))))
  (R (Ending.returned undef) w9))) :
  Calls Try.prog 51 #[(Value.slice data_1 data_1l data_1c), (Value.int .i64 a_2), (Value.int .i64 b_3)] w R :=
  V.calls_of_R ⟨V.assoc [(0, [6, 7])], V.assocP [(3, V.line [0, 1, 2, 3, 4, 5, 6, 7, 8, 9, 10, 11, 12, 13, 14, 15])], V.assocC [], V.assocS [], ⟨[], true⟩⟩ Try.func51 rfl (Eq.mp (by kernel_rfl) h)

theorem slices_partialInsertionSortOrdered_string__nf (data_1 : Option Addr) (data_1l : Nat) (data_1c : Nat) (a_2 : Int) (b_3 : Int) (w : World) (R : Ending → World → Prop) (h :
  ∃ I4 : Int → Int → World → Prop, ∃ μ5 : Int → Int → World → Nat, I4 (IntKind.wrap .i64 (a_2 + 1)) 0 w ∧
  ∀ i_6 j_7 (j8 : Nat → Value) (w9 : World), I4 i_6 j_7 w9 →
  (V.sel (decide (j_7 < 5))
  (∃ I10 : Int → World → Prop, ∃ μ11 : Int → World → Nat, I10 i_6 w9 ∧
  ∀ i_12 (j13 : Nat → Value) (w14 : World), I10 i_12 w14 →
  (∃ S15 : World → Prop, S15 (World.drew w14) ∧
  V.sel (decide (i_12 < b_3))
  (V.when (decide ((0 : Int) ≤ i_12 ∧ (i_12 : Int) < ((data_1l : Nat) : Int))) (V.ptr data_1 fun a17 =>
  ∃ s18, (∀ w16, S15 w16 → World.cell? w16 (Addr.add a17 ((Int.toNat i_12) * 1)) = some (Value.string s18)) ∧
  V.when (decide ((0 : Int) ≤ (IntKind.wrap .i64 (i_12 - 1)) ∧ ((IntKind.wrap .i64 (i_12 - 1)) : Int) < ((data_1l : Nat) : Int))) (V.ptr data_1 fun a19 =>
  ∃ s20, (∀ w16, S15 w16 → World.cell? w16 (Addr.add a19 ((Int.toNat (IntKind.wrap .i64 (i_12 - 1))) * 1)) = some (Value.string s20)) ∧
  Calls Try.prog 53 #[(Value.string s18), (Value.string s20)] (World.drew w14) fun e22 w23 =>
  ∃ b21, e22 = Ending.returned (Value.bool b21) ∧
  S15 w23 ∧
  V.sel (!b21)
  (I10 (IntKind.wrap .i64 (i_12 + 1)) w23 ∧ μ11 (IntKind.wrap .i64 (i_12 + 1)) w23 < μ11 i_12 w14)
  (V.sel (i_12 == b_3)
  (R (Ending.returned (Value.bool true)) w23)
  (V.sel (decide ((IntKind.wrap .i64 (b_3 - a_2)) < 50))
  (R (Ending.returned (Value.bool false)) w23)
  (∃ S24 : World → Prop, S24 (World.drew w23) ∧
  V.when (decide ((0 : Int) ≤ (IntKind.wrap .i64 (i_12 - 1)) ∧ ((IntKind.wrap .i64 (i_12 - 1)) : Int) < ((data_1l : Nat) : Int))) (V.ptr data_1 fun a26 =>
  ∃ s27, (∀ w25, S24 w25 → World.cell? w25 (Addr.add a26 ((Int.toNat (IntKind.wrap .i64 (i_12 - 1))) * 1)) = some (Value.string s27)) ∧
  V.when (decide ((0 : Int) ≤ i_12 ∧ (i_12 : Int) < ((data_1l : Nat) : Int))) (V.ptr data_1 fun a28 =>
  ∃ s29, (∀ w25, S24 w25 → World.cell? w25 (Addr.add a28 ((Int.toNat i_12) * 1)) = some (Value.string s29)) ∧
  V.when (decide ((0 : Int) ≤ i_12 ∧ (i_12 : Int) < ((data_1l : Nat) : Int))) (V.ptr data_1 fun a30 =>
  ∃ w31, Sem.run Try.prog (Instr.storeAt 9 (Value.pointer (some (Addr.add a30 ((Int.toNat i_12) * 1)))) (Value.string s27)) (World.drew w23) = .ok () w31 ∧
  S24 w31 ∧
  V.when (decide ((0 : Int) ≤ (IntKind.wrap .i64 (i_12 - 1)) ∧ ((IntKind.wrap .i64 (i_12 - 1)) : Int) < ((data_1l : Nat) : Int))) (V.ptr data_1 fun a32 =>
  ∃ w33, Sem.run Try.prog (Instr.storeAt 9 (Value.pointer (some (Addr.add a32 ((Int.toNat (IntKind.wrap .i64 (i_12 - 1))) * 1)))) (Value.string s29)) w31 = .ok () w33 ∧
  V.sel (decide ((IntKind.wrap .i64 (i_12 - a_2)) ≥ 2))
  (∃ I34 : Int → World → Prop, ∃ μ35 : Int → World → Nat, I34 (IntKind.wrap .i64 (i_12 - 1)) w33 ∧
  ∀ j_36 (j37 : Nat → Value) (w38 : World), I34 j_36 w38 →
  (V.sel (decide (j_36 ≥ 1))
  (∃ S39 : World → Prop, S39 (World.drew w38) ∧
  V.when (decide ((0 : Int) ≤ j_36 ∧ (j_36 : Int) < ((data_1l : Nat) : Int))) (V.ptr data_1 fun a41 =>
  ∃ s42, (∀ w40, S39 w40 → World.cell? w40 (Addr.add a41 ((Int.toNat j_36) * 1)) = some (Value.string s42)) ∧
  V.when (decide ((0 : Int) ≤ (IntKind.wrap .i64 (j_36 - 1)) ∧ ((IntKind.wrap .i64 (j_36 - 1)) : Int) < ((data_1l : Nat) : Int))) (V.ptr data_1 fun a43 =>
  ∃ s44, (∀ w40, S39 w40 → World.cell? w40 (Addr.add a43 ((Int.toNat (IntKind.wrap .i64 (j_36 - 1))) * 1)) = some (Value.string s44)) ∧
  Calls Try.prog 53 #[(Value.string s42), (Value.string s44)] (World.drew w38) fun e46 w47 =>
  ∃ b45, e46 = Ending.returned (Value.bool b45) ∧
  S39 w47 ∧
  V.sel (!b45)
  (V.sel (decide ((IntKind.wrap .i64 (b_3 - i_12)) ≥ 2))
  (∃ I48 : Int → World → Prop, ∃ μ49 : Int → World → Nat, I48 (IntKind.wrap .i64 (i_12 + 1)) w47 ∧
  ∀ j_50 (j51 : Nat → Value) (w52 : World), I48 j_50 w52 →
  (V.sel (decide (j_50 < b_3))
  (∃ S53 : World → Prop, S53 (World.drew w52) ∧
  V.when (decide ((0 : Int) ≤ j_50 ∧ (j_50 : Int) < ((data_1l : Nat) : Int))) (V.ptr data_1 fun a55 =>
  ∃ s56, (∀ w54, S53 w54 → World.cell? w54 (Addr.add a55 ((Int.toNat j_50) * 1)) = some (Value.string s56)) ∧
  V.when (decide ((0 : Int) ≤ (IntKind.wrap .i64 (j_50 - 1)) ∧ ((IntKind.wrap .i64 (j_50 - 1)) : Int) < ((data_1l : Nat) : Int))) (V.ptr data_1 fun a57 =>
  ∃ s58, (∀ w54, S53 w54 → World.cell? w54 (Addr.add a57 ((Int.toNat (IntKind.wrap .i64 (j_50 - 1))) * 1)) = some (Value.string s58)) ∧
  Calls Try.prog 53 #[(Value.string s56), (Value.string s58)] (World.drew w52) fun e60 w61 =>
  ∃ b59, e60 = Ending.returned (Value.bool b59) ∧
  S53 w61 ∧
  V.sel (!b59)
  (I4 i_12 (IntKind.wrap .i64 (j_7 + 1)) w61 ∧ μ5 i_12 (IntKind.wrap .i64 (j_7 + 1)) w61 < μ5 i_6 j_7 w9)
  (∃ S62 : World → Prop, S62 (World.drew w61) ∧
  V.when (decide ((0 : Int) ≤ (IntKind.wrap .i64 (j_50 - 1)) ∧ ((IntKind.wrap .i64 (j_50 - 1)) : Int) < ((data_1l : Nat) : Int))) (V.ptr data_1 fun a64 =>
  ∃ s65, (∀ w63, S62 w63 → World.cell? w63 (Addr.add a64 ((Int.toNat (IntKind.wrap .i64 (j_50 - 1))) * 1)) = some (Value.string s65)) ∧
  V.when (decide ((0 : Int) ≤ j_50 ∧ (j_50 : Int) < ((data_1l : Nat) : Int))) (V.ptr data_1 fun a66 =>
  ∃ s67, (∀ w63, S62 w63 → World.cell? w63 (Addr.add a66 ((Int.toNat j_50) * 1)) = some (Value.string s67)) ∧
  V.when (decide ((0 : Int) ≤ j_50 ∧ (j_50 : Int) < ((data_1l : Nat) : Int))) (V.ptr data_1 fun a68 =>
  ∃ w69, Sem.run Try.prog (Instr.storeAt 9 (Value.pointer (some (Addr.add a68 ((Int.toNat j_50) * 1)))) (Value.string s65)) (World.drew w61) = .ok () w69 ∧
  S62 w69 ∧
  V.when (decide ((0 : Int) ≤ (IntKind.wrap .i64 (j_50 - 1)) ∧ ((IntKind.wrap .i64 (j_50 - 1)) : Int) < ((data_1l : Nat) : Int))) (V.ptr data_1 fun a70 =>
  ∃ w71, Sem.run Try.prog (Instr.storeAt 9 (Value.pointer (some (Addr.add a70 ((Int.toNat (IntKind.wrap .i64 (j_50 - 1))) * 1)))) (Value.string s67)) w69 = .ok () w71 ∧
  I48 (IntKind.wrap .i64 (j_50 + 1)) w71 ∧ μ49 (IntKind.wrap .i64 (j_50 + 1)) w71 < μ49 j_50 w52))))))))
  (I4 i_12 (IntKind.wrap .i64 (j_7 + 1)) w52 ∧ μ5 i_12 (IntKind.wrap .i64 (j_7 + 1)) w52 < μ5 i_6 j_7 w9)))
  (I4 i_12 (IntKind.wrap .i64 (j_7 + 1)) w47 ∧ μ5 i_12 (IntKind.wrap .i64 (j_7 + 1)) w47 < μ5 i_6 j_7 w9))
  (∃ S72 : World → Prop, S72 (World.drew w47) ∧
  V.when (decide ((0 : Int) ≤ (IntKind.wrap .i64 (j_36 - 1)) ∧ ((IntKind.wrap .i64 (j_36 - 1)) : Int) < ((data_1l : Nat) : Int))) (V.ptr data_1 fun a74 =>
  ∃ s75, (∀ w73, S72 w73 → World.cell? w73 (Addr.add a74 ((Int.toNat (IntKind.wrap .i64 (j_36 - 1))) * 1)) = some (Value.string s75)) ∧
  V.when (decide ((0 : Int) ≤ j_36 ∧ (j_36 : Int) < ((data_1l : Nat) : Int))) (V.ptr data_1 fun a76 =>
  ∃ s77, (∀ w73, S72 w73 → World.cell? w73 (Addr.add a76 ((Int.toNat j_36) * 1)) = some (Value.string s77)) ∧
  V.when (decide ((0 : Int) ≤ j_36 ∧ (j_36 : Int) < ((data_1l : Nat) : Int))) (V.ptr data_1 fun a78 =>
  ∃ w79, Sem.run Try.prog (Instr.storeAt 9 (Value.pointer (some (Addr.add a78 ((Int.toNat j_36) * 1)))) (Value.string s75)) (World.drew w47) = .ok () w79 ∧
  S72 w79 ∧
  V.when (decide ((0 : Int) ≤ (IntKind.wrap .i64 (j_36 - 1)) ∧ ((IntKind.wrap .i64 (j_36 - 1)) : Int) < ((data_1l : Nat) : Int))) (V.ptr data_1 fun a80 =>
  ∃ w81, Sem.run Try.prog (Instr.storeAt 9 (Value.pointer (some (Addr.add a80 ((Int.toNat (IntKind.wrap .i64 (j_36 - 1))) * 1)))) (Value.string s77)) w79 = .ok () w81 ∧
  I34 (IntKind.wrap .i64 (j_36 - 1)) w81 ∧ μ35 (IntKind.wrap .i64 (j_36 - 1)) w81 < μ35 j_36 w38))))))))
  (V.sel (decide ((IntKind.wrap .i64 (b_3 - i_12)) ≥ 2))
  (∃ I82 : Int → World → Prop, ∃ μ83 : Int → World → Nat, I82 (IntKind.wrap .i64 (i_12 + 1)) w38 ∧
  ∀ j_84 (j85 : Nat → Value) (w86 : World), I82 j_84 w86 →
  (V.sel (decide (j_84 < b_3))
  (∃ S87 : World → Prop, S87 (World.drew w86) ∧
  V.when (decide ((0 : Int) ≤ j_84 ∧ (j_84 : Int) < ((data_1l : Nat) : Int))) (V.ptr data_1 fun a89 =>
  ∃ s90, (∀ w88, S87 w88 → World.cell? w88 (Addr.add a89 ((Int.toNat j_84) * 1)) = some (Value.string s90)) ∧
  V.when (decide ((0 : Int) ≤ (IntKind.wrap .i64 (j_84 - 1)) ∧ ((IntKind.wrap .i64 (j_84 - 1)) : Int) < ((data_1l : Nat) : Int))) (V.ptr data_1 fun a91 =>
  ∃ s92, (∀ w88, S87 w88 → World.cell? w88 (Addr.add a91 ((Int.toNat (IntKind.wrap .i64 (j_84 - 1))) * 1)) = some (Value.string s92)) ∧
  Calls Try.prog 53 #[(Value.string s90), (Value.string s92)] (World.drew w86) fun e94 w95 =>
  ∃ b93, e94 = Ending.returned (Value.bool b93) ∧
  S87 w95 ∧
  V.sel (!b93)
  (I4 i_12 (IntKind.wrap .i64 (j_7 + 1)) w95 ∧ μ5 i_12 (IntKind.wrap .i64 (j_7 + 1)) w95 < μ5 i_6 j_7 w9)
  (∃ S96 : World → Prop, S96 (World.drew w95) ∧
  V.when (decide ((0 : Int) ≤ (IntKind.wrap .i64 (j_84 - 1)) ∧ ((IntKind.wrap .i64 (j_84 - 1)) : Int) < ((data_1l : Nat) : Int))) (V.ptr data_1 fun a98 =>
  ∃ s99, (∀ w97, S96 w97 → World.cell? w97 (Addr.add a98 ((Int.toNat (IntKind.wrap .i64 (j_84 - 1))) * 1)) = some (Value.string s99)) ∧
  V.when (decide ((0 : Int) ≤ j_84 ∧ (j_84 : Int) < ((data_1l : Nat) : Int))) (V.ptr data_1 fun a100 =>
  ∃ s101, (∀ w97, S96 w97 → World.cell? w97 (Addr.add a100 ((Int.toNat j_84) * 1)) = some (Value.string s101)) ∧
  V.when (decide ((0 : Int) ≤ j_84 ∧ (j_84 : Int) < ((data_1l : Nat) : Int))) (V.ptr data_1 fun a102 =>
  ∃ w103, Sem.run Try.prog (Instr.storeAt 9 (Value.pointer (some (Addr.add a102 ((Int.toNat j_84) * 1)))) (Value.string s99)) (World.drew w95) = .ok () w103 ∧
  S96 w103 ∧
  V.when (decide ((0 : Int) ≤ (IntKind.wrap .i64 (j_84 - 1)) ∧ ((IntKind.wrap .i64 (j_84 - 1)) : Int) < ((data_1l : Nat) : Int))) (V.ptr data_1 fun a104 =>
  ∃ w105, Sem.run Try.prog (Instr.storeAt 9 (Value.pointer (some (Addr.add a104 ((Int.toNat (IntKind.wrap .i64 (j_84 - 1))) * 1)))) (Value.string s101)) w103 = .ok () w105 ∧
  I82 (IntKind.wrap .i64 (j_84 + 1)) w105 ∧ μ83 (IntKind.wrap .i64 (j_84 + 1)) w105 < μ83 j_84 w86))))))))
  (I4 i_12 (IntKind.wrap .i64 (j_7 + 1)) w86 ∧ μ5 i_12 (IntKind.wrap .i64 (j_7 + 1)) w86 < μ5 i_6 j_7 w9)))
  (I4 i_12 (IntKind.wrap .i64 (j_7 + 1)) w38 ∧ μ5 i_12 (IntKind.wrap .i64 (j_7 + 1)) w38 < μ5 i_6 j_7 w9))))
  (V.sel (decide ((IntKind.wrap .i64 (b_3 - i_12)) ≥ 2))
  (∃ I106 : Int → World → Prop, ∃ μ107 : Int → World → Nat, I106 (IntKind.wrap .i64 (i_12 + 1)) w33 ∧
  ∀ j_108 (j109 : Nat → Value) (w110 : World), I106 j_108 w110 →
  (V.sel (decide (j_108 < b_3))
  (∃ S111 : World → Prop, S111 (World.drew w110) ∧
  V.when (decide ((0 : Int) ≤ j_108 ∧ (j_108 : Int) < ((data_1l : Nat) : Int))) (V.ptr data_1 fun a113 =>
  ∃ s114, (∀ w112, S111 w112 → World.cell? w112 (Addr.add a113 ((Int.toNat j_108) * 1)) = some (Value.string s114)) ∧
  V.when (decide ((0 : Int) ≤ (IntKind.wrap .i64 (j_108 - 1)) ∧ ((IntKind.wrap .i64 (j_108 - 1)) : Int) < ((data_1l : Nat) : Int))) (V.ptr data_1 fun a115 =>
  ∃ s116, (∀ w112, S111 w112 → World.cell? w112 (Addr.add a115 ((Int.toNat (IntKind.wrap .i64 (j_108 - 1))) * 1)) = some (Value.string s116)) ∧
  Calls Try.prog 53 #[(Value.string s114), (Value.string s116)] (World.drew w110) fun e118 w119 =>
  ∃ b117, e118 = Ending.returned (Value.bool b117) ∧
  S111 w119 ∧
  V.sel (!b117)
  (I4 i_12 (IntKind.wrap .i64 (j_7 + 1)) w119 ∧ μ5 i_12 (IntKind.wrap .i64 (j_7 + 1)) w119 < μ5 i_6 j_7 w9)
  (∃ S120 : World → Prop, S120 (World.drew w119) ∧
  V.when (decide ((0 : Int) ≤ (IntKind.wrap .i64 (j_108 - 1)) ∧ ((IntKind.wrap .i64 (j_108 - 1)) : Int) < ((data_1l : Nat) : Int))) (V.ptr data_1 fun a122 =>
  ∃ s123, (∀ w121, S120 w121 → World.cell? w121 (Addr.add a122 ((Int.toNat (IntKind.wrap .i64 (j_108 - 1))) * 1)) = some (Value.string s123)) ∧
  V.when (decide ((0 : Int) ≤ j_108 ∧ (j_108 : Int) < ((data_1l : Nat) : Int))) (V.ptr data_1 fun a124 =>
  ∃ s125, (∀ w121, S120 w121 → World.cell? w121 (Addr.add a124 ((Int.toNat j_108) * 1)) = some (Value.string s125)) ∧
  V.when (decide ((0 : Int) ≤ j_108 ∧ (j_108 : Int) < ((data_1l : Nat) : Int))) (V.ptr data_1 fun a126 =>
  ∃ w127, Sem.run Try.prog (Instr.storeAt 9 (Value.pointer (some (Addr.add a126 ((Int.toNat j_108) * 1)))) (Value.string s123)) (World.drew w119) = .ok () w127 ∧
  S120 w127 ∧
  V.when (decide ((0 : Int) ≤ (IntKind.wrap .i64 (j_108 - 1)) ∧ ((IntKind.wrap .i64 (j_108 - 1)) : Int) < ((data_1l : Nat) : Int))) (V.ptr data_1 fun a128 =>
  ∃ w129, Sem.run Try.prog (Instr.storeAt 9 (Value.pointer (some (Addr.add a128 ((Int.toNat (IntKind.wrap .i64 (j_108 - 1))) * 1)))) (Value.string s125)) w127 = .ok () w129 ∧
  I106 (IntKind.wrap .i64 (j_108 + 1)) w129 ∧ μ107 (IntKind.wrap .i64 (j_108 + 1)) w129 < μ107 j_108 w110))))))))
  (I4 i_12 (IntKind.wrap .i64 (j_7 + 1)) w110 ∧ μ5 i_12 (IntKind.wrap .i64 (j_7 + 1)) w110 < μ5 i_6 j_7 w9)))
  (I4 i_12 (IntKind.wrap .i64 (j_7 + 1)) w33 ∧ μ5 i_12 (IntKind.wrap .i64 (j_7 + 1)) w33 < μ5 i_6 j_7 w9))))))))))))
  (V.sel (i_12 == b_3)
  (R (Ending.returned (Value.bool true)) (World.drew w14))
  (V.sel (decide ((IntKind.wrap .i64 (b_3 - a_2)) < 50))
  (R (Ending.returned (Value.bool false)) (World.drew w14))
  (∃ S130 : World → Prop, S130 (World.drew (World.drew w14)) ∧
  V.when (decide ((0 : Int) ≤ (IntKind.wrap .i64 (i_12 - 1)) ∧ ((IntKind.wrap .i64 (i_12 - 1)) : Int) < ((data_1l : Nat) : Int))) (V.ptr data_1 fun a132 =>
  ∃ s133, (∀ w131, S130 w131 → World.cell? w131 (Addr.add a132 ((Int.toNat (IntKind.wrap .i64 (i_12 - 1))) * 1)) = some (Value.string s133)) ∧
  V.when (decide ((0 : Int) ≤ i_12 ∧ (i_12 : Int) < ((data_1l : Nat) : Int))) (V.ptr data_1 fun a134 =>
  ∃ s135, (∀ w131, S130 w131 → World.cell? w131 (Addr.add a134 ((Int.toNat i_12) * 1)) = some (Value.string s135)) ∧
  V.when (decide ((0 : Int) ≤ i_12 ∧ (i_12 : Int) < ((data_1l : Nat) : Int))) (V.ptr data_1 fun a136 =>
  ∃ w137, Sem.run Try.prog (Instr.storeAt 9 (Value.pointer (some (Addr.add a136 ((Int.toNat i_12) * 1)))) (Value.string s133)) (World.drew (World.drew w14)) = .ok () w137 ∧
  S130 w137 ∧
  V.when (decide ((0 : Int) ≤ (IntKind.wrap .i64 (i_12 - 1)) ∧ ((IntKind.wrap .i64 (i_12 - 1)) : Int) < ((data_1l : Nat) : Int))) (V.ptr data_1 fun a138 =>
  ∃ w139, Sem.run Try.prog (Instr.storeAt 9 (Value.pointer (some (Addr.add a138 ((Int.toNat (IntKind.wrap .i64 (i_12 - 1))) * 1)))) (Value.string s135)) w137 = .ok () w139 ∧
  V.sel (decide ((IntKind.wrap .i64 (i_12 - a_2)) ≥ 2))
  (∃ I140 : Int → World → Prop, ∃ μ141 : Int → World → Nat, I140 (IntKind.wrap .i64 (i_12 - 1)) w139 ∧
  ∀ j_142 (j143 : Nat → Value) (w144 : World), I140 j_142 w144 →
  (V.sel (decide (j_142 ≥ 1))
  (∃ S145 : World → Prop, S145 (World.drew w144) ∧
  V.when (decide ((0 : Int) ≤ j_142 ∧ (j_142 : Int) < ((data_1l : Nat) : Int))) (V.ptr data_1 fun a147 =>
  ∃ s148, (∀ w146, S145 w146 → World.cell? w146 (Addr.add a147 ((Int.toNat j_142) * 1)) = some (Value.string s148)) ∧
  V.when (decide ((0 : Int) ≤ (IntKind.wrap .i64 (j_142 - 1)) ∧ ((IntKind.wrap .i64 (j_142 - 1)) : Int) < ((data_1l : Nat) : Int))) (V.ptr data_1 fun a149 =>
  ∃ s150, (∀ w146, S145 w146 → World.cell? w146 (Addr.add a149 ((Int.toNat (IntKind.wrap .i64 (j_142 - 1))) * 1)) = some (Value.string s150)) ∧
  Calls Try.prog 53 #[(Value.string s148), (Value.string s150)] (World.drew w144) fun e152 w153 =>
  ∃ b151, e152 = Ending.returned (Value.bool b151) ∧
  S145 w153 ∧
  V.sel (!b151)
  (V.sel (decide ((IntKind.wrap .i64 (b_3 - i_12)) ≥ 2))
  (∃ I154 : Int → World → Prop, ∃ μ155 : Int → World → Nat, I154 (IntKind.wrap .i64 (i_12 + 1)) w153 ∧
  ∀ j_156 (j157 : Nat → Value) (w158 : World), I154 j_156 w158 →
  (V.sel (decide (j_156 < b_3))
  (∃ S159 : World → Prop, S159 (World.drew w158) ∧
  V.when (decide ((0 : Int) ≤ j_156 ∧ (j_156 : Int) < ((data_1l : Nat) : Int))) (V.ptr data_1 fun a161 =>
  ∃ s162, (∀ w160, S159 w160 → World.cell? w160 (Addr.add a161 ((Int.toNat j_156) * 1)) = some (Value.string s162)) ∧
  V.when (decide ((0 : Int) ≤ (IntKind.wrap .i64 (j_156 - 1)) ∧ ((IntKind.wrap .i64 (j_156 - 1)) : Int) < ((data_1l : Nat) : Int))) (V.ptr data_1 fun a163 =>
  ∃ s164, (∀ w160, S159 w160 → World.cell? w160 (Addr.add a163 ((Int.toNat (IntKind.wrap .i64 (j_156 - 1))) * 1)) = some (Value.string s164)) ∧
  Calls Try.prog 53 #[(Value.string s162), (Value.string s164)] (World.drew w158) fun e166 w167 =>
  ∃ b165, e166 = Ending.returned (Value.bool b165) ∧
  S159 w167 ∧
  V.sel (!b165)
  (I4 i_12 (IntKind.wrap .i64 (j_7 + 1)) w167 ∧ μ5 i_12 (IntKind.wrap .i64 (j_7 + 1)) w167 < μ5 i_6 j_7 w9)
  (∃ S168 : World → Prop, S168 (World.drew w167) ∧
  V.when (decide ((0 : Int) ≤ (IntKind.wrap .i64 (j_156 - 1)) ∧ ((IntKind.wrap .i64 (j_156 - 1)) : Int) < ((data_1l : Nat) : Int))) (V.ptr data_1 fun a170 =>
  ∃ s171, (∀ w169, S168 w169 → World.cell? w169 (Addr.add a170 ((Int.toNat (IntKind.wrap .i64 (j_156 - 1))) * 1)) = some (Value.string s171)) ∧
  V.when (decide ((0 : Int) ≤ j_156 ∧ (j_156 : Int) < ((data_1l : Nat) : Int))) (V.ptr data_1 fun a172 =>
  ∃ s173, (∀ w169, S168 w169 → World.cell? w169 (Addr.add a172 ((Int.toNat j_156) * 1)) = some (Value.string s173)) ∧
  V.when (decide ((0 : Int) ≤ j_156 ∧ (j_156 : Int) < ((data_1l : Nat) : Int))) (V.ptr data_1 fun a174 =>
  ∃ w175, Sem.run Try.prog (Instr.storeAt 9 (Value.pointer (some (Addr.add a174 ((Int.toNat j_156) * 1)))) (Value.string s171)) (World.drew w167) = .ok () w175 ∧
  S168 w175 ∧
  V.when (decide ((0 : Int) ≤ (IntKind.wrap .i64 (j_156 - 1)) ∧ ((IntKind.wrap .i64 (j_156 - 1)) : Int) < ((data_1l : Nat) : Int))) (V.ptr data_1 fun a176 =>
  ∃ w177, Sem.run Try.prog (Instr.storeAt 9 (Value.pointer (some (Addr.add a176 ((Int.toNat (IntKind.wrap .i64 (j_156 - 1))) * 1)))) (Value.string s173)) w175 = .ok () w177 ∧
  I154 (IntKind.wrap .i64 (j_156 + 1)) w177 ∧ μ155 (IntKind.wrap .i64 (j_156 + 1)) w177 < μ155 j_156 w158))))))))
  (I4 i_12 (IntKind.wrap .i64 (j_7 + 1)) w158 ∧ μ5 i_12 (IntKind.wrap .i64 (j_7 + 1)) w158 < μ5 i_6 j_7 w9)))
  (I4 i_12 (IntKind.wrap .i64 (j_7 + 1)) w153 ∧ μ5 i_12 (IntKind.wrap .i64 (j_7 + 1)) w153 < μ5 i_6 j_7 w9))
  (∃ S178 : World → Prop, S178 (World.drew w153) ∧
  V.when (decide ((0 : Int) ≤ (IntKind.wrap .i64 (j_142 - 1)) ∧ ((IntKind.wrap .i64 (j_142 - 1)) : Int) < ((data_1l : Nat) : Int))) (V.ptr data_1 fun a180 =>
  ∃ s181, (∀ w179, S178 w179 → World.cell? w179 (Addr.add a180 ((Int.toNat (IntKind.wrap .i64 (j_142 - 1))) * 1)) = some (Value.string s181)) ∧
  V.when (decide ((0 : Int) ≤ j_142 ∧ (j_142 : Int) < ((data_1l : Nat) : Int))) (V.ptr data_1 fun a182 =>
  ∃ s183, (∀ w179, S178 w179 → World.cell? w179 (Addr.add a182 ((Int.toNat j_142) * 1)) = some (Value.string s183)) ∧
  V.when (decide ((0 : Int) ≤ j_142 ∧ (j_142 : Int) < ((data_1l : Nat) : Int))) (V.ptr data_1 fun a184 =>
  ∃ w185, Sem.run Try.prog (Instr.storeAt 9 (Value.pointer (some (Addr.add a184 ((Int.toNat j_142) * 1)))) (Value.string s181)) (World.drew w153) = .ok () w185 ∧
  S178 w185 ∧
  V.when (decide ((0 : Int) ≤ (IntKind.wrap .i64 (j_142 - 1)) ∧ ((IntKind.wrap .i64 (j_142 - 1)) : Int) < ((data_1l : Nat) : Int))) (V.ptr data_1 fun a186 =>
  ∃ w187, Sem.run Try.prog (Instr.storeAt 9 (Value.pointer (some (Addr.add a186 ((Int.toNat (IntKind.wrap .i64 (j_142 - 1))) * 1)))) (Value.string s183)) w185 = .ok () w187 ∧
  I140 (IntKind.wrap .i64 (j_142 - 1)) w187 ∧ μ141 (IntKind.wrap .i64 (j_142 - 1)) w187 < μ141 j_142 w144))))))))
  (V.sel (decide ((IntKind.wrap .i64 (b_3 - i_12)) ≥ 2))
  (∃ I188 : Int → World → Prop, ∃ μ189 : Int → World → Nat, I188 (IntKind.wrap .i64 (i_12 + 1)) w144 ∧
  ∀ j_190 (j191 : Nat → Value) (w192 : World), I188 j_190 w192 →
  (V.sel (decide (j_190 < b_3))
  (∃ S193 : World → Prop, S193 (World.drew w192) ∧
  V.when (decide ((0 : Int) ≤ j_190 ∧ (j_190 : Int) < ((data_1l : Nat) : Int))) (V.ptr data_1 fun a195 =>
  ∃ s196, (∀ w194, S193 w194 → World.cell? w194 (Addr.add a195 ((Int.toNat j_190) * 1)) = some (Value.string s196)) ∧
  V.when (decide ((0 : Int) ≤ (IntKind.wrap .i64 (j_190 - 1)) ∧ ((IntKind.wrap .i64 (j_190 - 1)) : Int) < ((data_1l : Nat) : Int))) (V.ptr data_1 fun a197 =>
  ∃ s198, (∀ w194, S193 w194 → World.cell? w194 (Addr.add a197 ((Int.toNat (IntKind.wrap .i64 (j_190 - 1))) * 1)) = some (Value.string s198)) ∧
  Calls Try.prog 53 #[(Value.string s196), (Value.string s198)] (World.drew w192) fun e200 w201 =>
  ∃ b199, e200 = Ending.returned (Value.bool b199) ∧
  S193 w201 ∧
  V.sel (!b199)
  (I4 i_12 (IntKind.wrap .i64 (j_7 + 1)) w201 ∧ μ5 i_12 (IntKind.wrap .i64 (j_7 + 1)) w201 < μ5 i_6 j_7 w9)
  (∃ S202 : World → Prop, S202 (World.drew w201) ∧
  V.when (decide ((0 : Int) ≤ (IntKind.wrap .i64 (j_190 - 1)) ∧ ((IntKind.wrap .i64 (j_190 - 1)) : Int) < ((data_1l : Nat) : Int))) (V.ptr data_1 fun a204 =>
  ∃ s205, (∀ w203, S202 w203 → World.cell? w203 (Addr.add a204 ((Int.toNat (IntKind.wrap .i64 (j_190 - 1))) * 1)) = some (Value.string s205)) ∧
  V.when (decide ((0 : Int) ≤ j_190 ∧ (j_190 : Int) < ((data_1l : Nat) : Int))) (V.ptr data_1 fun a206 =>
  ∃ s207, (∀ w203, S202 w203 → World.cell? w203 (Addr.add a206 ((Int.toNat j_190) * 1)) = some (Value.string s207)) ∧
  V.when (decide ((0 : Int) ≤ j_190 ∧ (j_190 : Int) < ((data_1l : Nat) : Int))) (V.ptr data_1 fun a208 =>
  ∃ w209, Sem.run Try.prog (Instr.storeAt 9 (Value.pointer (some (Addr.add a208 ((Int.toNat j_190) * 1)))) (Value.string s205)) (World.drew w201) = .ok () w209 ∧
  S202 w209 ∧
  V.when (decide ((0 : Int) ≤ (IntKind.wrap .i64 (j_190 - 1)) ∧ ((IntKind.wrap .i64 (j_190 - 1)) : Int) < ((data_1l : Nat) : Int))) (V.ptr data_1 fun a210 =>
  ∃ w211, Sem.run Try.prog (Instr.storeAt 9 (Value.pointer (some (Addr.add a210 ((Int.toNat (IntKind.wrap .i64 (j_190 - 1))) * 1)))) (Value.string s207)) w209 = .ok () w211 ∧
  I188 (IntKind.wrap .i64 (j_190 + 1)) w211 ∧ μ189 (IntKind.wrap .i64 (j_190 + 1)) w211 < μ189 j_190 w192))))))))
  (I4 i_12 (IntKind.wrap .i64 (j_7 + 1)) w192 ∧ μ5 i_12 (IntKind.wrap .i64 (j_7 + 1)) w192 < μ5 i_6 j_7 w9)))
  (I4 i_12 (IntKind.wrap .i64 (j_7 + 1)) w144 ∧ μ5 i_12 (IntKind.wrap .i64 (j_7 + 1)) w144 < μ5 i_6 j_7 w9))))
  (V.sel (decide ((IntKind.wrap .i64 (b_3 - i_12)) ≥ 2))
  (∃ I212 : Int → World → Prop, ∃ μ213 : Int → World → Nat, I212 (IntKind.wrap .i64 (i_12 + 1)) w139 ∧
  ∀ j_214 (j215 : Nat → Value) (w216 : World), I212 j_214 w216 →
  (V.sel (decide (j_214 < b_3))
  (∃ S217 : World → Prop, S217 (World.drew w216) ∧
  V.when (decide ((0 : Int) ≤ j_214 ∧ (j_214 : Int) < ((data_1l : Nat) : Int))) (V.ptr data_1 fun a219 =>
  ∃ s220, (∀ w218, S217 w218 → World.cell? w218 (Addr.add a219 ((Int.toNat j_214) * 1)) = some (Value.string s220)) ∧
  V.when (decide ((0 : Int) ≤ (IntKind.wrap .i64 (j_214 - 1)) ∧ ((IntKind.wrap .i64 (j_214 - 1)) : Int) < ((data_1l : Nat) : Int))) (V.ptr data_1 fun a221 =>
  ∃ s222, (∀ w218, S217 w218 → World.cell? w218 (Addr.add a221 ((Int.toNat (IntKind.wrap .i64 (j_214 - 1))) * 1)) = some (Value.string s222)) ∧
  Calls Try.prog 53 #[(Value.string s220), (Value.string s222)] (World.drew w216) fun e224 w225 =>
  ∃ b223, e224 = Ending.returned (Value.bool b223) ∧
  S217 w225 ∧
  V.sel (!b223)
  (I4 i_12 (IntKind.wrap .i64 (j_7 + 1)) w225 ∧ μ5 i_12 (IntKind.wrap .i64 (j_7 + 1)) w225 < μ5 i_6 j_7 w9)
  (∃ S226 : World → Prop, S226 (World.drew w225) ∧
  V.when (decide ((0 : Int) ≤ (IntKind.wrap .i64 (j_214 - 1)) ∧ ((IntKind.wrap .i64 (j_214 - 1)) : Int) < ((data_1l : Nat) : Int))) (V.ptr data_1 fun a228 =>
  ∃ s229, (∀ w227, S226 w227 → World.cell? w227 (Addr.add a228 ((Int.toNat (IntKind.wrap .i64 (j_214 - 1))) * 1)) = some (Value.string s229)) ∧
  V.when (decide ((0 : Int) ≤ j_214 ∧ (j_214 : Int) < ((data_1l : Nat) : Int))) (V.ptr data_1 fun a230 =>
  ∃ s231, (∀ w227, S226 w227 → World.cell? w227 (Addr.add a230 ((Int.toNat j_214) * 1)) = some (Value.string s231)) ∧
  V.when (decide ((0 : Int) ≤ j_214 ∧ (j_214 : Int) < ((data_1l : Nat) : Int))) (V.ptr data_1 fun a232 =>
  ∃ w233, Sem.run Try.prog (Instr.storeAt 9 (Value.pointer (some (Addr.add a232 ((Int.toNat j_214) * 1)))) (Value.string s229)) (World.drew w225) = .ok () w233 ∧
  S226 w233 ∧
  V.when (decide ((0 : Int) ≤ (IntKind.wrap .i64 (j_214 - 1)) ∧ ((IntKind.wrap .i64 (j_214 - 1)) : Int) < ((data_1l : Nat) : Int))) (V.ptr data_1 fun a234 =>
  ∃ w235, Sem.run Try.prog (Instr.storeAt 9 (Value.pointer (some (Addr.add a234 ((Int.toNat (IntKind.wrap .i64 (j_214 - 1))) * 1)))) (Value.string s231)) w233 = .ok () w235 ∧
  I212 (IntKind.wrap .i64 (j_214 + 1)) w235 ∧ μ213 (IntKind.wrap .i64 (j_214 + 1)) w235 < μ213 j_214 w216))))))))
  (I4 i_12 (IntKind.wrap .i64 (j_7 + 1)) w216 ∧ μ5 i_12 (IntKind.wrap .i64 (j_7 + 1)) w216 < μ5 i_6 j_7 w9)))
  (I4 i_12 (IntKind.wrap .i64 (j_7 + 1)) w139 ∧ μ5 i_12 (IntKind.wrap .i64 (j_7 + 1)) w139 < μ5 i_6 j_7 w9)))))))))))
  (R (Ending.returned (Value.bool false)) w9))) :
  Calls Try.prog 52 #[(Value.slice data_1 data_1l data_1c), (Value.int .i64 a_2), (Value.int .i64 b_3)] w R :=
  V.calls_of_R ⟨V.assoc [(0, [7, 8]), (1, [7]), (2, [9]), (3, [10])], V.assocP [(5, V.line [0, 1, 2, 3, 4, 5, 6, 7, 8, 9, 10, 11, 12, 13, 14, 15]), (11, V.line [0, 1, 2, 3, 4, 5, 6, 7, 8, 9, 10, 11, 12, 13, 14, 15, 16, 17]), (16, V.line [0, 1, 2, 3, 4, 5, 6, 7, 8, 9, 10]), (17, V.line [0, 1, 2, 3, 4, 5, 6, 7, 8, 9, 10, 11, 12, 13, 14, 15, 16, 17]), (22, V.line [0, 1, 2, 3, 4, 5, 6, 7, 8, 9, 10]), (23, V.line [0, 1, 2, 3, 4, 5, 6, 7, 8, 9, 10, 11, 12, 13, 14, 15, 16, 17])], V.assocC [], V.assocS [], ⟨[], true⟩⟩ Try.func52 rfl (Eq.mp (by kernel_rfl) h)

theorem cmp_Less_string__nf (x_1 : ByteArray) (y_2 : ByteArray) (w : World) (R : Ending → World → Prop) (h :
  Calls Try.prog 64 #[(Value.string x_1)] w fun e4 w5 =>
  ∃ b3, e4 = Ending.returned (Value.bool b3) ∧
  V.sel b3
  (Calls Try.prog 64 #[(Value.string y_2)] w5 fun e7 w8 =>
  ∃ b6, e7 = Ending.returned (Value.bool b6) ∧
  V.sel (!b6)
  (R (Ending.returned (Value.bool true)) w8)
  (R (Ending.returned (Value.bool (Op.bytesLess (ByteArray.toList x_1) (ByteArray.toList y_2)))) w8))
  (R (Ending.returned (Value.bool (Op.bytesLess (ByteArray.toList x_1) (ByteArray.toList y_2)))) w5)) :
  Calls Try.prog 53 #[(Value.string x_1), (Value.string y_2)] w R :=
  V.calls_of_R ⟨V.assoc [], V.assocP [], V.assocC [], V.assocS [], ⟨[], true⟩⟩ Try.func53 rfl (Eq.mp (by kernel_rfl) h)

end Go.Proofs.Ytcampkaenlohbaa
