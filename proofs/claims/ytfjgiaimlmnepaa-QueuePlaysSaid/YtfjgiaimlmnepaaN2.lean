/- Normal forms of the program's functions, printed by a program of mine; the kernel checks each. -/
import Derived.Test.YtfjgiaimlmnepaaProg
import Derived.Test.YtfjgiaimlmnepaaV2
set_option linter.unusedVariables false
set_option maxRecDepth 100000
namespace Go.Proofs.Ytfjgiaimlmnepaa
open Go

theorem berthref25_Restore_nf (rows_1 : Option Addr) (rows_1l : Nat) (rows_1c : Nat) (next_2 : Int) (w : World) (R : Ending → World → Prop) (h :
  ∀ w3, w3 = (World.alloc w (.cells #[(Value.slice none 0 0), (Value.int .i64 0)] 56)) →
  V.sel (decide (next_2 < 0))
  (∃ w4, Sem.run Try.prog (Instr.storeAt 56 (Value.pointer (some ⟨Array.size (World.heap w), 0, none⟩)) (Value.agg #[(Value.slice none 0 0), (Value.int .i64 0)])) w3 = .ok () w4 ∧
  ∃ A5, ∃ A5l, ∃ A5c, ∃ n6, V.cellsC (fun a_ x_ => World.cell? w4 a_ = some x_) ⟨Array.size (World.heap w), 0, none⟩ [(Value.slice A5 A5l A5c), (Value.int .i64 n6)] ∧
  R (Ending.returned (Value.tuple #[(Value.agg #[(Value.slice A5 A5l A5c), (Value.int .i64 n6)]), (Value.int .i64 255)])) w4)
  (V.sel (decide (next_2 > 1099511627776))
  (∃ w7, Sem.run Try.prog (Instr.storeAt 56 (Value.pointer (some ⟨Array.size (World.heap w), 0, none⟩)) (Value.agg #[(Value.slice none 0 0), (Value.int .i64 0)])) w3 = .ok () w7 ∧
  ∃ A8, ∃ A8l, ∃ A8c, ∃ n9, V.cellsC (fun a_ x_ => World.cell? w7 a_ = some x_) ⟨Array.size (World.heap w), 0, none⟩ [(Value.slice A8 A8l A8c), (Value.int .i64 n9)] ∧
  R (Ending.returned (Value.tuple #[(Value.agg #[(Value.slice A8 A8l A8c), (Value.int .i64 n9)]), (Value.int .i64 255)])) w7)
  (V.sel (decide (((rows_1l : Nat) : Int) > 2048))
  (∃ w10, Sem.run Try.prog (Instr.storeAt 56 (Value.pointer (some ⟨Array.size (World.heap w), 0, none⟩)) (Value.agg #[(Value.slice none 0 0), (Value.int .i64 0)])) w3 = .ok () w10 ∧
  ∃ A11, ∃ A11l, ∃ A11c, ∃ n12, V.cellsC (fun a_ x_ => World.cell? w10 a_ = some x_) ⟨Array.size (World.heap w), 0, none⟩ [(Value.slice A11 A11l A11c), (Value.int .i64 n12)] ∧
  R (Ending.returned (Value.tuple #[(Value.agg #[(Value.slice A11 A11l A11c), (Value.int .i64 n12)]), (Value.int .i64 255)])) w10)
  (∃ I13 : Int → World → Prop, ∃ μ14 : Int → World → Nat, I13 0 w3 ∧
  ∀ i_15 (j16 : Nat → Value) (w17 : World), I13 i_15 w17 →
  (V.sel (decide (i_15 < ((rows_1l : Nat) : Int)))
  (V.when (decide ((0 : Int) ≤ i_15 ∧ (i_15 : Int) < ((rows_1l : Nat) : Int))) (V.ptr rows_1 fun a18 =>
  ∃ s19, ∃ n20, ∃ n21, ∃ n22, ∃ n23, ∃ b24, V.cellsC (fun a_ x_ => World.cell? w17 a_ = some x_) (Addr.add a18 ((Int.toNat i_15) * 6)) [(Value.string s19), (Value.int .i64 n20), (Value.int .i64 n21), (Value.int .i64 n22), (Value.int .i64 n23), (Value.bool b24)] ∧
  Calls Try.prog 51 #[(Value.agg #[(Value.string s19), (Value.int .i64 n20), (Value.int .i64 n21), (Value.int .i64 n22), (Value.int .i64 n23), (Value.bool b24)]), (Value.int .i64 next_2)] w17 fun e26 w27 =>
  ∃ b25, e26 = Ending.returned (Value.bool b25) ∧
  V.sel (!b25)
  (∃ w28, Sem.run Try.prog (Instr.storeAt 56 (Value.pointer (some ⟨Array.size (World.heap w), 0, none⟩)) (Value.agg #[(Value.slice none 0 0), (Value.int .i64 0)])) w27 = .ok () w28 ∧
  ∃ A29, ∃ A29l, ∃ A29c, ∃ n30, V.cellsC (fun a_ x_ => World.cell? w28 a_ = some x_) ⟨Array.size (World.heap w), 0, none⟩ [(Value.slice A29 A29l A29c), (Value.int .i64 n30)] ∧
  R (Ending.returned (Value.tuple #[(Value.agg #[(Value.slice A29 A29l A29c), (Value.int .i64 n30)]), (Value.int .i64 255)])) w28)
  (∃ S31 : World → Prop, S31 (World.drew w27) ∧
  V.sel (decide (i_15 > 0))
  (V.when (decide ((0 : Int) ≤ (IntKind.wrap .i64 (i_15 - 1)) ∧ ((IntKind.wrap .i64 (i_15 - 1)) : Int) < ((rows_1l : Nat) : Int))) (V.ptr rows_1 fun a33 =>
  ∃ s34, ∃ n35, ∃ n36, ∃ n37, ∃ n38, ∃ b39, V.cellsC (fun a_ x_ => ∀ w32, S31 w32 → World.cell? w32 a_ = some x_) (Addr.add a33 ((Int.toNat (IntKind.wrap .i64 (i_15 - 1))) * 6)) [(Value.string s34), (Value.int .i64 n35), (Value.int .i64 n36), (Value.int .i64 n37), (Value.int .i64 n38), (Value.bool b39)] ∧
  V.when (decide ((0 : Int) ≤ i_15 ∧ (i_15 : Int) < ((rows_1l : Nat) : Int))) (V.ptr rows_1 fun a40 =>
  ∃ s41, ∃ n42, ∃ n43, ∃ n44, ∃ n45, ∃ b46, V.cellsC (fun a_ x_ => ∀ w32, S31 w32 → World.cell? w32 a_ = some x_) (Addr.add a40 ((Int.toNat i_15) * 6)) [(Value.string s41), (Value.int .i64 n42), (Value.int .i64 n43), (Value.int .i64 n44), (Value.int .i64 n45), (Value.bool b46)] ∧
  Calls Try.prog 52 #[(Value.agg #[(Value.string s34), (Value.int .i64 n35), (Value.int .i64 n36), (Value.int .i64 n37), (Value.int .i64 n38), (Value.bool b39)]), (Value.agg #[(Value.string s41), (Value.int .i64 n42), (Value.int .i64 n43), (Value.int .i64 n44), (Value.int .i64 n45), (Value.bool b46)])] (World.drew w27) fun e48 w49 =>
  ∃ b47, e48 = Ending.returned (Value.bool b47) ∧
  S31 w49 ∧
  V.sel (!b47)
  (∃ w50, Sem.run Try.prog (Instr.storeAt 56 (Value.pointer (some ⟨Array.size (World.heap w), 0, none⟩)) (Value.agg #[(Value.slice none 0 0), (Value.int .i64 0)])) w49 = .ok () w50 ∧
  ∃ A51, ∃ A51l, ∃ A51c, ∃ n52, V.cellsC (fun a_ x_ => World.cell? w50 a_ = some x_) ⟨Array.size (World.heap w), 0, none⟩ [(Value.slice A51 A51l A51c), (Value.int .i64 n52)] ∧
  R (Ending.returned (Value.tuple #[(Value.agg #[(Value.slice A51 A51l A51c), (Value.int .i64 n52)]), (Value.int .i64 255)])) w50)
  (∃ I53 : Int → World → Prop, ∃ μ54 : Int → World → Nat, I53 0 w49 ∧
  ∀ j_55 (j56 : Nat → Value) (w57 : World), I53 j_55 w57 →
  (V.sel (decide (j_55 < i_15))
  (V.when (decide ((0 : Int) ≤ j_55 ∧ (j_55 : Int) < ((rows_1l : Nat) : Int))) (V.ptr rows_1 fun a58 =>
  ∃ s59, World.cell? w57 (Addr.add (Addr.add a58 ((Int.toNat j_55) * 6)) 0) = some (Value.string s59) ∧
  V.when (decide ((0 : Int) ≤ i_15 ∧ (i_15 : Int) < ((rows_1l : Nat) : Int))) (V.ptr rows_1 fun a60 =>
  ∃ s61, World.cell? w57 (Addr.add (Addr.add a60 ((Int.toNat i_15) * 6)) 0) = some (Value.string s61) ∧
  V.sel (ByteArray.toList s59 == ByteArray.toList s61)
  (∃ w62, Sem.run Try.prog (Instr.storeAt 56 (Value.pointer (some ⟨Array.size (World.heap w), 0, none⟩)) (Value.agg #[(Value.slice none 0 0), (Value.int .i64 0)])) (World.drew w57) = .ok () w62 ∧
  ∃ A63, ∃ A63l, ∃ A63c, ∃ n64, V.cellsC (fun a_ x_ => World.cell? w62 a_ = some x_) ⟨Array.size (World.heap w), 0, none⟩ [(Value.slice A63 A63l A63c), (Value.int .i64 n64)] ∧
  R (Ending.returned (Value.tuple #[(Value.agg #[(Value.slice A63 A63l A63c), (Value.int .i64 n64)]), (Value.int .i64 255)])) w62)
  (V.when (decide ((0 : Int) ≤ j_55 ∧ (j_55 : Int) < ((rows_1l : Nat) : Int))) (V.ptr rows_1 fun a65 =>
  ∃ n66, World.cell? w57 (Addr.add (Addr.add a65 ((Int.toNat j_55) * 6)) 2) = some (Value.int .i64 n66) ∧
  V.when (decide ((0 : Int) ≤ i_15 ∧ (i_15 : Int) < ((rows_1l : Nat) : Int))) (V.ptr rows_1 fun a67 =>
  ∃ n68, World.cell? w57 (Addr.add (Addr.add a67 ((Int.toNat i_15) * 6)) 2) = some (Value.int .i64 n68) ∧
  V.sel (n66 == n68)
  (∃ w69, Sem.run Try.prog (Instr.storeAt 56 (Value.pointer (some ⟨Array.size (World.heap w), 0, none⟩)) (Value.agg #[(Value.slice none 0 0), (Value.int .i64 0)])) (World.drew w57) = .ok () w69 ∧
  ∃ A70, ∃ A70l, ∃ A70c, ∃ n71, V.cellsC (fun a_ x_ => World.cell? w69 a_ = some x_) ⟨Array.size (World.heap w), 0, none⟩ [(Value.slice A70 A70l A70c), (Value.int .i64 n71)] ∧
  R (Ending.returned (Value.tuple #[(Value.agg #[(Value.slice A70 A70l A70c), (Value.int .i64 n71)]), (Value.int .i64 255)])) w69)
  (I53 (IntKind.wrap .i64 (j_55 + 1)) (World.drew w57) ∧ μ54 (IntKind.wrap .i64 (j_55 + 1)) (World.drew w57) < μ54 j_55 w57)))))))
  (I13 (IntKind.wrap .i64 (i_15 + 1)) w57 ∧ μ14 (IntKind.wrap .i64 (i_15 + 1)) w57 < μ14 i_15 w17))))))
  (∃ I72 : Int → World → Prop, ∃ μ73 : Int → World → Nat, I72 0 (World.drew w27) ∧
  ∀ j_74 (j75 : Nat → Value) (w76 : World), I72 j_74 w76 →
  (V.sel (decide (j_74 < i_15))
  (V.when (decide ((0 : Int) ≤ j_74 ∧ (j_74 : Int) < ((rows_1l : Nat) : Int))) (V.ptr rows_1 fun a77 =>
  ∃ s78, World.cell? w76 (Addr.add (Addr.add a77 ((Int.toNat j_74) * 6)) 0) = some (Value.string s78) ∧
  V.when (decide ((0 : Int) ≤ i_15 ∧ (i_15 : Int) < ((rows_1l : Nat) : Int))) (V.ptr rows_1 fun a79 =>
  ∃ s80, World.cell? w76 (Addr.add (Addr.add a79 ((Int.toNat i_15) * 6)) 0) = some (Value.string s80) ∧
  V.sel (ByteArray.toList s78 == ByteArray.toList s80)
  (∃ w81, Sem.run Try.prog (Instr.storeAt 56 (Value.pointer (some ⟨Array.size (World.heap w), 0, none⟩)) (Value.agg #[(Value.slice none 0 0), (Value.int .i64 0)])) (World.drew w76) = .ok () w81 ∧
  ∃ A82, ∃ A82l, ∃ A82c, ∃ n83, V.cellsC (fun a_ x_ => World.cell? w81 a_ = some x_) ⟨Array.size (World.heap w), 0, none⟩ [(Value.slice A82 A82l A82c), (Value.int .i64 n83)] ∧
  R (Ending.returned (Value.tuple #[(Value.agg #[(Value.slice A82 A82l A82c), (Value.int .i64 n83)]), (Value.int .i64 255)])) w81)
  (V.when (decide ((0 : Int) ≤ j_74 ∧ (j_74 : Int) < ((rows_1l : Nat) : Int))) (V.ptr rows_1 fun a84 =>
  ∃ n85, World.cell? w76 (Addr.add (Addr.add a84 ((Int.toNat j_74) * 6)) 2) = some (Value.int .i64 n85) ∧
  V.when (decide ((0 : Int) ≤ i_15 ∧ (i_15 : Int) < ((rows_1l : Nat) : Int))) (V.ptr rows_1 fun a86 =>
  ∃ n87, World.cell? w76 (Addr.add (Addr.add a86 ((Int.toNat i_15) * 6)) 2) = some (Value.int .i64 n87) ∧
  V.sel (n85 == n87)
  (∃ w88, Sem.run Try.prog (Instr.storeAt 56 (Value.pointer (some ⟨Array.size (World.heap w), 0, none⟩)) (Value.agg #[(Value.slice none 0 0), (Value.int .i64 0)])) (World.drew w76) = .ok () w88 ∧
  ∃ A89, ∃ A89l, ∃ A89c, ∃ n90, V.cellsC (fun a_ x_ => World.cell? w88 a_ = some x_) ⟨Array.size (World.heap w), 0, none⟩ [(Value.slice A89 A89l A89c), (Value.int .i64 n90)] ∧
  R (Ending.returned (Value.tuple #[(Value.agg #[(Value.slice A89 A89l A89c), (Value.int .i64 n90)]), (Value.int .i64 255)])) w88)
  (I72 (IntKind.wrap .i64 (j_74 + 1)) (World.drew w76) ∧ μ73 (IntKind.wrap .i64 (j_74 + 1)) (World.drew w76) < μ73 j_74 w76)))))))
  (I13 (IntKind.wrap .i64 (i_15 + 1)) w76 ∧ μ14 (IntKind.wrap .i64 (i_15 + 1)) w76 < μ14 i_15 w17))))))
  (∀ w91, w91 = (World.alloc w17 (.cells #[] 34)) →
  ∃ A92, ∃ A92l, ∃ A92c, ∃ w93, Sem.run Try.prog (Builtin.append_ #[29, 29] 29 #[(Value.slice (some ⟨Array.size (World.heap w17), 0, none⟩) 0 0), (Value.slice rows_1 rows_1l rows_1c)]) w91 = .ok (Value.slice A92 A92l A92c) w93 ∧
  ∃ w94, Sem.run Try.prog (Instr.storeAt 56 (Value.pointer (some ⟨Array.size (World.heap w), 0, none⟩)) (Value.agg #[(Value.slice A92 A92l A92c), (Value.int .i64 next_2)])) w93 = .ok () w94 ∧
  ∃ A95, ∃ A95l, ∃ A95c, ∃ n96, V.cellsC (fun a_ x_ => World.cell? w94 a_ = some x_) ⟨Array.size (World.heap w), 0, none⟩ [(Value.slice A95 A95l A95c), (Value.int .i64 n96)] ∧
  R (Ending.returned (Value.tuple #[(Value.agg #[(Value.slice A95 A95l A95c), (Value.int .i64 n96)]), (Value.int .i64 0)])) w94)))))) :
  Calls Try.prog 43 #[(Value.slice rows_1 rows_1l rows_1c), (Value.int .i64 next_2)] w R :=
  V.calls_of_R ⟨V.assoc [(0, [6]), (1, [8])], V.assocP [(9, V.line [0, 1, 2, 3, 4, 5, 6, 7, 8, 9, 10, 11, 12, 13, 14]), (14, V.line [0, 1, 2, 3, 4, 5, 6, 7, 8, 9, 10, 11, 12, 13, 14, 15, 16, 17, 18, 19, 20, 21, 22, 23])], V.assocC [], V.assocS [], ⟨[], true⟩⟩ Try.func43 rfl (Eq.mp (by kernel_rfl) h)

theorem berthref25_Push_nf (q_1 : Option Addr) (q_1l : Nat) (q_1c : Nat) (q_2 : Int) (name_3 : ByteArray) (priority_4 : Int) (w : World) (R : Ending → World → Prop) (h :
  ∀ w5, w5 = (World.alloc w (.cells #[(Value.slice q_1 q_1l q_1c), (Value.int .i64 q_2)] 56)) →
  ∀ w6, w6 = (World.alloc w5 (.cells #[(Value.slice none 0 0), (Value.int .i64 0)] 56)) →
  ∃ A7, ∃ A7l, ∃ A7c, World.cell? w6 (Addr.add ⟨Array.size (World.heap w), 0, none⟩ 0) = some (Value.slice A7 A7l A7c) ∧
  Calls Try.prog 53 #[(Value.slice A7 A7l A7c), (Value.string name_3)] w6 fun e9 w10 =>
  ∃ n8, e9 = Ending.returned (Value.int .i64 n8) ∧
  V.sel (decide (n8 ≥ 0))
  (∃ A11, ∃ A11l, ∃ A11c, ∃ n12, V.cellsC (fun a_ x_ => World.cell? w10 a_ = some x_) ⟨Array.size (World.heap w), 0, none⟩ [(Value.slice A11 A11l A11c), (Value.int .i64 n12)] ∧
  ∃ w13, Sem.run Try.prog (Instr.storeAt 56 (Value.pointer (some ⟨Array.size (World.heap w5), 0, none⟩)) (Value.agg #[(Value.slice A11 A11l A11c), (Value.int .i64 n12)])) w10 = .ok () w13 ∧
  ∃ A14, ∃ A14l, ∃ A14c, ∃ n15, V.cellsC (fun a_ x_ => World.cell? w13 a_ = some x_) ⟨Array.size (World.heap w5), 0, none⟩ [(Value.slice A14 A14l A14c), (Value.int .i64 n15)] ∧
  R (Ending.returned (Value.tuple #[(Value.agg #[(Value.slice A14 A14l A14c), (Value.int .i64 n15)]), (Value.int .i64 250)])) w13)
  (∃ A16, ∃ A16l, ∃ A16c, World.cell? w10 (Addr.add ⟨Array.size (World.heap w), 0, none⟩ 0) = some (Value.slice A16 A16l A16c) ∧
  V.sel (decide (((A16l : Nat) : Int) ≥ 2048))
  (∃ A17, ∃ A17l, ∃ A17c, ∃ n18, V.cellsC (fun a_ x_ => World.cell? w10 a_ = some x_) ⟨Array.size (World.heap w), 0, none⟩ [(Value.slice A17 A17l A17c), (Value.int .i64 n18)] ∧
  ∃ w19, Sem.run Try.prog (Instr.storeAt 56 (Value.pointer (some ⟨Array.size (World.heap w5), 0, none⟩)) (Value.agg #[(Value.slice A17 A17l A17c), (Value.int .i64 n18)])) w10 = .ok () w19 ∧
  ∃ A20, ∃ A20l, ∃ A20c, ∃ n21, V.cellsC (fun a_ x_ => World.cell? w19 a_ = some x_) ⟨Array.size (World.heap w5), 0, none⟩ [(Value.slice A20 A20l A20c), (Value.int .i64 n21)] ∧
  R (Ending.returned (Value.tuple #[(Value.agg #[(Value.slice A20 A20l A20c), (Value.int .i64 n21)]), (Value.int .i64 251)])) w19)
  (∃ n22, World.cell? w10 (Addr.add ⟨Array.size (World.heap w), 0, none⟩ 1) = some (Value.int .i64 n22) ∧
  V.sel (decide (n22 ≥ 1099511627776))
  (∃ A23, ∃ A23l, ∃ A23c, ∃ n24, V.cellsC (fun a_ x_ => World.cell? w10 a_ = some x_) ⟨Array.size (World.heap w), 0, none⟩ [(Value.slice A23 A23l A23c), (Value.int .i64 n24)] ∧
  ∃ w25, Sem.run Try.prog (Instr.storeAt 56 (Value.pointer (some ⟨Array.size (World.heap w5), 0, none⟩)) (Value.agg #[(Value.slice A23 A23l A23c), (Value.int .i64 n24)])) w10 = .ok () w25 ∧
  ∃ A26, ∃ A26l, ∃ A26c, ∃ n27, V.cellsC (fun a_ x_ => World.cell? w25 a_ = some x_) ⟨Array.size (World.heap w5), 0, none⟩ [(Value.slice A26 A26l A26c), (Value.int .i64 n27)] ∧
  R (Ending.returned (Value.tuple #[(Value.agg #[(Value.slice A26 A26l A26c), (Value.int .i64 n27)]), (Value.int .i64 253)])) w25)
  (∃ n28, World.cell? w10 (Addr.add ⟨Array.size (World.heap w), 0, none⟩ 1) = some (Value.int .i64 n28) ∧
  ∀ w29, w29 = (World.alloc w10 (.cells #[(Value.string ByteArray.empty), (Value.int .i64 0), (Value.int .i64 0), (Value.int .i64 0), (Value.int .i64 0), (Value.bool false)] 34)) →
  ∃ w30, Sem.run Try.prog (Instr.storeAt 34 (Value.pointer (some ⟨Array.size (World.heap w10), 0, none⟩)) (Value.agg #[(Value.string name_3), (Value.int .i64 priority_4), (Value.int .i64 n28), (Value.int .i64 0), (Value.int .i64 0), (Value.bool false)])) w29 = .ok () w30 ∧
  ∃ I31 : Option Addr → Nat → Nat → Int → World → Prop, ∃ μ32 : Option Addr → Nat → Nat → Int → World → Nat, I31 none 0 0 0 w30 ∧
  ∀ rows_33 rows_33l rows_33c i_34 (j35 : Nat → Value) (w36 : World), I31 rows_33 rows_33l rows_33c i_34 w36 →
  (∃ S37 : World → Prop, S37 (World.drew w36) ∧
  ∃ A39, ∃ A39l, ∃ A39c, (∀ w38, S37 w38 → World.cell? w38 (Addr.add ⟨Array.size (World.heap w), 0, none⟩ 0) = some (Value.slice A39 A39l A39c)) ∧
  V.sel (decide (i_34 < ((A39l : Nat) : Int)))
  (∃ A40, ∃ A40l, ∃ A40c, (∀ w38, S37 w38 → World.cell? w38 (Addr.add ⟨Array.size (World.heap w), 0, none⟩ 0) = some (Value.slice A40 A40l A40c)) ∧
  V.when (decide ((0 : Int) ≤ i_34 ∧ (i_34 : Int) < ((A40l : Nat) : Int))) (V.ptr A40 fun a41 =>
  ∃ s42, ∃ n43, ∃ n44, ∃ n45, ∃ n46, ∃ b47, V.cellsC (fun a_ x_ => ∀ w38, S37 w38 → World.cell? w38 a_ = some x_) (Addr.add a41 ((Int.toNat i_34) * 6)) [(Value.string s42), (Value.int .i64 n43), (Value.int .i64 n44), (Value.int .i64 n45), (Value.int .i64 n46), (Value.bool b47)] ∧
  ∃ s48, ∃ n49, ∃ n50, ∃ n51, ∃ n52, ∃ b53, V.cellsC (fun a_ x_ => ∀ w38, S37 w38 → World.cell? w38 a_ = some x_) ⟨Array.size (World.heap w10), 0, none⟩ [(Value.string s48), (Value.int .i64 n49), (Value.int .i64 n50), (Value.int .i64 n51), (Value.int .i64 n52), (Value.bool b53)] ∧
  Calls Try.prog 52 #[(Value.agg #[(Value.string s42), (Value.int .i64 n43), (Value.int .i64 n44), (Value.int .i64 n45), (Value.int .i64 n46), (Value.bool b47)]), (Value.agg #[(Value.string s48), (Value.int .i64 n49), (Value.int .i64 n50), (Value.int .i64 n51), (Value.int .i64 n52), (Value.bool b53)])] (World.drew w36) fun e55 w56 =>
  ∃ b54, e55 = Ending.returned (Value.bool b54) ∧
  S37 w56 ∧
  V.sel b54
  (∃ A57, ∃ A57l, ∃ A57c, World.cell? w56 (Addr.add ⟨Array.size (World.heap w), 0, none⟩ 0) = some (Value.slice A57 A57l A57c) ∧
  V.when (decide ((0 : Int) ≤ i_34 ∧ (i_34 : Int) < ((A57l : Nat) : Int))) (V.ptr A57 fun a58 =>
  ∃ s59, ∃ n60, ∃ n61, ∃ n62, ∃ n63, ∃ b64, V.cellsC (fun a_ x_ => World.cell? w56 a_ = some x_) (Addr.add a58 ((Int.toNat i_34) * 6)) [(Value.string s59), (Value.int .i64 n60), (Value.int .i64 n61), (Value.int .i64 n62), (Value.int .i64 n63), (Value.bool b64)] ∧
  ∀ w65, w65 = (World.alloc w56 (.cells #[(Value.string s59), (Value.int .i64 n60), (Value.int .i64 n61), (Value.int .i64 n62), (Value.int .i64 n63), (Value.bool b64)] 34)) →
  ∃ A66, ∃ A66l, ∃ A66c, ∃ w67, Sem.run Try.prog (Builtin.append_ #[29, 29] 29 #[(Value.slice rows_33 rows_33l rows_33c), (Value.slice (some ⟨Array.size (World.heap w56), 0, none⟩) 1 1)]) w65 = .ok (Value.slice A66 A66l A66c) w67 ∧
  I31 A66 A66l A66c (IntKind.wrap .i64 (i_34 + 1)) w67 ∧ μ32 A66 A66l A66c (IntKind.wrap .i64 (i_34 + 1)) w67 < μ32 rows_33 rows_33l rows_33c i_34 w36))
  (∃ s68, ∃ n69, ∃ n70, ∃ n71, ∃ n72, ∃ b73, V.cellsC (fun a_ x_ => World.cell? w56 a_ = some x_) ⟨Array.size (World.heap w10), 0, none⟩ [(Value.string s68), (Value.int .i64 n69), (Value.int .i64 n70), (Value.int .i64 n71), (Value.int .i64 n72), (Value.bool b73)] ∧
  ∀ w74, w74 = (World.alloc w56 (.cells #[(Value.string s68), (Value.int .i64 n69), (Value.int .i64 n70), (Value.int .i64 n71), (Value.int .i64 n72), (Value.bool b73)] 34)) →
  ∃ A75, ∃ A75l, ∃ A75c, ∃ w76, Sem.run Try.prog (Builtin.append_ #[29, 29] 29 #[(Value.slice rows_33 rows_33l rows_33c), (Value.slice (some ⟨Array.size (World.heap w56), 0, none⟩) 1 1)]) w74 = .ok (Value.slice A75 A75l A75c) w76 ∧
  ∃ A77, ∃ A77l, ∃ A77c, World.cell? w76 (Addr.add ⟨Array.size (World.heap w), 0, none⟩ 0) = some (Value.slice A77 A77l A77c) ∧
  V.when (decide ((0 : Int) ≤ i_34 ∧ (i_34 : Int) ≤ ((A77l : Nat) : Int))) (∃ A78, ∃ A78l, ∃ A78c, ∃ w79, Sem.run Try.prog (Builtin.append_ #[29, 29] 29 #[(Value.slice A75 A75l A75c), (Value.slice (V.cut A77 A77c (Int.toNat i_34) 6) (A77l - (Int.toNat i_34)) (A77c - (Int.toNat i_34)))]) w76 = .ok (Value.slice A78 A78l A78c) w79 ∧
  ∃ n80, World.cell? w79 (Addr.add ⟨Array.size (World.heap w), 0, none⟩ 1) = some (Value.int .i64 n80) ∧
  ∃ w81, Sem.run Try.prog (Instr.storeAt 56 (Value.pointer (some ⟨Array.size (World.heap w5), 0, none⟩)) (Value.agg #[(Value.slice A78 A78l A78c), (Value.int .i64 (IntKind.wrap .i64 (n80 + 1)))])) w79 = .ok () w81 ∧
  ∃ A82, ∃ A82l, ∃ A82c, ∃ n83, V.cellsC (fun a_ x_ => World.cell? w81 a_ = some x_) ⟨Array.size (World.heap w5), 0, none⟩ [(Value.slice A82 A82l A82c), (Value.int .i64 n83)] ∧
  R (Ending.returned (Value.tuple #[(Value.agg #[(Value.slice A82 A82l A82c), (Value.int .i64 n83)]), (Value.int .i64 0)])) w81))))
  (∃ s84, ∃ n85, ∃ n86, ∃ n87, ∃ n88, ∃ b89, V.cellsC (fun a_ x_ => World.cell? (World.drew w36) a_ = some x_) ⟨Array.size (World.heap w10), 0, none⟩ [(Value.string s84), (Value.int .i64 n85), (Value.int .i64 n86), (Value.int .i64 n87), (Value.int .i64 n88), (Value.bool b89)] ∧
  ∀ w90, w90 = (World.alloc (World.drew w36) (.cells #[(Value.string s84), (Value.int .i64 n85), (Value.int .i64 n86), (Value.int .i64 n87), (Value.int .i64 n88), (Value.bool b89)] 34)) →
  ∃ A91, ∃ A91l, ∃ A91c, ∃ w92, Sem.run Try.prog (Builtin.append_ #[29, 29] 29 #[(Value.slice rows_33 rows_33l rows_33c), (Value.slice (some ⟨Array.size (World.heap (World.drew w36)), 0, none⟩) 1 1)]) w90 = .ok (Value.slice A91 A91l A91c) w92 ∧
  ∃ A93, ∃ A93l, ∃ A93c, World.cell? w92 (Addr.add ⟨Array.size (World.heap w), 0, none⟩ 0) = some (Value.slice A93 A93l A93c) ∧
  V.when (decide ((0 : Int) ≤ i_34 ∧ (i_34 : Int) ≤ ((A93l : Nat) : Int))) (∃ A94, ∃ A94l, ∃ A94c, ∃ w95, Sem.run Try.prog (Builtin.append_ #[29, 29] 29 #[(Value.slice A91 A91l A91c), (Value.slice (V.cut A93 A93c (Int.toNat i_34) 6) (A93l - (Int.toNat i_34)) (A93c - (Int.toNat i_34)))]) w92 = .ok (Value.slice A94 A94l A94c) w95 ∧
  ∃ n96, World.cell? w95 (Addr.add ⟨Array.size (World.heap w), 0, none⟩ 1) = some (Value.int .i64 n96) ∧
  ∃ w97, Sem.run Try.prog (Instr.storeAt 56 (Value.pointer (some ⟨Array.size (World.heap w5), 0, none⟩)) (Value.agg #[(Value.slice A94 A94l A94c), (Value.int .i64 (IntKind.wrap .i64 (n96 + 1)))])) w95 = .ok () w97 ∧
  ∃ A98, ∃ A98l, ∃ A98c, ∃ n99, V.cellsC (fun a_ x_ => World.cell? w97 a_ = some x_) ⟨Array.size (World.heap w5), 0, none⟩ [(Value.slice A98 A98l A98c), (Value.int .i64 n99)] ∧
  R (Ending.returned (Value.tuple #[(Value.agg #[(Value.slice A98 A98l A98c), (Value.int .i64 n99)]), (Value.int .i64 0)])) w97))))))) :
  Calls Try.prog 44 #[(Value.agg #[(Value.slice q_1 q_1l q_1c), (Value.int .i64 q_2)]), (Value.string name_3), (Value.int .i64 priority_4)] w R :=
  V.calls_of_R ⟨V.assoc [(0, [9, 10])], V.assocP [(10, V.line [0, 1, 2, 3, 4, 5, 6, 7, 8, 9, 10, 11, 12, 13])], V.assocC [], V.assocS [], ⟨[], true⟩⟩ Try.func44 rfl (Eq.mp (by kernel_rfl) h)

theorem berthref25_Take_nf (q_1 : Option Addr) (q_1l : Nat) (q_1c : Nat) (q_2 : Int) (name_3 : ByteArray) (w : World) (R : Ending → World → Prop) (h :
  ∀ w4, w4 = (World.alloc w (.cells #[(Value.slice q_1 q_1l q_1c), (Value.int .i64 q_2)] 56)) →
  ∀ w5, w5 = (World.alloc w4 (.cells #[(Value.slice none 0 0), (Value.int .i64 0)] 56)) →
  ∀ w6, w6 = (World.alloc w5 (.cells #[(Value.string ByteArray.empty), (Value.int .i64 0), (Value.int .i64 0), (Value.int .i64 0), (Value.int .i64 0), (Value.bool false)] 34)) →
  ∃ A7, ∃ A7l, ∃ A7c, World.cell? w6 (Addr.add ⟨Array.size (World.heap w), 0, none⟩ 0) = some (Value.slice A7 A7l A7c) ∧
  Calls Try.prog 53 #[(Value.slice A7 A7l A7c), (Value.string name_3)] w6 fun e9 w10 =>
  ∃ n8, e9 = Ending.returned (Value.int .i64 n8) ∧
  V.sel (decide (n8 < 0))
  (∃ A11, ∃ A11l, ∃ A11c, ∃ n12, V.cellsC (fun a_ x_ => World.cell? w10 a_ = some x_) ⟨Array.size (World.heap w), 0, none⟩ [(Value.slice A11 A11l A11c), (Value.int .i64 n12)] ∧
  ∃ w13, Sem.run Try.prog (Instr.storeAt 56 (Value.pointer (some ⟨Array.size (World.heap w4), 0, none⟩)) (Value.agg #[(Value.slice A11 A11l A11c), (Value.int .i64 n12)])) w10 = .ok () w13 ∧
  ∃ w14, Sem.run Try.prog (Instr.storeAt 34 (Value.pointer (some ⟨Array.size (World.heap w5), 0, none⟩)) (Value.agg #[(Value.string ByteArray.empty), (Value.int .i64 0), (Value.int .i64 0), (Value.int .i64 0), (Value.int .i64 0), (Value.bool false)])) w13 = .ok () w14 ∧
  ∃ A15, ∃ A15l, ∃ A15c, ∃ n16, V.cellsC (fun a_ x_ => World.cell? w14 a_ = some x_) ⟨Array.size (World.heap w4), 0, none⟩ [(Value.slice A15 A15l A15c), (Value.int .i64 n16)] ∧
  ∃ s17, ∃ n18, ∃ n19, ∃ n20, ∃ n21, ∃ b22, V.cellsC (fun a_ x_ => World.cell? w14 a_ = some x_) ⟨Array.size (World.heap w5), 0, none⟩ [(Value.string s17), (Value.int .i64 n18), (Value.int .i64 n19), (Value.int .i64 n20), (Value.int .i64 n21), (Value.bool b22)] ∧
  R (Ending.returned (Value.tuple #[(Value.agg #[(Value.slice A15 A15l A15c), (Value.int .i64 n16)]), (Value.agg #[(Value.string s17), (Value.int .i64 n18), (Value.int .i64 n19), (Value.int .i64 n20), (Value.int .i64 n21), (Value.bool b22)]), (Value.int .i64 252)])) w14)
  (∀ w23, w23 = (World.alloc w10 (.cells #[] 34)) →
  ∃ A24, ∃ A24l, ∃ A24c, World.cell? w23 (Addr.add ⟨Array.size (World.heap w), 0, none⟩ 0) = some (Value.slice A24 A24l A24c) ∧
  V.when (decide ((0 : Int) ≤ n8 ∧ (n8 : Int) ≤ ((A24c : Nat) : Int))) (∃ A25, ∃ A25l, ∃ A25c, ∃ w26, Sem.run Try.prog (Builtin.append_ #[29, 29] 29 #[(Value.slice (some ⟨Array.size (World.heap w10), 0, none⟩) 0 0), (Value.slice (V.cut A24 A24c 0 6) ((Int.toNat n8) - 0) (A24c - 0))]) w23 = .ok (Value.slice A25 A25l A25c) w26 ∧
  ∃ A27, ∃ A27l, ∃ A27c, World.cell? w26 (Addr.add ⟨Array.size (World.heap w), 0, none⟩ 0) = some (Value.slice A27 A27l A27c) ∧
  V.when (decide ((0 : Int) ≤ (IntKind.wrap .i64 (n8 + 1)) ∧ ((IntKind.wrap .i64 (n8 + 1)) : Int) ≤ ((A27l : Nat) : Int))) (∃ A28, ∃ A28l, ∃ A28c, ∃ w29, Sem.run Try.prog (Builtin.append_ #[29, 29] 29 #[(Value.slice A25 A25l A25c), (Value.slice (V.cut A27 A27c (Int.toNat (IntKind.wrap .i64 (n8 + 1))) 6) (A27l - (Int.toNat (IntKind.wrap .i64 (n8 + 1)))) (A27c - (Int.toNat (IntKind.wrap .i64 (n8 + 1)))))]) w26 = .ok (Value.slice A28 A28l A28c) w29 ∧
  ∃ S30 : World → Prop, S30 (World.drew w29) ∧
  ∃ n32, (∀ w31, S30 w31 → World.cell? w31 (Addr.add ⟨Array.size (World.heap w), 0, none⟩ 1) = some (Value.int .i64 n32)) ∧
  ∃ A33, ∃ A33l, ∃ A33c, (∀ w31, S30 w31 → World.cell? w31 (Addr.add ⟨Array.size (World.heap w), 0, none⟩ 0) = some (Value.slice A33 A33l A33c)) ∧
  V.when (decide ((0 : Int) ≤ n8 ∧ (n8 : Int) < ((A33l : Nat) : Int))) (V.ptr A33 fun a34 =>
  ∃ s35, ∃ n36, ∃ n37, ∃ n38, ∃ n39, ∃ b40, V.cellsC (fun a_ x_ => ∀ w31, S30 w31 → World.cell? w31 a_ = some x_) (Addr.add a34 ((Int.toNat n8) * 6)) [(Value.string s35), (Value.int .i64 n36), (Value.int .i64 n37), (Value.int .i64 n38), (Value.int .i64 n39), (Value.bool b40)] ∧
  ∃ w41, Sem.run Try.prog (Instr.storeAt 56 (Value.pointer (some ⟨Array.size (World.heap w4), 0, none⟩)) (Value.agg #[(Value.slice A28 A28l A28c), (Value.int .i64 n32)])) (World.drew w29) = .ok () w41 ∧
  S30 w41 ∧
  ∃ w42, Sem.run Try.prog (Instr.storeAt 34 (Value.pointer (some ⟨Array.size (World.heap w5), 0, none⟩)) (Value.agg #[(Value.string s35), (Value.int .i64 n36), (Value.int .i64 n37), (Value.int .i64 n38), (Value.int .i64 n39), (Value.bool b40)])) w41 = .ok () w42 ∧
  S30 w42 ∧
  ∃ A43, ∃ A43l, ∃ A43c, ∃ n44, V.cellsC (fun a_ x_ => World.cell? w42 a_ = some x_) ⟨Array.size (World.heap w4), 0, none⟩ [(Value.slice A43 A43l A43c), (Value.int .i64 n44)] ∧
  ∃ s45, ∃ n46, ∃ n47, ∃ n48, ∃ n49, ∃ b50, V.cellsC (fun a_ x_ => World.cell? w42 a_ = some x_) ⟨Array.size (World.heap w5), 0, none⟩ [(Value.string s45), (Value.int .i64 n46), (Value.int .i64 n47), (Value.int .i64 n48), (Value.int .i64 n49), (Value.bool b50)] ∧
  R (Ending.returned (Value.tuple #[(Value.agg #[(Value.slice A43 A43l A43c), (Value.int .i64 n44)]), (Value.agg #[(Value.string s45), (Value.int .i64 n46), (Value.int .i64 n47), (Value.int .i64 n48), (Value.int .i64 n49), (Value.bool b50)]), (Value.int .i64 0)])) w42))))) :
  Calls Try.prog 45 #[(Value.agg #[(Value.slice q_1 q_1l q_1c), (Value.int .i64 q_2)]), (Value.string name_3)] w R :=
  V.calls_of_R ⟨V.assoc [], V.assocP [(6, V.line [0, 1, 2, 3, 4, 5, 6, 7, 8, 9, 10, 11])], V.assocC [], V.assocS [], ⟨[], true⟩⟩ Try.func45 rfl (Eq.mp (by kernel_rfl) h)

theorem berthref25_Park_nf (q_1 : Option Addr) (q_1l : Nat) (q_1c : Nat) (q_2 : Int) (name_3 : ByteArray) (now_4 : Int) (w : World) (R : Ending → World → Prop) (h :
  ∀ w5, w5 = (World.alloc w (.cells #[(Value.slice q_1 q_1l q_1c), (Value.int .i64 q_2)] 56)) →
  ∀ w6, w6 = (World.alloc w5 (.cells #[(Value.slice none 0 0), (Value.int .i64 0)] 56)) →
  ∃ A7, ∃ A7l, ∃ A7c, World.cell? w6 (Addr.add ⟨Array.size (World.heap w), 0, none⟩ 0) = some (Value.slice A7 A7l A7c) ∧
  Calls Try.prog 53 #[(Value.slice A7 A7l A7c), (Value.string name_3)] w6 fun e9 w10 =>
  ∃ n8, e9 = Ending.returned (Value.int .i64 n8) ∧
  V.sel (decide (n8 < 0))
  (∃ A11, ∃ A11l, ∃ A11c, ∃ n12, V.cellsC (fun a_ x_ => World.cell? w10 a_ = some x_) ⟨Array.size (World.heap w), 0, none⟩ [(Value.slice A11 A11l A11c), (Value.int .i64 n12)] ∧
  ∃ w13, Sem.run Try.prog (Instr.storeAt 56 (Value.pointer (some ⟨Array.size (World.heap w5), 0, none⟩)) (Value.agg #[(Value.slice A11 A11l A11c), (Value.int .i64 n12)])) w10 = .ok () w13 ∧
  ∃ A14, ∃ A14l, ∃ A14c, ∃ n15, V.cellsC (fun a_ x_ => World.cell? w13 a_ = some x_) ⟨Array.size (World.heap w5), 0, none⟩ [(Value.slice A14 A14l A14c), (Value.int .i64 n15)] ∧
  R (Ending.returned (Value.tuple #[(Value.agg #[(Value.slice A14 A14l A14c), (Value.int .i64 n15)]), (Value.int .i64 252)])) w13)
  (V.sel (decide (now_4 < 0))
  (∃ A16, ∃ A16l, ∃ A16c, ∃ n17, V.cellsC (fun a_ x_ => World.cell? w10 a_ = some x_) ⟨Array.size (World.heap w), 0, none⟩ [(Value.slice A16 A16l A16c), (Value.int .i64 n17)] ∧
  ∃ w18, Sem.run Try.prog (Instr.storeAt 56 (Value.pointer (some ⟨Array.size (World.heap w5), 0, none⟩)) (Value.agg #[(Value.slice A16 A16l A16c), (Value.int .i64 n17)])) w10 = .ok () w18 ∧
  ∃ A19, ∃ A19l, ∃ A19c, ∃ n20, V.cellsC (fun a_ x_ => World.cell? w18 a_ = some x_) ⟨Array.size (World.heap w5), 0, none⟩ [(Value.slice A19 A19l A19c), (Value.int .i64 n20)] ∧
  R (Ending.returned (Value.tuple #[(Value.agg #[(Value.slice A19 A19l A19c), (Value.int .i64 n20)]), (Value.int .i64 254)])) w18)
  (V.sel (decide (now_4 > 1099511627776))
  (∃ A21, ∃ A21l, ∃ A21c, ∃ n22, V.cellsC (fun a_ x_ => World.cell? w10 a_ = some x_) ⟨Array.size (World.heap w), 0, none⟩ [(Value.slice A21 A21l A21c), (Value.int .i64 n22)] ∧
  ∃ w23, Sem.run Try.prog (Instr.storeAt 56 (Value.pointer (some ⟨Array.size (World.heap w5), 0, none⟩)) (Value.agg #[(Value.slice A21 A21l A21c), (Value.int .i64 n22)])) w10 = .ok () w23 ∧
  ∃ A24, ∃ A24l, ∃ A24c, ∃ n25, V.cellsC (fun a_ x_ => World.cell? w23 a_ = some x_) ⟨Array.size (World.heap w5), 0, none⟩ [(Value.slice A24 A24l A24c), (Value.int .i64 n25)] ∧
  R (Ending.returned (Value.tuple #[(Value.agg #[(Value.slice A24 A24l A24c), (Value.int .i64 n25)]), (Value.int .i64 254)])) w23)
  (∀ w26, w26 = (World.alloc w10 (.cells #[] 34)) →
  ∃ A27, ∃ A27l, ∃ A27c, World.cell? w26 (Addr.add ⟨Array.size (World.heap w), 0, none⟩ 0) = some (Value.slice A27 A27l A27c) ∧
  ∃ A28, ∃ A28l, ∃ A28c, ∃ w29, Sem.run Try.prog (Builtin.append_ #[29, 29] 29 #[(Value.slice (some ⟨Array.size (World.heap w10), 0, none⟩) 0 0), (Value.slice A27 A27l A27c)]) w26 = .ok (Value.slice A28 A28l A28c) w29 ∧
  V.when (decide ((0 : Int) ≤ n8 ∧ (n8 : Int) < ((A28l : Nat) : Int))) (V.ptr A28 fun a30 =>
  ∃ n31, World.cell? w29 (Addr.add (Addr.add a30 ((Int.toNat n8) * 6)) 3) = some (Value.int .i64 n31) ∧
  V.sel (decide (n31 < 1099511627776))
  (V.when (decide ((0 : Int) ≤ n8 ∧ (n8 : Int) < ((A28l : Nat) : Int))) (V.ptr A28 fun a32 =>
  ∃ n33, World.cell? w29 (Addr.add (Addr.add a32 ((Int.toNat n8) * 6)) 3) = some (Value.int .i64 n33) ∧
  V.when (decide ((0 : Int) ≤ n8 ∧ (n8 : Int) < ((A28l : Nat) : Int))) (V.ptr A28 fun a34 =>
  ∃ w35, Sem.run Try.prog (Instr.storeAt 3 (Value.pointer (some (Addr.add (Addr.add a34 ((Int.toNat n8) * 6)) 3))) (Value.int .i64 (IntKind.wrap .i64 (n33 + 1)))) w29 = .ok () w35 ∧
  V.when (decide ((0 : Int) ≤ n8 ∧ (n8 : Int) < ((A28l : Nat) : Int))) (V.ptr A28 fun a36 =>
  ∃ w37, Sem.run Try.prog (Instr.storeAt 4 (Value.pointer (some (Addr.add (Addr.add a36 ((Int.toNat n8) * 6)) 5))) (Value.bool true)) w35 = .ok () w37 ∧
  V.when (decide ((0 : Int) ≤ n8 ∧ (n8 : Int) < ((A28l : Nat) : Int))) (V.ptr A28 fun a38 =>
  ∃ n39, World.cell? w37 (Addr.add (Addr.add a38 ((Int.toNat n8) * 6)) 3) = some (Value.int .i64 n39) ∧
  Calls Try.prog 54 #[(Value.int .i64 n39)] w37 fun e41 w42 =>
  ∃ n40, e41 = Ending.returned (Value.int .i64 n40) ∧
  V.when (decide ((0 : Int) ≤ n8 ∧ (n8 : Int) < ((A28l : Nat) : Int))) (V.ptr A28 fun a43 =>
  ∃ w44, Sem.run Try.prog (Instr.storeAt 3 (Value.pointer (some (Addr.add (Addr.add a43 ((Int.toNat n8) * 6)) 4))) (Value.int .i64 (IntKind.wrap .i64 (now_4 + n40)))) w42 = .ok () w44 ∧
  ∃ n45, World.cell? w44 (Addr.add ⟨Array.size (World.heap w), 0, none⟩ 1) = some (Value.int .i64 n45) ∧
  ∃ w46, Sem.run Try.prog (Instr.storeAt 56 (Value.pointer (some ⟨Array.size (World.heap w5), 0, none⟩)) (Value.agg #[(Value.slice A28 A28l A28c), (Value.int .i64 n45)])) w44 = .ok () w46 ∧
  ∃ A47, ∃ A47l, ∃ A47c, ∃ n48, V.cellsC (fun a_ x_ => World.cell? w46 a_ = some x_) ⟨Array.size (World.heap w5), 0, none⟩ [(Value.slice A47 A47l A47c), (Value.int .i64 n48)] ∧
  R (Ending.returned (Value.tuple #[(Value.agg #[(Value.slice A47 A47l A47c), (Value.int .i64 n48)]), (Value.int .i64 0)])) w46))))))
  (V.when (decide ((0 : Int) ≤ n8 ∧ (n8 : Int) < ((A28l : Nat) : Int))) (V.ptr A28 fun a49 =>
  ∃ w50, Sem.run Try.prog (Instr.storeAt 4 (Value.pointer (some (Addr.add (Addr.add a49 ((Int.toNat n8) * 6)) 5))) (Value.bool true)) w29 = .ok () w50 ∧
  V.when (decide ((0 : Int) ≤ n8 ∧ (n8 : Int) < ((A28l : Nat) : Int))) (V.ptr A28 fun a51 =>
  ∃ n52, World.cell? w50 (Addr.add (Addr.add a51 ((Int.toNat n8) * 6)) 3) = some (Value.int .i64 n52) ∧
  Calls Try.prog 54 #[(Value.int .i64 n52)] w50 fun e54 w55 =>
  ∃ n53, e54 = Ending.returned (Value.int .i64 n53) ∧
  V.when (decide ((0 : Int) ≤ n8 ∧ (n8 : Int) < ((A28l : Nat) : Int))) (V.ptr A28 fun a56 =>
  ∃ w57, Sem.run Try.prog (Instr.storeAt 3 (Value.pointer (some (Addr.add (Addr.add a56 ((Int.toNat n8) * 6)) 4))) (Value.int .i64 (IntKind.wrap .i64 (now_4 + n53)))) w55 = .ok () w57 ∧
  ∃ n58, World.cell? w57 (Addr.add ⟨Array.size (World.heap w), 0, none⟩ 1) = some (Value.int .i64 n58) ∧
  ∃ w59, Sem.run Try.prog (Instr.storeAt 56 (Value.pointer (some ⟨Array.size (World.heap w5), 0, none⟩)) (Value.agg #[(Value.slice A28 A28l A28c), (Value.int .i64 n58)])) w57 = .ok () w59 ∧
  ∃ A60, ∃ A60l, ∃ A60c, ∃ n61, V.cellsC (fun a_ x_ => World.cell? w59 a_ = some x_) ⟨Array.size (World.heap w5), 0, none⟩ [(Value.slice A60 A60l A60c), (Value.int .i64 n61)] ∧
  R (Ending.returned (Value.tuple #[(Value.agg #[(Value.slice A60 A60l A60c), (Value.int .i64 n61)]), (Value.int .i64 0)])) w59))))))))) :
  Calls Try.prog 46 #[(Value.agg #[(Value.slice q_1 q_1l q_1c), (Value.int .i64 q_2)]), (Value.string name_3), (Value.int .i64 now_4)] w R :=
  V.calls_of_R ⟨V.assoc [], V.assocP [], V.assocC [], V.assocS [], ⟨[], true⟩⟩ Try.func46 rfl (Eq.mp (by kernel_rfl) h)

theorem berthref25_Wake_nf (q_1 : Option Addr) (q_1l : Nat) (q_1c : Nat) (q_2 : Int) (w : World) (R : Ending → World → Prop) (h :
  ∀ w3, w3 = (World.alloc w (.cells #[(Value.slice q_1 q_1l q_1c), (Value.int .i64 q_2)] 56)) →
  ∀ w4, w4 = (World.alloc w3 (.cells #[(Value.slice none 0 0), (Value.int .i64 0)] 56)) →
  ∀ w5, w5 = (World.alloc w4 (.cells #[] 34)) →
  ∃ A6, ∃ A6l, ∃ A6c, World.cell? w5 (Addr.add ⟨Array.size (World.heap w), 0, none⟩ 0) = some (Value.slice A6 A6l A6c) ∧
  ∃ A7, ∃ A7l, ∃ A7c, ∃ w8, Sem.run Try.prog (Builtin.append_ #[29, 29] 29 #[(Value.slice (some ⟨Array.size (World.heap w4), 0, none⟩) 0 0), (Value.slice A6 A6l A6c)]) w5 = .ok (Value.slice A7 A7l A7c) w8 ∧
  ∃ I9 : Int → World → Prop, ∃ μ10 : Int → World → Nat, I9 0 w8 ∧
  ∀ i_11 (j12 : Nat → Value) (w13 : World), I9 i_11 w13 →
  (V.sel (decide (i_11 < ((A7l : Nat) : Int)))
  (V.when (decide ((0 : Int) ≤ i_11 ∧ (i_11 : Int) < ((A7l : Nat) : Int))) (V.ptr A7 fun a14 =>
  ∃ w15, Sem.run Try.prog (Instr.storeAt 4 (Value.pointer (some (Addr.add (Addr.add a14 ((Int.toNat i_11) * 6)) 5))) (Value.bool false)) w13 = .ok () w15 ∧
  I9 (IntKind.wrap .i64 (i_11 + 1)) w15 ∧ μ10 (IntKind.wrap .i64 (i_11 + 1)) w15 < μ10 i_11 w13))
  (∃ n16, World.cell? w13 (Addr.add ⟨Array.size (World.heap w), 0, none⟩ 1) = some (Value.int .i64 n16) ∧
  ∃ w17, Sem.run Try.prog (Instr.storeAt 56 (Value.pointer (some ⟨Array.size (World.heap w3), 0, none⟩)) (Value.agg #[(Value.slice A7 A7l A7c), (Value.int .i64 n16)])) w13 = .ok () w17 ∧
  ∃ A18, ∃ A18l, ∃ A18c, ∃ n19, V.cellsC (fun a_ x_ => World.cell? w17 a_ = some x_) ⟨Array.size (World.heap w3), 0, none⟩ [(Value.slice A18 A18l A18c), (Value.int .i64 n19)] ∧
  R (Ending.returned (Value.agg #[(Value.slice A18 A18l A18c), (Value.int .i64 n19)])) w17))) :
  Calls Try.prog 47 #[(Value.agg #[(Value.slice q_1 q_1l q_1c), (Value.int .i64 q_2)])] w R :=
  V.calls_of_R ⟨V.assoc [(0, [4])], V.assocP [], V.assocC [], V.assocS [], ⟨[], true⟩⟩ Try.func47 rfl (Eq.mp (by kernel_rfl) h)

theorem slices_rotateRight_api_Waiting__nf (s_1 : Option Addr) (s_1l : Nat) (s_1c : Nat) (r_2 : Int) (w : World) (R : Ending → World → Prop) (h :
  Calls Try.prog 55 #[(Value.slice s_1 s_1l s_1c), (Value.int .i64 (IntKind.wrap .i64 (((s_1l : Nat) : Int) - r_2)))] w fun e3 w4 =>
  e3 = Ending.returned undef ∧
  R (Ending.returned undef) w4) :
  Calls Try.prog 49 #[(Value.slice s_1 s_1l s_1c), (Value.int .i64 r_2)] w R :=
  V.calls_of_R ⟨V.assoc [], V.assocP [], V.assocC [], V.assocS [], ⟨[], true⟩⟩ Try.func49 rfl (Eq.mp (by kernel_rfl) h)

theorem cmp_isNaN_int__nf (x_1 : Int) (w : World) (R : Ending → World → Prop) (h :
  R (Ending.returned (Value.bool (x_1 != x_1))) w) :
  Calls Try.prog 50 #[(Value.int .i64 x_1)] w R :=
  V.calls_of_R ⟨V.assoc [], V.assocP [], V.assocC [], V.assocS [], ⟨[], true⟩⟩ Try.func50 rfl (Eq.mp (by kernel_rfl) h)

theorem berthref25_may_nf (w_1 : ByteArray) (w_2 : Int) (w_3 : Int) (w_4 : Int) (w_5 : Int) (w_6 : Bool) (next_7 : Int) (w : World) (R : Ending → World → Prop) (h :
  ∀ w8, w8 = (World.alloc w (.cells #[(Value.string w_1), (Value.int .i64 w_2), (Value.int .i64 w_3), (Value.int .i64 w_4), (Value.int .i64 w_5), (Value.bool w_6)] 34)) →
  ∃ n9, World.cell? w8 (Addr.add ⟨Array.size (World.heap w), 0, none⟩ 2) = some (Value.int .i64 n9) ∧
  V.sel (decide (n9 < 0))
  (R (Ending.returned (Value.bool false)) w8)
  (∃ n10, World.cell? w8 (Addr.add ⟨Array.size (World.heap w), 0, none⟩ 2) = some (Value.int .i64 n10) ∧
  V.sel (decide (n10 ≥ next_7))
  (R (Ending.returned (Value.bool false)) w8)
  (∃ n11, World.cell? w8 (Addr.add ⟨Array.size (World.heap w), 0, none⟩ 3) = some (Value.int .i64 n11) ∧
  V.sel (decide (n11 < 0))
  (R (Ending.returned (Value.bool false)) w8)
  (∃ n12, World.cell? w8 (Addr.add ⟨Array.size (World.heap w), 0, none⟩ 3) = some (Value.int .i64 n12) ∧
  V.sel (decide (n12 > 1099511627776))
  (R (Ending.returned (Value.bool false)) w8)
  (∃ n13, World.cell? w8 (Addr.add ⟨Array.size (World.heap w), 0, none⟩ 4) = some (Value.int .i64 n13) ∧
  V.sel (decide (n13 ≥ 0))
  (∃ n14, World.cell? w8 (Addr.add ⟨Array.size (World.heap w), 0, none⟩ 4) = some (Value.int .i64 n14) ∧
  R (Ending.returned (Value.bool (decide (n14 ≤ 1099511627840)))) w8)
  (R (Ending.returned (Value.bool false)) w8)))))) :
  Calls Try.prog 51 #[(Value.agg #[(Value.string w_1), (Value.int .i64 w_2), (Value.int .i64 w_3), (Value.int .i64 w_4), (Value.int .i64 w_5), (Value.bool w_6)]), (Value.int .i64 next_7)] w R :=
  V.calls_of_R ⟨V.assoc [], V.assocP [], V.assocC [], V.assocS [], ⟨[], true⟩⟩ Try.func51 rfl (Eq.mp (by kernel_rfl) h)

theorem berthref25_ahead_nf (a_1 : ByteArray) (a_2 : Int) (a_3 : Int) (a_4 : Int) (a_5 : Int) (a_6 : Bool) (b_7 : ByteArray) (b_8 : Int) (b_9 : Int) (b_10 : Int) (b_11 : Int) (b_12 : Bool) (w : World) (R : Ending → World → Prop) (h :
  ∀ w13, w13 = (World.alloc w (.cells #[(Value.string a_1), (Value.int .i64 a_2), (Value.int .i64 a_3), (Value.int .i64 a_4), (Value.int .i64 a_5), (Value.bool a_6)] 34)) →
  ∀ w14, w14 = (World.alloc w13 (.cells #[(Value.string b_7), (Value.int .i64 b_8), (Value.int .i64 b_9), (Value.int .i64 b_10), (Value.int .i64 b_11), (Value.bool b_12)] 34)) →
  ∃ n15, World.cell? w14 (Addr.add ⟨Array.size (World.heap w), 0, none⟩ 1) = some (Value.int .i64 n15) ∧
  ∃ n16, World.cell? w14 (Addr.add ⟨Array.size (World.heap w13), 0, none⟩ 1) = some (Value.int .i64 n16) ∧
  V.sel (decide (n15 > n16))
  (R (Ending.returned (Value.bool true)) w14)
  (∃ n17, World.cell? w14 (Addr.add ⟨Array.size (World.heap w), 0, none⟩ 1) = some (Value.int .i64 n17) ∧
  ∃ n18, World.cell? w14 (Addr.add ⟨Array.size (World.heap w13), 0, none⟩ 1) = some (Value.int .i64 n18) ∧
  V.sel (n17 == n18)
  (∃ n19, World.cell? w14 (Addr.add ⟨Array.size (World.heap w), 0, none⟩ 2) = some (Value.int .i64 n19) ∧
  ∃ n20, World.cell? w14 (Addr.add ⟨Array.size (World.heap w13), 0, none⟩ 2) = some (Value.int .i64 n20) ∧
  R (Ending.returned (Value.bool (decide (n19 < n20)))) w14)
  (R (Ending.returned (Value.bool false)) w14))) :
  Calls Try.prog 52 #[(Value.agg #[(Value.string a_1), (Value.int .i64 a_2), (Value.int .i64 a_3), (Value.int .i64 a_4), (Value.int .i64 a_5), (Value.bool a_6)]), (Value.agg #[(Value.string b_7), (Value.int .i64 b_8), (Value.int .i64 b_9), (Value.int .i64 b_10), (Value.int .i64 b_11), (Value.bool b_12)])] w R :=
  V.calls_of_R ⟨V.assoc [], V.assocP [], V.assocC [], V.assocS [], ⟨[], true⟩⟩ Try.func52 rfl (Eq.mp (by kernel_rfl) h)

theorem berthref25_find_nf (rows_1 : Option Addr) (rows_1l : Nat) (rows_1c : Nat) (name_2 : ByteArray) (w : World) (R : Ending → World → Prop) (h :
  ∃ I3 : Int → World → Prop, ∃ μ4 : Int → World → Nat, I3 0 w ∧
  ∀ i_5 (j6 : Nat → Value) (w7 : World), I3 i_5 w7 →
  (V.sel (decide (i_5 < ((rows_1l : Nat) : Int)))
  (V.when (decide ((0 : Int) ≤ i_5 ∧ (i_5 : Int) < ((rows_1l : Nat) : Int))) (V.ptr rows_1 fun a8 =>
  ∃ s9, World.cell? w7 (Addr.add (Addr.add a8 ((Int.toNat i_5) * 6)) 0) = some (Value.string s9) ∧
  V.sel (ByteArray.toList s9 == ByteArray.toList name_2)
  (R (Ending.returned (Value.int .i64 i_5)) w7)
  (I3 (IntKind.wrap .i64 (i_5 + 1)) w7 ∧ μ4 (IntKind.wrap .i64 (i_5 + 1)) w7 < μ4 i_5 w7)))
  (R (Ending.returned (Value.int .i64 (-1))) w7))) :
  Calls Try.prog 53 #[(Value.slice rows_1 rows_1l rows_1c), (Value.string name_2)] w R :=
  V.calls_of_R ⟨V.assoc [(0, [5])], V.assocP [], V.assocC [], V.assocS [], ⟨[], true⟩⟩ Try.func53 rfl (Eq.mp (by kernel_rfl) h)

theorem berthref25_wait_nf (tries_1 : Int) (w : World) (R : Ending → World → Prop) (h :
  ∃ I2 : Int → Int → World → Prop, ∃ μ3 : Int → Int → World → Nat, I2 1 1 w ∧
  ∀ w_4 i_5 (j6 : Nat → Value) (w7 : World), I2 w_4 i_5 w7 →
  (V.sel (decide (i_5 < tries_1))
  (V.sel (decide (w_4 < 64))
  (I2 (IntKind.wrap .i64 (2 * w_4)) (IntKind.wrap .i64 (i_5 + 1)) w7 ∧ μ3 (IntKind.wrap .i64 (2 * w_4)) (IntKind.wrap .i64 (i_5 + 1)) w7 < μ3 w_4 i_5 w7)
  (R (Ending.returned (Value.int .i64 w_4)) w7))
  (R (Ending.returned (Value.int .i64 w_4)) w7))) :
  Calls Try.prog 54 #[(Value.int .i64 tries_1)] w R :=
  V.calls_of_R ⟨V.assoc [(0, [3, 4])], V.assocP [], V.assocC [], V.assocS [], ⟨[], true⟩⟩ Try.func54 rfl (Eq.mp (by kernel_rfl) h)

theorem slices_rotateLeft_api_Waiting__nf (s_1 : Option Addr) (s_1l : Nat) (s_1c : Nat) (r_2 : Int) (w : World) (R : Ending → World → Prop) (h :
  V.when (decide ((0 : Int) ≤ r_2 ∧ (r_2 : Int) ≤ ((s_1c : Nat) : Int))) (Calls Try.prog 56 #[(Value.slice (V.cut s_1 s_1c 0 6) ((Int.toNat r_2) - 0) (s_1c - 0))] w fun e3 w4 =>
  e3 = Ending.returned undef ∧
  V.when (decide ((0 : Int) ≤ r_2 ∧ (r_2 : Int) ≤ ((s_1l : Nat) : Int))) (Calls Try.prog 56 #[(Value.slice (V.cut s_1 s_1c (Int.toNat r_2) 6) (s_1l - (Int.toNat r_2)) (s_1c - (Int.toNat r_2)))] w4 fun e5 w6 =>
  e5 = Ending.returned undef ∧
  Calls Try.prog 56 #[(Value.slice s_1 s_1l s_1c)] w6 fun e7 w8 =>
  e7 = Ending.returned undef ∧
  R (Ending.returned undef) w8))) :
  Calls Try.prog 55 #[(Value.slice s_1 s_1l s_1c), (Value.int .i64 r_2)] w R :=
  V.calls_of_R ⟨V.assoc [], V.assocP [], V.assocC [], V.assocS [], ⟨[], true⟩⟩ Try.func55 rfl (Eq.mp (by kernel_rfl) h)

theorem slices_Reverse___api_Waiting_api_Waiting__nf (s_1 : Option Addr) (s_1l : Nat) (s_1c : Nat) (w : World) (R : Ending → World → Prop) (h :
  V.lt (IntKind.wrap .i64 (((s_1l : Nat) : Int) - 1)) fun x2 =>
  ∃ I3 : Int → Int → World → Prop, ∃ μ4 : Int → Int → World → Nat, I3 0 x2 w ∧
  ∀ i_5 j_6 (j7 : Nat → Value) (w8 : World), I3 i_5 j_6 w8 →
  (V.sel (decide (i_5 < j_6))
  (∃ S9 : World → Prop, S9 (World.drew w8) ∧
  V.when (decide ((0 : Int) ≤ j_6 ∧ (j_6 : Int) < ((s_1l : Nat) : Int))) (V.ptr s_1 fun a11 =>
  ∃ s12, ∃ n13, ∃ n14, ∃ n15, ∃ n16, ∃ b17, V.cellsC (fun a_ x_ => ∀ w10, S9 w10 → World.cell? w10 a_ = some x_) (Addr.add a11 ((Int.toNat j_6) * 6)) [(Value.string s12), (Value.int .i64 n13), (Value.int .i64 n14), (Value.int .i64 n15), (Value.int .i64 n16), (Value.bool b17)] ∧
  V.when (decide ((0 : Int) ≤ i_5 ∧ (i_5 : Int) < ((s_1l : Nat) : Int))) (V.ptr s_1 fun a18 =>
  ∃ s19, ∃ n20, ∃ n21, ∃ n22, ∃ n23, ∃ b24, V.cellsC (fun a_ x_ => ∀ w10, S9 w10 → World.cell? w10 a_ = some x_) (Addr.add a18 ((Int.toNat i_5) * 6)) [(Value.string s19), (Value.int .i64 n20), (Value.int .i64 n21), (Value.int .i64 n22), (Value.int .i64 n23), (Value.bool b24)] ∧
  V.when (decide ((0 : Int) ≤ i_5 ∧ (i_5 : Int) < ((s_1l : Nat) : Int))) (V.ptr s_1 fun a25 =>
  ∃ w26, Sem.run Try.prog (Instr.storeAt 34 (Value.pointer (some (Addr.add a25 ((Int.toNat i_5) * 6)))) (Value.agg #[(Value.string s12), (Value.int .i64 n13), (Value.int .i64 n14), (Value.int .i64 n15), (Value.int .i64 n16), (Value.bool b17)])) (World.drew w8) = .ok () w26 ∧
  S9 w26 ∧
  V.when (decide ((0 : Int) ≤ j_6 ∧ (j_6 : Int) < ((s_1l : Nat) : Int))) (V.ptr s_1 fun a27 =>
  ∃ w28, Sem.run Try.prog (Instr.storeAt 34 (Value.pointer (some (Addr.add a27 ((Int.toNat j_6) * 6)))) (Value.agg #[(Value.string s19), (Value.int .i64 n20), (Value.int .i64 n21), (Value.int .i64 n22), (Value.int .i64 n23), (Value.bool b24)])) w26 = .ok () w28 ∧
  I3 (IntKind.wrap .i64 (i_5 + 1)) (IntKind.wrap .i64 (j_6 - 1)) w28 ∧ μ4 (IntKind.wrap .i64 (i_5 + 1)) (IntKind.wrap .i64 (j_6 - 1)) w28 < μ4 i_5 j_6 w8)))))
  (R (Ending.returned undef) w8))) :
  Calls Try.prog 56 #[(Value.slice s_1 s_1l s_1c)] w R :=
  V.calls_of_R ⟨V.assoc [(0, [2, 3])], V.assocP [(3, V.line [0, 1, 2, 3, 4, 5, 6, 7, 8, 9, 10, 11, 12, 13, 14, 15])], V.assocC [], V.assocS [], ⟨[], true⟩⟩ Try.func56 rfl (Eq.mp (by kernel_rfl) h)

end Go.Proofs.Ytfjgiaimlmnepaa
