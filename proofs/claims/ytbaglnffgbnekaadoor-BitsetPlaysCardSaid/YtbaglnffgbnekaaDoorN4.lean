/- Normal forms of the program's functions, printed by a program of mine; the kernel checks each. -/
import Derived.Test.YtbaglnffgbnekaaDoorProg
import Derived.Test.YtbaglnffgbnekaaDoorV2
set_option linter.unusedVariables false
set_option maxRecDepth 100000
namespace Go.Proofs.YtbaglnffgbnekaaDoor
open Go

theorem berthref01_Not_nf (a_1 : Int) (a_2 : Option Addr) (a_2l : Nat) (a_2c : Nat) (live_3 : Int) (live_4 : Option Addr) (live_4l : Nat) (live_4c : Nat) (w : World) (R : Ending → World → Prop) (h :
  ∀ w5, w5 = (World.alloc w (.cells #[(Value.int .i64 a_1), (Value.slice a_2 a_2l a_2c)] 50)) →
  ∀ w6, w6 = (World.alloc w5 (.cells #[(Value.int .i64 live_3), (Value.slice live_4 live_4l live_4c)] 50)) →
  ∀ w7, w7 = (World.alloc w6 (.cells #[(Value.int .i64 0), (Value.slice none 0 0)] 50)) →
  ∃ S8 : World → Prop, S8 (World.drew w7) ∧
  ∃ n10, (∀ w9, S8 w9 → World.cell? w9 (Addr.add ⟨Array.size (World.heap w5), 0, none⟩ 0) = some (Value.int .i64 n10)) ∧
  ∃ A11, ∃ A11l, ∃ A11c, (∀ w9, S8 w9 → World.cell? w9 (Addr.add ⟨Array.size (World.heap w), 0, none⟩ 1) = some (Value.slice A11 A11l A11c)) ∧
  ∃ A12, ∃ A12l, ∃ A12c, (∀ w9, S8 w9 → World.cell? w9 (Addr.add ⟨Array.size (World.heap w5), 0, none⟩ 1) = some (Value.slice A12 A12l A12c)) ∧
  Calls Tryd.prog 92 #[(Value.slice A11 A11l A11c), (Value.slice A12 A12l A12c), (Value.bool false), (Value.bool true), (Value.bool false)] (World.drew w7) fun e14 w15 =>
  ∃ A13, ∃ A13l, ∃ A13c, e14 = Ending.returned (Value.slice A13 A13l A13c) ∧
  S8 w15 ∧
  ∃ w16, Sem.run Tryd.prog (Instr.storeAt 50 (Value.pointer (some ⟨Array.size (World.heap w6), 0, none⟩)) (Value.agg #[(Value.int .i64 n10), (Value.slice A13 A13l A13c)])) w15 = .ok () w16 ∧
  ∃ n17, ∃ A18, ∃ A18l, ∃ A18c, V.cellsC (fun a_ x_ => World.cell? w16 a_ = some x_) ⟨Array.size (World.heap w6), 0, none⟩ [(Value.int .i64 n17), (Value.slice A18 A18l A18c)] ∧
  R (Ending.returned (Value.agg #[(Value.int .i64 n17), (Value.slice A18 A18l A18c)])) w16) :
  Calls Tryd.prog 71 #[(Value.agg #[(Value.int .i64 a_1), (Value.slice a_2 a_2l a_2c)]), (Value.agg #[(Value.int .i64 live_3), (Value.slice live_4 live_4l live_4c)])] w R :=
  V.calls_of_R ⟨V.assoc [], V.assocP [(1, V.line [0, 1, 2, 3, 4, 5, 6, 7, 8])], V.assocC [], V.assocS [], ⟨[], true⟩⟩ Tryd.func71 rfl (Eq.mp (by kernel_rfl) h)

theorem berthref01_Clone_nf (s_1 : Int) (s_2 : Option Addr) (s_2l : Nat) (s_2c : Nat) (w : World) (R : Ending → World → Prop) (h :
  ∀ w3, w3 = (World.alloc w (.cells #[(Value.int .i64 s_1), (Value.slice s_2 s_2l s_2c)] 50)) →
  ∀ w4, w4 = (World.alloc w3 (.cells #[(Value.int .i64 0), (Value.slice none 0 0)] 50)) →
  ∃ S5 : World → Prop, S5 (World.drew w4) ∧
  ∃ n7, (∀ w6, S5 w6 → World.cell? w6 (Addr.add ⟨Array.size (World.heap w), 0, none⟩ 0) = some (Value.int .i64 n7)) ∧
  ∃ n8, ∃ A9, ∃ A9l, ∃ A9c, V.cellsC (fun a_ x_ => ∀ w6, S5 w6 → World.cell? w6 a_ = some x_) ⟨Array.size (World.heap w), 0, none⟩ [(Value.int .i64 n8), (Value.slice A9 A9l A9c)] ∧
  Calls Tryd.prog 93 #[(Value.agg #[(Value.int .i64 n8), (Value.slice A9 A9l A9c)])] (World.drew w4) fun e11 w12 =>
  ∃ A10, ∃ A10l, ∃ A10c, e11 = Ending.returned (Value.slice A10 A10l A10c) ∧
  S5 w12 ∧
  ∃ w13, Sem.run Tryd.prog (Instr.storeAt 50 (Value.pointer (some ⟨Array.size (World.heap w3), 0, none⟩)) (Value.agg #[(Value.int .i64 n7), (Value.slice A10 A10l A10c)])) w12 = .ok () w13 ∧
  ∃ n14, ∃ A15, ∃ A15l, ∃ A15c, V.cellsC (fun a_ x_ => World.cell? w13 a_ = some x_) ⟨Array.size (World.heap w3), 0, none⟩ [(Value.int .i64 n14), (Value.slice A15 A15l A15c)] ∧
  R (Ending.returned (Value.agg #[(Value.int .i64 n14), (Value.slice A15 A15l A15c)])) w13) :
  Calls Tryd.prog 72 #[(Value.agg #[(Value.int .i64 s_1), (Value.slice s_2 s_2l s_2c)])] w R :=
  V.calls_of_R ⟨V.assoc [], V.assocP [(1, V.line [0, 1, 2, 3, 4, 5])], V.assocC [], V.assocS [], ⟨[], true⟩⟩ Tryd.func72 rfl (Eq.mp (by kernel_rfl) h)

theorem berthref01_Add_nf (s_1 : Int) (s_2 : Option Addr) (s_2l : Nat) (s_2c : Nat) (i_3 : Int) (w : World) (R : Ending → World → Prop) (h :
  ∀ w4, w4 = (World.alloc w (.cells #[(Value.int .i64 s_1), (Value.slice s_2 s_2l s_2c)] 50)) →
  ∀ w5, w5 = (World.alloc w4 (.cells #[(Value.int .i64 0), (Value.slice none 0 0)] 50)) →
  V.sel (decide (i_3 < 0))
  (∃ n6, ∃ A7, ∃ A7l, ∃ A7c, V.cellsC (fun a_ x_ => World.cell? w5 a_ = some x_) ⟨Array.size (World.heap w), 0, none⟩ [(Value.int .i64 n6), (Value.slice A7 A7l A7c)] ∧
  ∃ w8, Sem.run Tryd.prog (Instr.storeAt 50 (Value.pointer (some ⟨Array.size (World.heap w4), 0, none⟩)) (Value.agg #[(Value.int .i64 n6), (Value.slice A7 A7l A7c)])) w5 = .ok () w8 ∧
  ∃ n9, ∃ A10, ∃ A10l, ∃ A10c, V.cellsC (fun a_ x_ => World.cell? w8 a_ = some x_) ⟨Array.size (World.heap w4), 0, none⟩ [(Value.int .i64 n9), (Value.slice A10 A10l A10c)] ∧
  R (Ending.returned (Value.tuple #[(Value.agg #[(Value.int .i64 n9), (Value.slice A10 A10l A10c)]), (Value.bool false)])) w8)
  (∃ n11, World.cell? w5 (Addr.add ⟨Array.size (World.heap w), 0, none⟩ 0) = some (Value.int .i64 n11) ∧
  V.sel (decide (i_3 ≥ n11))
  (∃ n12, ∃ A13, ∃ A13l, ∃ A13c, V.cellsC (fun a_ x_ => World.cell? w5 a_ = some x_) ⟨Array.size (World.heap w), 0, none⟩ [(Value.int .i64 n12), (Value.slice A13 A13l A13c)] ∧
  ∃ w14, Sem.run Tryd.prog (Instr.storeAt 50 (Value.pointer (some ⟨Array.size (World.heap w4), 0, none⟩)) (Value.agg #[(Value.int .i64 n12), (Value.slice A13 A13l A13c)])) w5 = .ok () w14 ∧
  ∃ n15, ∃ A16, ∃ A16l, ∃ A16c, V.cellsC (fun a_ x_ => World.cell? w14 a_ = some x_) ⟨Array.size (World.heap w4), 0, none⟩ [(Value.int .i64 n15), (Value.slice A16 A16l A16c)] ∧
  R (Ending.returned (Value.tuple #[(Value.agg #[(Value.int .i64 n15), (Value.slice A16 A16l A16c)]), (Value.bool false)])) w14)
  (∃ n17, ∃ A18, ∃ A18l, ∃ A18c, V.cellsC (fun a_ x_ => World.cell? w5 a_ = some x_) ⟨Array.size (World.heap w), 0, none⟩ [(Value.int .i64 n17), (Value.slice A18 A18l A18c)] ∧
  Calls Tryd.prog 94 #[(Value.agg #[(Value.int .i64 n17), (Value.slice A18 A18l A18c)]), (Value.int .i64 i_3)] w5 fun e20 w21 =>
  ∃ n19, e20 = Ending.returned (Value.int .i64 n19) ∧
  ∃ A22, ∃ A22l, ∃ A22c, World.cell? w21 (Addr.add ⟨Array.size (World.heap w), 0, none⟩ 1) = some (Value.slice A22 A22l A22c) ∧
  V.sel (decide (n19 < ((A22l : Nat) : Int)))
  (∃ A23, ∃ A23l, ∃ A23c, World.cell? w21 (Addr.add ⟨Array.size (World.heap w), 0, none⟩ 1) = some (Value.slice A23 A23l A23c) ∧
  V.when (decide ((0 : Int) ≤ n19 ∧ (n19 : Int) < ((A23l : Nat) : Int))) (V.ptr A23 fun a24 =>
  ∃ n25, World.cell? w21 (Addr.add a24 ((Int.toNat n19) * 1)) = some (Value.int .i64 n25) ∧
  V.sel (n25 == i_3)
  (∃ n26, ∃ A27, ∃ A27l, ∃ A27c, V.cellsC (fun a_ x_ => World.cell? w21 a_ = some x_) ⟨Array.size (World.heap w), 0, none⟩ [(Value.int .i64 n26), (Value.slice A27 A27l A27c)] ∧
  ∃ w28, Sem.run Tryd.prog (Instr.storeAt 50 (Value.pointer (some ⟨Array.size (World.heap w4), 0, none⟩)) (Value.agg #[(Value.int .i64 n26), (Value.slice A27 A27l A27c)])) w21 = .ok () w28 ∧
  ∃ n29, ∃ A30, ∃ A30l, ∃ A30c, V.cellsC (fun a_ x_ => World.cell? w28 a_ = some x_) ⟨Array.size (World.heap w4), 0, none⟩ [(Value.int .i64 n29), (Value.slice A30 A30l A30c)] ∧
  R (Ending.returned (Value.tuple #[(Value.agg #[(Value.int .i64 n29), (Value.slice A30 A30l A30c)]), (Value.bool false)])) w28)
  (∀ w31, w31 = (World.alloc w21 (.cells #[] 3)) →
  ∃ A32, ∃ A32l, ∃ A32c, World.cell? w31 (Addr.add ⟨Array.size (World.heap w), 0, none⟩ 1) = some (Value.slice A32 A32l A32c) ∧
  V.when (decide ((0 : Int) ≤ n19 ∧ (n19 : Int) ≤ ((A32c : Nat) : Int))) (∃ A33, ∃ A33l, ∃ A33c, ∃ w34, Sem.run Tryd.prog (Builtin.append_ #[22, 22] 22 #[(Value.slice (some ⟨Array.size (World.heap w21), 0, none⟩) 0 0), (Value.slice (V.cut A32 A32c 0 1) ((Int.toNat n19) - 0) (A32c - 0))]) w31 = .ok (Value.slice A33 A33l A33c) w34 ∧
  ∀ w35, w35 = (World.alloc w34 (.cells #[(Value.int .i64 i_3)] 3)) →
  ∃ A36, ∃ A36l, ∃ A36c, ∃ w37, Sem.run Tryd.prog (Builtin.append_ #[22, 22] 22 #[(Value.slice A33 A33l A33c), (Value.slice (some ⟨Array.size (World.heap w34), 0, none⟩) 1 1)]) w35 = .ok (Value.slice A36 A36l A36c) w37 ∧
  ∃ A38, ∃ A38l, ∃ A38c, World.cell? w37 (Addr.add ⟨Array.size (World.heap w), 0, none⟩ 1) = some (Value.slice A38 A38l A38c) ∧
  V.when (decide ((0 : Int) ≤ n19 ∧ (n19 : Int) ≤ ((A38l : Nat) : Int))) (∃ A39, ∃ A39l, ∃ A39c, ∃ w40, Sem.run Tryd.prog (Builtin.append_ #[22, 22] 22 #[(Value.slice A36 A36l A36c), (Value.slice (V.cut A38 A38c (Int.toNat n19) 1) (A38l - (Int.toNat n19)) (A38c - (Int.toNat n19)))]) w37 = .ok (Value.slice A39 A39l A39c) w40 ∧
  ∃ n41, World.cell? w40 (Addr.add ⟨Array.size (World.heap w), 0, none⟩ 0) = some (Value.int .i64 n41) ∧
  ∃ w42, Sem.run Tryd.prog (Instr.storeAt 50 (Value.pointer (some ⟨Array.size (World.heap w4), 0, none⟩)) (Value.agg #[(Value.int .i64 n41), (Value.slice A39 A39l A39c)])) w40 = .ok () w42 ∧
  ∃ n43, ∃ A44, ∃ A44l, ∃ A44c, V.cellsC (fun a_ x_ => World.cell? w42 a_ = some x_) ⟨Array.size (World.heap w4), 0, none⟩ [(Value.int .i64 n43), (Value.slice A44 A44l A44c)] ∧
  R (Ending.returned (Value.tuple #[(Value.agg #[(Value.int .i64 n43), (Value.slice A44 A44l A44c)]), (Value.bool true)])) w42)))))
  (∀ w45, w45 = (World.alloc w21 (.cells #[] 3)) →
  ∃ A46, ∃ A46l, ∃ A46c, World.cell? w45 (Addr.add ⟨Array.size (World.heap w), 0, none⟩ 1) = some (Value.slice A46 A46l A46c) ∧
  V.when (decide ((0 : Int) ≤ n19 ∧ (n19 : Int) ≤ ((A46c : Nat) : Int))) (∃ A47, ∃ A47l, ∃ A47c, ∃ w48, Sem.run Tryd.prog (Builtin.append_ #[22, 22] 22 #[(Value.slice (some ⟨Array.size (World.heap w21), 0, none⟩) 0 0), (Value.slice (V.cut A46 A46c 0 1) ((Int.toNat n19) - 0) (A46c - 0))]) w45 = .ok (Value.slice A47 A47l A47c) w48 ∧
  ∀ w49, w49 = (World.alloc w48 (.cells #[(Value.int .i64 i_3)] 3)) →
  ∃ A50, ∃ A50l, ∃ A50c, ∃ w51, Sem.run Tryd.prog (Builtin.append_ #[22, 22] 22 #[(Value.slice A47 A47l A47c), (Value.slice (some ⟨Array.size (World.heap w48), 0, none⟩) 1 1)]) w49 = .ok (Value.slice A50 A50l A50c) w51 ∧
  ∃ A52, ∃ A52l, ∃ A52c, World.cell? w51 (Addr.add ⟨Array.size (World.heap w), 0, none⟩ 1) = some (Value.slice A52 A52l A52c) ∧
  V.when (decide ((0 : Int) ≤ n19 ∧ (n19 : Int) ≤ ((A52l : Nat) : Int))) (∃ A53, ∃ A53l, ∃ A53c, ∃ w54, Sem.run Tryd.prog (Builtin.append_ #[22, 22] 22 #[(Value.slice A50 A50l A50c), (Value.slice (V.cut A52 A52c (Int.toNat n19) 1) (A52l - (Int.toNat n19)) (A52c - (Int.toNat n19)))]) w51 = .ok (Value.slice A53 A53l A53c) w54 ∧
  ∃ n55, World.cell? w54 (Addr.add ⟨Array.size (World.heap w), 0, none⟩ 0) = some (Value.int .i64 n55) ∧
  ∃ w56, Sem.run Tryd.prog (Instr.storeAt 50 (Value.pointer (some ⟨Array.size (World.heap w4), 0, none⟩)) (Value.agg #[(Value.int .i64 n55), (Value.slice A53 A53l A53c)])) w54 = .ok () w56 ∧
  ∃ n57, ∃ A58, ∃ A58l, ∃ A58c, V.cellsC (fun a_ x_ => World.cell? w56 a_ = some x_) ⟨Array.size (World.heap w4), 0, none⟩ [(Value.int .i64 n57), (Value.slice A58 A58l A58c)] ∧
  R (Ending.returned (Value.tuple #[(Value.agg #[(Value.int .i64 n57), (Value.slice A58 A58l A58c)]), (Value.bool true)])) w56)))))) :
  Calls Tryd.prog 73 #[(Value.agg #[(Value.int .i64 s_1), (Value.slice s_2 s_2l s_2c)]), (Value.int .i64 i_3)] w R :=
  V.calls_of_R ⟨V.assoc [], V.assocP [], V.assocC [], V.assocS [], ⟨[], true⟩⟩ Tryd.func73 rfl (Eq.mp (by kernel_rfl) h)

theorem berthref01_Remove_nf (s_1 : Int) (s_2 : Option Addr) (s_2l : Nat) (s_2c : Nat) (i_3 : Int) (w : World) (R : Ending → World → Prop) (h :
  ∀ w4, w4 = (World.alloc w (.cells #[(Value.int .i64 s_1), (Value.slice s_2 s_2l s_2c)] 50)) →
  ∀ w5, w5 = (World.alloc w4 (.cells #[(Value.int .i64 0), (Value.slice none 0 0)] 50)) →
  ∃ n6, ∃ A7, ∃ A7l, ∃ A7c, V.cellsC (fun a_ x_ => World.cell? w5 a_ = some x_) ⟨Array.size (World.heap w), 0, none⟩ [(Value.int .i64 n6), (Value.slice A7 A7l A7c)] ∧
  Calls Tryd.prog 94 #[(Value.agg #[(Value.int .i64 n6), (Value.slice A7 A7l A7c)]), (Value.int .i64 i_3)] w5 fun e9 w10 =>
  ∃ n8, e9 = Ending.returned (Value.int .i64 n8) ∧
  ∃ A11, ∃ A11l, ∃ A11c, World.cell? w10 (Addr.add ⟨Array.size (World.heap w), 0, none⟩ 1) = some (Value.slice A11 A11l A11c) ∧
  V.sel (decide (n8 ≥ ((A11l : Nat) : Int)))
  (∃ n12, ∃ A13, ∃ A13l, ∃ A13c, V.cellsC (fun a_ x_ => World.cell? w10 a_ = some x_) ⟨Array.size (World.heap w), 0, none⟩ [(Value.int .i64 n12), (Value.slice A13 A13l A13c)] ∧
  ∃ w14, Sem.run Tryd.prog (Instr.storeAt 50 (Value.pointer (some ⟨Array.size (World.heap w4), 0, none⟩)) (Value.agg #[(Value.int .i64 n12), (Value.slice A13 A13l A13c)])) w10 = .ok () w14 ∧
  ∃ n15, ∃ A16, ∃ A16l, ∃ A16c, V.cellsC (fun a_ x_ => World.cell? w14 a_ = some x_) ⟨Array.size (World.heap w4), 0, none⟩ [(Value.int .i64 n15), (Value.slice A16 A16l A16c)] ∧
  R (Ending.returned (Value.tuple #[(Value.agg #[(Value.int .i64 n15), (Value.slice A16 A16l A16c)]), (Value.bool false)])) w14)
  (∃ A17, ∃ A17l, ∃ A17c, World.cell? w10 (Addr.add ⟨Array.size (World.heap w), 0, none⟩ 1) = some (Value.slice A17 A17l A17c) ∧
  V.when (decide ((0 : Int) ≤ n8 ∧ (n8 : Int) < ((A17l : Nat) : Int))) (V.ptr A17 fun a18 =>
  ∃ n19, World.cell? w10 (Addr.add a18 ((Int.toNat n8) * 1)) = some (Value.int .i64 n19) ∧
  V.sel (n19 != i_3)
  (∃ n20, ∃ A21, ∃ A21l, ∃ A21c, V.cellsC (fun a_ x_ => World.cell? w10 a_ = some x_) ⟨Array.size (World.heap w), 0, none⟩ [(Value.int .i64 n20), (Value.slice A21 A21l A21c)] ∧
  ∃ w22, Sem.run Tryd.prog (Instr.storeAt 50 (Value.pointer (some ⟨Array.size (World.heap w4), 0, none⟩)) (Value.agg #[(Value.int .i64 n20), (Value.slice A21 A21l A21c)])) w10 = .ok () w22 ∧
  ∃ n23, ∃ A24, ∃ A24l, ∃ A24c, V.cellsC (fun a_ x_ => World.cell? w22 a_ = some x_) ⟨Array.size (World.heap w4), 0, none⟩ [(Value.int .i64 n23), (Value.slice A24 A24l A24c)] ∧
  R (Ending.returned (Value.tuple #[(Value.agg #[(Value.int .i64 n23), (Value.slice A24 A24l A24c)]), (Value.bool false)])) w22)
  (∀ w25, w25 = (World.alloc w10 (.cells #[] 3)) →
  ∃ A26, ∃ A26l, ∃ A26c, World.cell? w25 (Addr.add ⟨Array.size (World.heap w), 0, none⟩ 1) = some (Value.slice A26 A26l A26c) ∧
  V.when (decide ((0 : Int) ≤ n8 ∧ (n8 : Int) ≤ ((A26c : Nat) : Int))) (∃ A27, ∃ A27l, ∃ A27c, ∃ w28, Sem.run Tryd.prog (Builtin.append_ #[22, 22] 22 #[(Value.slice (some ⟨Array.size (World.heap w10), 0, none⟩) 0 0), (Value.slice (V.cut A26 A26c 0 1) ((Int.toNat n8) - 0) (A26c - 0))]) w25 = .ok (Value.slice A27 A27l A27c) w28 ∧
  ∃ A29, ∃ A29l, ∃ A29c, World.cell? w28 (Addr.add ⟨Array.size (World.heap w), 0, none⟩ 1) = some (Value.slice A29 A29l A29c) ∧
  V.when (decide ((0 : Int) ≤ (IntKind.wrap .i64 (n8 + 1)) ∧ ((IntKind.wrap .i64 (n8 + 1)) : Int) ≤ ((A29l : Nat) : Int))) (∃ A30, ∃ A30l, ∃ A30c, ∃ w31, Sem.run Tryd.prog (Builtin.append_ #[22, 22] 22 #[(Value.slice A27 A27l A27c), (Value.slice (V.cut A29 A29c (Int.toNat (IntKind.wrap .i64 (n8 + 1))) 1) (A29l - (Int.toNat (IntKind.wrap .i64 (n8 + 1)))) (A29c - (Int.toNat (IntKind.wrap .i64 (n8 + 1)))))]) w28 = .ok (Value.slice A30 A30l A30c) w31 ∧
  ∃ n32, World.cell? w31 (Addr.add ⟨Array.size (World.heap w), 0, none⟩ 0) = some (Value.int .i64 n32) ∧
  ∃ w33, Sem.run Tryd.prog (Instr.storeAt 50 (Value.pointer (some ⟨Array.size (World.heap w4), 0, none⟩)) (Value.agg #[(Value.int .i64 n32), (Value.slice A30 A30l A30c)])) w31 = .ok () w33 ∧
  ∃ n34, ∃ A35, ∃ A35l, ∃ A35c, V.cellsC (fun a_ x_ => World.cell? w33 a_ = some x_) ⟨Array.size (World.heap w4), 0, none⟩ [(Value.int .i64 n34), (Value.slice A35 A35l A35c)] ∧
  R (Ending.returned (Value.tuple #[(Value.agg #[(Value.int .i64 n34), (Value.slice A35 A35l A35c)]), (Value.bool true)])) w33)))))) :
  Calls Tryd.prog 74 #[(Value.agg #[(Value.int .i64 s_1), (Value.slice s_2 s_2l s_2c)]), (Value.int .i64 i_3)] w R :=
  V.calls_of_R ⟨V.assoc [], V.assocP [], V.assocC [], V.assocS [], ⟨[], true⟩⟩ Tryd.func74 rfl (Eq.mp (by kernel_rfl) h)

theorem berthref01_Grow_nf (s_1 : Int) (s_2 : Option Addr) (s_2l : Nat) (s_2c : Nat) (n_3 : Int) (w : World) (R : Ending → World → Prop) (h :
  ∀ w4, w4 = (World.alloc w (.cells #[(Value.int .i64 s_1), (Value.slice s_2 s_2l s_2c)] 50)) →
  ∀ w5, w5 = (World.alloc w4 (.cells #[(Value.int .i64 0), (Value.slice none 0 0)] 50)) →
  V.sel (decide (n_3 < 0))
  (∃ n6, ∃ A7, ∃ A7l, ∃ A7c, V.cellsC (fun a_ x_ => World.cell? w5 a_ = some x_) ⟨Array.size (World.heap w), 0, none⟩ [(Value.int .i64 n6), (Value.slice A7 A7l A7c)] ∧
  ∃ w8, Sem.run Tryd.prog (Instr.storeAt 50 (Value.pointer (some ⟨Array.size (World.heap w4), 0, none⟩)) (Value.agg #[(Value.int .i64 n6), (Value.slice A7 A7l A7c)])) w5 = .ok () w8 ∧
  ∃ n9, ∃ A10, ∃ A10l, ∃ A10c, V.cellsC (fun a_ x_ => World.cell? w8 a_ = some x_) ⟨Array.size (World.heap w4), 0, none⟩ [(Value.int .i64 n9), (Value.slice A10 A10l A10c)] ∧
  R (Ending.returned (Value.tuple #[(Value.agg #[(Value.int .i64 n9), (Value.slice A10 A10l A10c)]), (Value.int .i64 11)])) w8)
  (V.sel (decide (n_3 > 65536))
  (∃ n11, ∃ A12, ∃ A12l, ∃ A12c, V.cellsC (fun a_ x_ => World.cell? w5 a_ = some x_) ⟨Array.size (World.heap w), 0, none⟩ [(Value.int .i64 n11), (Value.slice A12 A12l A12c)] ∧
  ∃ w13, Sem.run Tryd.prog (Instr.storeAt 50 (Value.pointer (some ⟨Array.size (World.heap w4), 0, none⟩)) (Value.agg #[(Value.int .i64 n11), (Value.slice A12 A12l A12c)])) w5 = .ok () w13 ∧
  ∃ n14, ∃ A15, ∃ A15l, ∃ A15c, V.cellsC (fun a_ x_ => World.cell? w13 a_ = some x_) ⟨Array.size (World.heap w4), 0, none⟩ [(Value.int .i64 n14), (Value.slice A15 A15l A15c)] ∧
  R (Ending.returned (Value.tuple #[(Value.agg #[(Value.int .i64 n14), (Value.slice A15 A15l A15c)]), (Value.int .i64 11)])) w13)
  (∃ n16, World.cell? w5 (Addr.add ⟨Array.size (World.heap w), 0, none⟩ 0) = some (Value.int .i64 n16) ∧
  V.sel (decide (n_3 < n16))
  (∃ n17, ∃ A18, ∃ A18l, ∃ A18c, V.cellsC (fun a_ x_ => World.cell? w5 a_ = some x_) ⟨Array.size (World.heap w), 0, none⟩ [(Value.int .i64 n17), (Value.slice A18 A18l A18c)] ∧
  ∃ w19, Sem.run Tryd.prog (Instr.storeAt 50 (Value.pointer (some ⟨Array.size (World.heap w4), 0, none⟩)) (Value.agg #[(Value.int .i64 n17), (Value.slice A18 A18l A18c)])) w5 = .ok () w19 ∧
  ∃ n20, ∃ A21, ∃ A21l, ∃ A21c, V.cellsC (fun a_ x_ => World.cell? w19 a_ = some x_) ⟨Array.size (World.heap w4), 0, none⟩ [(Value.int .i64 n20), (Value.slice A21 A21l A21c)] ∧
  R (Ending.returned (Value.tuple #[(Value.agg #[(Value.int .i64 n20), (Value.slice A21 A21l A21c)]), (Value.int .i64 13)])) w19)
  (∃ n22, ∃ A23, ∃ A23l, ∃ A23c, V.cellsC (fun a_ x_ => World.cell? w5 a_ = some x_) ⟨Array.size (World.heap w), 0, none⟩ [(Value.int .i64 n22), (Value.slice A23 A23l A23c)] ∧
  Calls Tryd.prog 93 #[(Value.agg #[(Value.int .i64 n22), (Value.slice A23 A23l A23c)])] w5 fun e25 w26 =>
  ∃ A24, ∃ A24l, ∃ A24c, e25 = Ending.returned (Value.slice A24 A24l A24c) ∧
  ∃ w27, Sem.run Tryd.prog (Instr.storeAt 50 (Value.pointer (some ⟨Array.size (World.heap w4), 0, none⟩)) (Value.agg #[(Value.int .i64 n_3), (Value.slice A24 A24l A24c)])) w26 = .ok () w27 ∧
  ∃ n28, ∃ A29, ∃ A29l, ∃ A29c, V.cellsC (fun a_ x_ => World.cell? w27 a_ = some x_) ⟨Array.size (World.heap w4), 0, none⟩ [(Value.int .i64 n28), (Value.slice A29 A29l A29c)] ∧
  R (Ending.returned (Value.tuple #[(Value.agg #[(Value.int .i64 n28), (Value.slice A29 A29l A29c)]), (Value.int .i64 0)])) w27)))) :
  Calls Tryd.prog 75 #[(Value.agg #[(Value.int .i64 s_1), (Value.slice s_2 s_2l s_2c)]), (Value.int .i64 n_3)] w R :=
  V.calls_of_R ⟨V.assoc [], V.assocP [], V.assocC [], V.assocS [], ⟨[], true⟩⟩ Tryd.func75 rfl (Eq.mp (by kernel_rfl) h)

theorem berthref01_AndWith_nf (s_1 : Int) (s_2 : Option Addr) (s_2l : Nat) (s_2c : Nat) (t_3 : Int) (t_4 : Option Addr) (t_4l : Nat) (t_4c : Nat) (w : World) (R : Ending → World → Prop) (h :
  ∀ w5, w5 = (World.alloc w (.cells #[(Value.int .i64 s_1), (Value.slice s_2 s_2l s_2c)] 50)) →
  ∀ w6, w6 = (World.alloc w5 (.cells #[(Value.int .i64 t_3), (Value.slice t_4 t_4l t_4c)] 50)) →
  ∀ w7, w7 = (World.alloc w6 (.cells #[(Value.int .i64 0), (Value.slice none 0 0)] 50)) →
  ∃ S8 : World → Prop, S8 (World.drew w7) ∧
  ∃ n10, (∀ w9, S8 w9 → World.cell? w9 (Addr.add ⟨Array.size (World.heap w), 0, none⟩ 0) = some (Value.int .i64 n10)) ∧
  ∃ A11, ∃ A11l, ∃ A11c, (∀ w9, S8 w9 → World.cell? w9 (Addr.add ⟨Array.size (World.heap w), 0, none⟩ 1) = some (Value.slice A11 A11l A11c)) ∧
  ∃ A12, ∃ A12l, ∃ A12c, (∀ w9, S8 w9 → World.cell? w9 (Addr.add ⟨Array.size (World.heap w5), 0, none⟩ 1) = some (Value.slice A12 A12l A12c)) ∧
  Calls Tryd.prog 92 #[(Value.slice A11 A11l A11c), (Value.slice A12 A12l A12c), (Value.bool false), (Value.bool false), (Value.bool true)] (World.drew w7) fun e14 w15 =>
  ∃ A13, ∃ A13l, ∃ A13c, e14 = Ending.returned (Value.slice A13 A13l A13c) ∧
  S8 w15 ∧
  ∃ w16, Sem.run Tryd.prog (Instr.storeAt 50 (Value.pointer (some ⟨Array.size (World.heap w6), 0, none⟩)) (Value.agg #[(Value.int .i64 n10), (Value.slice A13 A13l A13c)])) w15 = .ok () w16 ∧
  ∃ n17, ∃ A18, ∃ A18l, ∃ A18c, V.cellsC (fun a_ x_ => World.cell? w16 a_ = some x_) ⟨Array.size (World.heap w6), 0, none⟩ [(Value.int .i64 n17), (Value.slice A18 A18l A18c)] ∧
  R (Ending.returned (Value.agg #[(Value.int .i64 n17), (Value.slice A18 A18l A18c)])) w16) :
  Calls Tryd.prog 76 #[(Value.agg #[(Value.int .i64 s_1), (Value.slice s_2 s_2l s_2c)]), (Value.agg #[(Value.int .i64 t_3), (Value.slice t_4 t_4l t_4c)])] w R :=
  V.calls_of_R ⟨V.assoc [], V.assocP [(1, V.line [0, 1, 2, 3, 4, 5, 6, 7, 8])], V.assocC [], V.assocS [], ⟨[], true⟩⟩ Tryd.func76 rfl (Eq.mp (by kernel_rfl) h)

theorem berthref01_OrWith_nf (s_1 : Int) (s_2 : Option Addr) (s_2l : Nat) (s_2c : Nat) (t_3 : Int) (t_4 : Option Addr) (t_4l : Nat) (t_4c : Nat) (w : World) (R : Ending → World → Prop) (h :
  ∀ w5, w5 = (World.alloc w (.cells #[(Value.int .i64 s_1), (Value.slice s_2 s_2l s_2c)] 50)) →
  ∀ w6, w6 = (World.alloc w5 (.cells #[(Value.int .i64 t_3), (Value.slice t_4 t_4l t_4c)] 50)) →
  ∀ w7, w7 = (World.alloc w6 (.cells #[(Value.int .i64 0), (Value.slice none 0 0)] 50)) →
  ∃ n8, ∃ A9, ∃ A9l, ∃ A9c, V.cellsC (fun a_ x_ => World.cell? w7 a_ = some x_) ⟨Array.size (World.heap w5), 0, none⟩ [(Value.int .i64 n8), (Value.slice A9 A9l A9c)] ∧
  ∃ n10, World.cell? w7 (Addr.add ⟨Array.size (World.heap w), 0, none⟩ 0) = some (Value.int .i64 n10) ∧
  Calls Tryd.prog 95 #[(Value.agg #[(Value.int .i64 n8), (Value.slice A9 A9l A9c)]), (Value.int .i64 n10)] w7 fun e13 w14 =>
  ∃ n11, ∃ A12, ∃ A12l, ∃ A12c, e13 = Ending.returned (Value.agg #[(Value.int .i64 n11), (Value.slice A12 A12l A12c)]) ∧
  ∀ w15, w15 = (World.alloc w14 (.cells #[(Value.int .i64 0), (Value.slice none 0 0)] 50)) →
  ∃ w16, Sem.run Tryd.prog (Instr.storeAt 50 (Value.pointer (some ⟨Array.size (World.heap w14), 0, none⟩)) (Value.agg #[(Value.int .i64 n11), (Value.slice A12 A12l A12c)])) w15 = .ok () w16 ∧
  ∃ S17 : World → Prop, S17 (World.drew w16) ∧
  ∃ n19, (∀ w18, S17 w18 → World.cell? w18 (Addr.add ⟨Array.size (World.heap w), 0, none⟩ 0) = some (Value.int .i64 n19)) ∧
  ∃ A20, ∃ A20l, ∃ A20c, (∀ w18, S17 w18 → World.cell? w18 (Addr.add ⟨Array.size (World.heap w), 0, none⟩ 1) = some (Value.slice A20 A20l A20c)) ∧
  ∃ A21, ∃ A21l, ∃ A21c, (∀ w18, S17 w18 → World.cell? w18 (Addr.add ⟨Array.size (World.heap w14), 0, none⟩ 1) = some (Value.slice A21 A21l A21c)) ∧
  Calls Tryd.prog 92 #[(Value.slice A20 A20l A20c), (Value.slice A21 A21l A21c), (Value.bool true), (Value.bool true), (Value.bool true)] (World.drew w16) fun e23 w24 =>
  ∃ A22, ∃ A22l, ∃ A22c, e23 = Ending.returned (Value.slice A22 A22l A22c) ∧
  S17 w24 ∧
  ∃ w25, Sem.run Tryd.prog (Instr.storeAt 50 (Value.pointer (some ⟨Array.size (World.heap w6), 0, none⟩)) (Value.agg #[(Value.int .i64 n19), (Value.slice A22 A22l A22c)])) w24 = .ok () w25 ∧
  ∃ n26, ∃ A27, ∃ A27l, ∃ A27c, V.cellsC (fun a_ x_ => World.cell? w25 a_ = some x_) ⟨Array.size (World.heap w6), 0, none⟩ [(Value.int .i64 n26), (Value.slice A27 A27l A27c)] ∧
  R (Ending.returned (Value.agg #[(Value.int .i64 n26), (Value.slice A27 A27l A27c)])) w25) :
  Calls Tryd.prog 77 #[(Value.agg #[(Value.int .i64 s_1), (Value.slice s_2 s_2l s_2c)]), (Value.agg #[(Value.int .i64 t_3), (Value.slice t_4 t_4l t_4c)])] w R :=
  V.calls_of_R ⟨V.assoc [], V.assocP [(2, V.line [0, 1, 2, 3, 4, 5, 6, 7, 8])], V.assocC [], V.assocS [], ⟨[], true⟩⟩ Tryd.func77 rfl (Eq.mp (by kernel_rfl) h)

theorem berthref01_AndNotWith_nf (s_1 : Int) (s_2 : Option Addr) (s_2l : Nat) (s_2c : Nat) (t_3 : Int) (t_4 : Option Addr) (t_4l : Nat) (t_4c : Nat) (w : World) (R : Ending → World → Prop) (h :
  ∀ w5, w5 = (World.alloc w (.cells #[(Value.int .i64 s_1), (Value.slice s_2 s_2l s_2c)] 50)) →
  ∀ w6, w6 = (World.alloc w5 (.cells #[(Value.int .i64 t_3), (Value.slice t_4 t_4l t_4c)] 50)) →
  ∀ w7, w7 = (World.alloc w6 (.cells #[(Value.int .i64 0), (Value.slice none 0 0)] 50)) →
  ∃ S8 : World → Prop, S8 (World.drew w7) ∧
  ∃ n10, (∀ w9, S8 w9 → World.cell? w9 (Addr.add ⟨Array.size (World.heap w), 0, none⟩ 0) = some (Value.int .i64 n10)) ∧
  ∃ A11, ∃ A11l, ∃ A11c, (∀ w9, S8 w9 → World.cell? w9 (Addr.add ⟨Array.size (World.heap w), 0, none⟩ 1) = some (Value.slice A11 A11l A11c)) ∧
  ∃ A12, ∃ A12l, ∃ A12c, (∀ w9, S8 w9 → World.cell? w9 (Addr.add ⟨Array.size (World.heap w5), 0, none⟩ 1) = some (Value.slice A12 A12l A12c)) ∧
  Calls Tryd.prog 92 #[(Value.slice A11 A11l A11c), (Value.slice A12 A12l A12c), (Value.bool true), (Value.bool false), (Value.bool false)] (World.drew w7) fun e14 w15 =>
  ∃ A13, ∃ A13l, ∃ A13c, e14 = Ending.returned (Value.slice A13 A13l A13c) ∧
  S8 w15 ∧
  ∃ w16, Sem.run Tryd.prog (Instr.storeAt 50 (Value.pointer (some ⟨Array.size (World.heap w6), 0, none⟩)) (Value.agg #[(Value.int .i64 n10), (Value.slice A13 A13l A13c)])) w15 = .ok () w16 ∧
  ∃ n17, ∃ A18, ∃ A18l, ∃ A18c, V.cellsC (fun a_ x_ => World.cell? w16 a_ = some x_) ⟨Array.size (World.heap w6), 0, none⟩ [(Value.int .i64 n17), (Value.slice A18 A18l A18c)] ∧
  R (Ending.returned (Value.agg #[(Value.int .i64 n17), (Value.slice A18 A18l A18c)])) w16) :
  Calls Tryd.prog 78 #[(Value.agg #[(Value.int .i64 s_1), (Value.slice s_2 s_2l s_2c)]), (Value.agg #[(Value.int .i64 t_3), (Value.slice t_4 t_4l t_4c)])] w R :=
  V.calls_of_R ⟨V.assoc [], V.assocP [(1, V.line [0, 1, 2, 3, 4, 5, 6, 7, 8])], V.assocC [], V.assocS [], ⟨[], true⟩⟩ Tryd.func78 rfl (Eq.mp (by kernel_rfl) h)

theorem berthref01_Has_nf (s_1 : Int) (s_2 : Option Addr) (s_2l : Nat) (s_2c : Nat) (i_3 : Int) (w : World) (R : Ending → World → Prop) (h :
  ∀ w4, w4 = (World.alloc w (.cells #[(Value.int .i64 s_1), (Value.slice s_2 s_2l s_2c)] 50)) →
  ∃ n5, ∃ A6, ∃ A6l, ∃ A6c, V.cellsC (fun a_ x_ => World.cell? w4 a_ = some x_) ⟨Array.size (World.heap w), 0, none⟩ [(Value.int .i64 n5), (Value.slice A6 A6l A6c)] ∧
  Calls Tryd.prog 94 #[(Value.agg #[(Value.int .i64 n5), (Value.slice A6 A6l A6c)]), (Value.int .i64 i_3)] w4 fun e8 w9 =>
  ∃ n7, e8 = Ending.returned (Value.int .i64 n7) ∧
  ∃ A10, ∃ A10l, ∃ A10c, World.cell? w9 (Addr.add ⟨Array.size (World.heap w), 0, none⟩ 1) = some (Value.slice A10 A10l A10c) ∧
  V.sel (decide (n7 < ((A10l : Nat) : Int)))
  (∃ A11, ∃ A11l, ∃ A11c, World.cell? w9 (Addr.add ⟨Array.size (World.heap w), 0, none⟩ 1) = some (Value.slice A11 A11l A11c) ∧
  V.when (decide ((0 : Int) ≤ n7 ∧ (n7 : Int) < ((A11l : Nat) : Int))) (V.ptr A11 fun a12 =>
  ∃ n13, World.cell? w9 (Addr.add a12 ((Int.toNat n7) * 1)) = some (Value.int .i64 n13) ∧
  R (Ending.returned (Value.bool (n13 == i_3))) w9))
  (R (Ending.returned (Value.bool false)) w9)) :
  Calls Tryd.prog 79 #[(Value.agg #[(Value.int .i64 s_1), (Value.slice s_2 s_2l s_2c)]), (Value.int .i64 i_3)] w R :=
  V.calls_of_R ⟨V.assoc [], V.assocP [], V.assocC [], V.assocS [], ⟨[], true⟩⟩ Tryd.func79 rfl (Eq.mp (by kernel_rfl) h)

theorem berthref01_Next_nf (s_1 : Int) (s_2 : Option Addr) (s_2l : Nat) (s_2c : Nat) (i_3 : Int) (w : World) (R : Ending → World → Prop) (h :
  ∀ w4, w4 = (World.alloc w (.cells #[(Value.int .i64 s_1), (Value.slice s_2 s_2l s_2c)] 50)) →
  ∃ n5, ∃ A6, ∃ A6l, ∃ A6c, V.cellsC (fun a_ x_ => World.cell? w4 a_ = some x_) ⟨Array.size (World.heap w), 0, none⟩ [(Value.int .i64 n5), (Value.slice A6 A6l A6c)] ∧
  Calls Tryd.prog 94 #[(Value.agg #[(Value.int .i64 n5), (Value.slice A6 A6l A6c)]), (Value.int .i64 i_3)] w4 fun e8 w9 =>
  ∃ n7, e8 = Ending.returned (Value.int .i64 n7) ∧
  ∃ A10, ∃ A10l, ∃ A10c, World.cell? w9 (Addr.add ⟨Array.size (World.heap w), 0, none⟩ 1) = some (Value.slice A10 A10l A10c) ∧
  V.sel (decide (n7 < ((A10l : Nat) : Int)))
  (∃ A11, ∃ A11l, ∃ A11c, World.cell? w9 (Addr.add ⟨Array.size (World.heap w), 0, none⟩ 1) = some (Value.slice A11 A11l A11c) ∧
  V.when (decide ((0 : Int) ≤ n7 ∧ (n7 : Int) < ((A11l : Nat) : Int))) (V.ptr A11 fun a12 =>
  ∃ n13, World.cell? w9 (Addr.add a12 ((Int.toNat n7) * 1)) = some (Value.int .i64 n13) ∧
  R (Ending.returned (Value.int .i64 n13)) w9))
  (R (Ending.returned (Value.int .i64 (-1))) w9)) :
  Calls Tryd.prog 80 #[(Value.agg #[(Value.int .i64 s_1), (Value.slice s_2 s_2l s_2c)]), (Value.int .i64 i_3)] w R :=
  V.calls_of_R ⟨V.assoc [], V.assocP [], V.assocC [], V.assocS [], ⟨[], true⟩⟩ Tryd.func80 rfl (Eq.mp (by kernel_rfl) h)

theorem berthref01_Prev_nf (s_1 : Int) (s_2 : Option Addr) (s_2l : Nat) (s_2c : Nat) (i_3 : Int) (w : World) (R : Ending → World → Prop) (h :
  ∀ w4, w4 = (World.alloc w (.cells #[(Value.int .i64 s_1), (Value.slice s_2 s_2l s_2c)] 50)) →
  ∃ n5, ∃ A6, ∃ A6l, ∃ A6c, V.cellsC (fun a_ x_ => World.cell? w4 a_ = some x_) ⟨Array.size (World.heap w), 0, none⟩ [(Value.int .i64 n5), (Value.slice A6 A6l A6c)] ∧
  Calls Tryd.prog 94 #[(Value.agg #[(Value.int .i64 n5), (Value.slice A6 A6l A6c)]), (Value.int .i64 i_3)] w4 fun e8 w9 =>
  ∃ n7, e8 = Ending.returned (Value.int .i64 n7) ∧
  ∃ A10, ∃ A10l, ∃ A10c, World.cell? w9 (Addr.add ⟨Array.size (World.heap w), 0, none⟩ 1) = some (Value.slice A10 A10l A10c) ∧
  V.sel (decide (n7 < ((A10l : Nat) : Int)))
  (∃ A11, ∃ A11l, ∃ A11c, World.cell? w9 (Addr.add ⟨Array.size (World.heap w), 0, none⟩ 1) = some (Value.slice A11 A11l A11c) ∧
  V.when (decide ((0 : Int) ≤ n7 ∧ (n7 : Int) < ((A11l : Nat) : Int))) (V.ptr A11 fun a12 =>
  ∃ n13, World.cell? w9 (Addr.add a12 ((Int.toNat n7) * 1)) = some (Value.int .i64 n13) ∧
  V.sel (n13 == i_3)
  (R (Ending.returned (Value.int .i64 i_3)) w9)
  (V.sel (decide (n7 > 0))
  (∃ A14, ∃ A14l, ∃ A14c, World.cell? w9 (Addr.add ⟨Array.size (World.heap w), 0, none⟩ 1) = some (Value.slice A14 A14l A14c) ∧
  V.when (decide ((0 : Int) ≤ (IntKind.wrap .i64 (n7 - 1)) ∧ ((IntKind.wrap .i64 (n7 - 1)) : Int) < ((A14l : Nat) : Int))) (V.ptr A14 fun a15 =>
  ∃ n16, World.cell? w9 (Addr.add a15 ((Int.toNat (IntKind.wrap .i64 (n7 - 1))) * 1)) = some (Value.int .i64 n16) ∧
  R (Ending.returned (Value.int .i64 n16)) w9))
  (R (Ending.returned (Value.int .i64 (-1))) w9))))
  (V.sel (decide (n7 > 0))
  (∃ A17, ∃ A17l, ∃ A17c, World.cell? w9 (Addr.add ⟨Array.size (World.heap w), 0, none⟩ 1) = some (Value.slice A17 A17l A17c) ∧
  V.when (decide ((0 : Int) ≤ (IntKind.wrap .i64 (n7 - 1)) ∧ ((IntKind.wrap .i64 (n7 - 1)) : Int) < ((A17l : Nat) : Int))) (V.ptr A17 fun a18 =>
  ∃ n19, World.cell? w9 (Addr.add a18 ((Int.toNat (IntKind.wrap .i64 (n7 - 1))) * 1)) = some (Value.int .i64 n19) ∧
  R (Ending.returned (Value.int .i64 n19)) w9))
  (R (Ending.returned (Value.int .i64 (-1))) w9))) :
  Calls Tryd.prog 81 #[(Value.agg #[(Value.int .i64 s_1), (Value.slice s_2 s_2l s_2c)]), (Value.int .i64 i_3)] w R :=
  V.calls_of_R ⟨V.assoc [], V.assocP [], V.assocC [], V.assocS [], ⟨[], true⟩⟩ Tryd.func81 rfl (Eq.mp (by kernel_rfl) h)

theorem berthref01_Rank_nf (s_1 : Int) (s_2 : Option Addr) (s_2l : Nat) (s_2c : Nat) (i_3 : Int) (w : World) (R : Ending → World → Prop) (h :
  ∀ w4, w4 = (World.alloc w (.cells #[(Value.int .i64 s_1), (Value.slice s_2 s_2l s_2c)] 50)) →
  ∃ n5, ∃ A6, ∃ A6l, ∃ A6c, V.cellsC (fun a_ x_ => World.cell? w4 a_ = some x_) ⟨Array.size (World.heap w), 0, none⟩ [(Value.int .i64 n5), (Value.slice A6 A6l A6c)] ∧
  Calls Tryd.prog 94 #[(Value.agg #[(Value.int .i64 n5), (Value.slice A6 A6l A6c)]), (Value.int .i64 i_3)] w4 fun e8 w9 =>
  ∃ n7, e8 = Ending.returned (Value.int .i64 n7) ∧
  R (Ending.returned (Value.int .i64 n7)) w9) :
  Calls Tryd.prog 82 #[(Value.agg #[(Value.int .i64 s_1), (Value.slice s_2 s_2l s_2c)]), (Value.int .i64 i_3)] w R :=
  V.calls_of_R ⟨V.assoc [], V.assocP [], V.assocC [], V.assocS [], ⟨[], true⟩⟩ Tryd.func82 rfl (Eq.mp (by kernel_rfl) h)

theorem berthref01_Select_nf (s_1 : Int) (s_2 : Option Addr) (s_2l : Nat) (s_2c : Nat) (k_3 : Int) (w : World) (R : Ending → World → Prop) (h :
  ∀ w4, w4 = (World.alloc w (.cells #[(Value.int .i64 s_1), (Value.slice s_2 s_2l s_2c)] 50)) →
  V.sel (decide (k_3 < 0))
  (R (Ending.returned (Value.int .i64 (-1))) w4)
  (∃ A5, ∃ A5l, ∃ A5c, World.cell? w4 (Addr.add ⟨Array.size (World.heap w), 0, none⟩ 1) = some (Value.slice A5 A5l A5c) ∧
  V.sel (decide (k_3 ≥ ((A5l : Nat) : Int)))
  (R (Ending.returned (Value.int .i64 (-1))) w4)
  (∃ A6, ∃ A6l, ∃ A6c, World.cell? w4 (Addr.add ⟨Array.size (World.heap w), 0, none⟩ 1) = some (Value.slice A6 A6l A6c) ∧
  V.when (decide ((0 : Int) ≤ k_3 ∧ (k_3 : Int) < ((A6l : Nat) : Int))) (V.ptr A6 fun a7 =>
  ∃ n8, World.cell? w4 (Addr.add a7 ((Int.toNat k_3) * 1)) = some (Value.int .i64 n8) ∧
  R (Ending.returned (Value.int .i64 n8)) w4)))) :
  Calls Tryd.prog 83 #[(Value.agg #[(Value.int .i64 s_1), (Value.slice s_2 s_2l s_2c)]), (Value.int .i64 k_3)] w R :=
  V.calls_of_R ⟨V.assoc [], V.assocP [], V.assocC [], V.assocS [], ⟨[], true⟩⟩ Tryd.func83 rfl (Eq.mp (by kernel_rfl) h)

theorem berthref01_SameInts_nf (a_1 : Option Addr) (a_1l : Nat) (a_1c : Nat) (b_2 : Option Addr) (b_2l : Nat) (b_2c : Nat) (w : World) (R : Ending → World → Prop) (h :
  V.sel (((a_1l : Nat) : Int) != ((b_2l : Nat) : Int))
  (R (Ending.returned (Value.bool false)) w)
  (∃ I3 : Int → World → Prop, ∃ μ4 : Int → World → Nat, I3 0 w ∧
  ∀ i_5 (j6 : Nat → Value) (w7 : World), I3 i_5 w7 →
  (V.sel (decide (i_5 < ((a_1l : Nat) : Int)))
  (V.when (decide ((0 : Int) ≤ i_5 ∧ (i_5 : Int) < ((a_1l : Nat) : Int))) (V.ptr a_1 fun a8 =>
  ∃ n9, World.cell? w7 (Addr.add a8 ((Int.toNat i_5) * 1)) = some (Value.int .i64 n9) ∧
  V.when (decide ((0 : Int) ≤ i_5 ∧ (i_5 : Int) < ((b_2l : Nat) : Int))) (V.ptr b_2 fun a10 =>
  ∃ n11, World.cell? w7 (Addr.add a10 ((Int.toNat i_5) * 1)) = some (Value.int .i64 n11) ∧
  V.sel (n9 != n11)
  (R (Ending.returned (Value.bool false)) (World.drew w7))
  (I3 (IntKind.wrap .i64 (i_5 + 1)) (World.drew w7) ∧ μ4 (IntKind.wrap .i64 (i_5 + 1)) (World.drew w7) < μ4 i_5 w7))))
  (R (Ending.returned (Value.bool true)) w7)))) :
  Calls Tryd.prog 84 #[(Value.slice a_1 a_1l a_1c), (Value.slice b_2 b_2l b_2c)] w R :=
  V.calls_of_R ⟨V.assoc [(0, [5])], V.assocP [(6, V.line [0, 1, 2, 3, 4, 5, 6, 7, 8])], V.assocC [], V.assocS [], ⟨[], false⟩⟩ Tryd.func84 rfl (Eq.mp (by kernel_rfl) h)

theorem berthref01_SameWords_nf (a_1 : Option Addr) (a_1l : Nat) (a_1c : Nat) (b_2 : Option Addr) (b_2l : Nat) (b_2c : Nat) (w : World) (R : Ending → World → Prop) (h :
  V.sel (((a_1l : Nat) : Int) != ((b_2l : Nat) : Int))
  (R (Ending.returned (Value.bool false)) w)
  (∃ I3 : Int → World → Prop, ∃ μ4 : Int → World → Nat, I3 0 w ∧
  ∀ i_5 (j6 : Nat → Value) (w7 : World), I3 i_5 w7 →
  (V.sel (decide (i_5 < ((a_1l : Nat) : Int)))
  (V.when (decide ((0 : Int) ≤ i_5 ∧ (i_5 : Int) < ((a_1l : Nat) : Int))) (V.ptr a_1 fun a8 =>
  ∃ n9, World.cell? w7 (Addr.add a8 ((Int.toNat i_5) * 1)) = some (Value.int .u64 n9) ∧
  V.when (decide ((0 : Int) ≤ i_5 ∧ (i_5 : Int) < ((b_2l : Nat) : Int))) (V.ptr b_2 fun a10 =>
  ∃ n11, World.cell? w7 (Addr.add a10 ((Int.toNat i_5) * 1)) = some (Value.int .u64 n11) ∧
  V.sel (n9 != n11)
  (R (Ending.returned (Value.bool false)) (World.drew w7))
  (I3 (IntKind.wrap .i64 (i_5 + 1)) (World.drew w7) ∧ μ4 (IntKind.wrap .i64 (i_5 + 1)) (World.drew w7) < μ4 i_5 w7))))
  (R (Ending.returned (Value.bool true)) w7)))) :
  Calls Tryd.prog 85 #[(Value.slice a_1 a_1l a_1c), (Value.slice b_2 b_2l b_2c)] w R :=
  V.calls_of_R ⟨V.assoc [(0, [5])], V.assocP [(6, V.line [0, 1, 2, 3, 4, 5, 6, 7, 8])], V.assocC [], V.assocS [], ⟨[], false⟩⟩ Tryd.func85 rfl (Eq.mp (by kernel_rfl) h)

theorem berthref01_Words_nf (s_1 : Int) (s_2 : Option Addr) (s_2l : Nat) (s_2c : Nat) (w : World) (R : Ending → World → Prop) (h :
  ∀ w3, w3 = (World.alloc w (.cells #[(Value.int .i64 s_1), (Value.slice s_2 s_2l s_2c)] 50)) →
  ∃ n4, World.cell? w3 (Addr.add ⟨Array.size (World.heap w), 0, none⟩ 0) = some (Value.int .i64 n4) ∧
  V.when (decide ((0 : Int) ≤ (IntKind.wrap .i64 (Int.tdiv (IntKind.wrap .i64 (n4 + 63)) 64)) ∧ ((IntKind.wrap .i64 (Int.tdiv (IntKind.wrap .i64 (n4 + 63)) 64)) : Int) ≤ (IntKind.wrap .i64 (Int.tdiv (IntKind.wrap .i64 (n4 + 63)) 64)) ∧ ((IntKind.wrap .i64 (Int.tdiv (IntKind.wrap .i64 (n4 + 63)) 64)) : Int) ≤ 281474976710656 ∧ (8 : Int) * (IntKind.wrap .i64 (Int.tdiv (IntKind.wrap .i64 (n4 + 63)) 64)) ≤ 281474976710656)) (∀ w5, w5 = (World.alloc w3 (.cells ⟨V.rep (Int.toNat (IntKind.wrap .i64 (Int.tdiv (IntKind.wrap .i64 (n4 + 63)) 64))) [(Value.int .u64 0)]⟩ 63)) →
  ∃ I6 : Int → World → Prop, ∃ μ7 : Int → World → Nat, I6 0 w5 ∧
  ∀ i_8 (j9 : Nat → Value) (w10 : World), I6 i_8 w10 →
  (∃ A11, ∃ A11l, ∃ A11c, World.cell? w10 (Addr.add ⟨Array.size (World.heap w), 0, none⟩ 1) = some (Value.slice A11 A11l A11c) ∧
  V.sel (decide (i_8 < ((A11l : Nat) : Int)))
  (∃ I12 : Int → Int → World → Prop, ∃ μ13 : Int → Int → World → Nat, I12 1 0 w10 ∧
  ∀ v_14 b_15 (j16 : Nat → Value) (w17 : World), I12 v_14 b_15 w17 →
  (∃ A18, ∃ A18l, ∃ A18c, World.cell? w17 (Addr.add ⟨Array.size (World.heap w), 0, none⟩ 1) = some (Value.slice A18 A18l A18c) ∧
  V.when (decide ((0 : Int) ≤ i_8 ∧ (i_8 : Int) < ((A18l : Nat) : Int))) (V.ptr A18 fun a19 =>
  ∃ n20, World.cell? w17 (Addr.add a19 ((Int.toNat i_8) * 1)) = some (Value.int .i64 n20) ∧
  V.sel (decide (b_15 < (Int.tmod n20 64)))
  (I12 (IntKind.wrap .u64 (2 * v_14)) (IntKind.wrap .i64 (b_15 + 1)) w17 ∧ μ13 (IntKind.wrap .u64 (2 * v_14)) (IntKind.wrap .i64 (b_15 + 1)) w17 < μ13 v_14 b_15 w17)
  (∃ A21, ∃ A21l, ∃ A21c, World.cell? w17 (Addr.add ⟨Array.size (World.heap w), 0, none⟩ 1) = some (Value.slice A21 A21l A21c) ∧
  V.when (decide ((0 : Int) ≤ i_8 ∧ (i_8 : Int) < ((A21l : Nat) : Int))) (V.ptr A21 fun a22 =>
  ∃ n23, World.cell? w17 (Addr.add a22 ((Int.toNat i_8) * 1)) = some (Value.int .i64 n23) ∧
  ∃ A24, ∃ A24l, ∃ A24c, World.cell? w17 (Addr.add ⟨Array.size (World.heap w), 0, none⟩ 1) = some (Value.slice A24 A24l A24c) ∧
  V.when (decide ((0 : Int) ≤ i_8 ∧ (i_8 : Int) < ((A24l : Nat) : Int))) (V.ptr A24 fun a25 =>
  ∃ n26, World.cell? w17 (Addr.add a25 ((Int.toNat i_8) * 1)) = some (Value.int .i64 n26) ∧
  V.when (decide ((0 : Int) ≤ (IntKind.wrap .i64 (Int.tdiv n26 64)) ∧ ((IntKind.wrap .i64 (Int.tdiv n26 64)) : Int) < (((Int.toNat (IntKind.wrap .i64 (Int.tdiv (IntKind.wrap .i64 (n4 + 63)) 64))) : Nat) : Int))) (∃ n27, World.cell? w17 (Addr.add ⟨Array.size (World.heap w3), 0, none⟩ ((Int.toNat (IntKind.wrap .i64 (Int.tdiv n26 64))) * 1)) = some (Value.int .u64 n27) ∧
  V.when (decide ((0 : Int) ≤ (IntKind.wrap .i64 (Int.tdiv n23 64)) ∧ ((IntKind.wrap .i64 (Int.tdiv n23 64)) : Int) < (((Int.toNat (IntKind.wrap .i64 (Int.tdiv (IntKind.wrap .i64 (n4 + 63)) 64))) : Nat) : Int))) (∃ w28, Sem.run Tryd.prog (Instr.storeAt 63 (Value.pointer (some (Addr.add ⟨Array.size (World.heap w3), 0, none⟩ ((Int.toNat (IntKind.wrap .i64 (Int.tdiv n23 64))) * 1)))) (Value.int .u64 (IntKind.wrap .u64 (n27 + v_14)))) (World.drew w17) = .ok () w28 ∧
  I6 (IntKind.wrap .i64 (i_8 + 1)) w28 ∧ μ7 (IntKind.wrap .i64 (i_8 + 1)) w28 < μ7 i_8 w10))))))))
  (R (Ending.returned (Value.slice (some ⟨Array.size (World.heap w3), 0, none⟩) (Int.toNat (IntKind.wrap .i64 (Int.tdiv (IntKind.wrap .i64 (n4 + 63)) 64))) (Int.toNat (IntKind.wrap .i64 (Int.tdiv (IntKind.wrap .i64 (n4 + 63)) 64))))) w10)))) :
  Calls Tryd.prog 86 #[(Value.agg #[(Value.int .i64 s_1), (Value.slice s_2 s_2l s_2c)])] w R :=
  V.calls_of_R ⟨V.assoc [(0, [4]), (1, [5, 6])], V.assocP [(10, V.line [0, 1, 2, 3, 4, 5, 6, 7, 8, 9, 10, 11, 12, 13, 14, 15, 16, 17, 18, 19])], V.assocC [], V.assocS [], ⟨[], true⟩⟩ Tryd.func86 rfl (Eq.mp (by kernel_rfl) h)

theorem berthref01_Subset_nf (a_1 : Int) (a_2 : Option Addr) (a_2l : Nat) (a_2c : Nat) (b_3 : Int) (b_4 : Option Addr) (b_4l : Nat) (b_4c : Nat) (w : World) (R : Ending → World → Prop) (h :
  ∀ w5, w5 = (World.alloc w (.cells #[(Value.int .i64 a_1), (Value.slice a_2 a_2l a_2c)] 50)) →
  ∀ w6, w6 = (World.alloc w5 (.cells #[(Value.int .i64 b_3), (Value.slice b_4 b_4l b_4c)] 50)) →
  ∃ A7, ∃ A7l, ∃ A7c, World.cell? w6 (Addr.add ⟨Array.size (World.heap w), 0, none⟩ 1) = some (Value.slice A7 A7l A7c) ∧
  ∃ A8, ∃ A8l, ∃ A8c, World.cell? w6 (Addr.add ⟨Array.size (World.heap w5), 0, none⟩ 1) = some (Value.slice A8 A8l A8c) ∧
  Calls Tryd.prog 92 #[(Value.slice A7 A7l A7c), (Value.slice A8 A8l A8c), (Value.bool true), (Value.bool false), (Value.bool false)] w6 fun e10 w11 =>
  ∃ A9, ∃ A9l, ∃ A9c, e10 = Ending.returned (Value.slice A9 A9l A9c) ∧
  R (Ending.returned (Value.bool (((A9l : Nat) : Int) == 0))) w11) :
  Calls Tryd.prog 87 #[(Value.agg #[(Value.int .i64 a_1), (Value.slice a_2 a_2l a_2c)]), (Value.agg #[(Value.int .i64 b_3), (Value.slice b_4 b_4l b_4c)])] w R :=
  V.calls_of_R ⟨V.assoc [], V.assocP [], V.assocC [], V.assocS [], ⟨[], true⟩⟩ Tryd.func87 rfl (Eq.mp (by kernel_rfl) h)

theorem berthref01_Meets_nf (a_1 : Int) (a_2 : Option Addr) (a_2l : Nat) (a_2c : Nat) (b_3 : Int) (b_4 : Option Addr) (b_4l : Nat) (b_4c : Nat) (w : World) (R : Ending → World → Prop) (h :
  ∀ w5, w5 = (World.alloc w (.cells #[(Value.int .i64 a_1), (Value.slice a_2 a_2l a_2c)] 50)) →
  ∀ w6, w6 = (World.alloc w5 (.cells #[(Value.int .i64 b_3), (Value.slice b_4 b_4l b_4c)] 50)) →
  ∃ A7, ∃ A7l, ∃ A7c, World.cell? w6 (Addr.add ⟨Array.size (World.heap w), 0, none⟩ 1) = some (Value.slice A7 A7l A7c) ∧
  ∃ A8, ∃ A8l, ∃ A8c, World.cell? w6 (Addr.add ⟨Array.size (World.heap w5), 0, none⟩ 1) = some (Value.slice A8 A8l A8c) ∧
  Calls Tryd.prog 92 #[(Value.slice A7 A7l A7c), (Value.slice A8 A8l A8c), (Value.bool false), (Value.bool false), (Value.bool true)] w6 fun e10 w11 =>
  ∃ A9, ∃ A9l, ∃ A9c, e10 = Ending.returned (Value.slice A9 A9l A9c) ∧
  R (Ending.returned (Value.bool (decide (((A9l : Nat) : Int) > 0)))) w11) :
  Calls Tryd.prog 88 #[(Value.agg #[(Value.int .i64 a_1), (Value.slice a_2 a_2l a_2c)]), (Value.agg #[(Value.int .i64 b_3), (Value.slice b_4 b_4l b_4c)])] w R :=
  V.calls_of_R ⟨V.assoc [], V.assocP [], V.assocC [], V.assocS [], ⟨[], true⟩⟩ Tryd.func88 rfl (Eq.mp (by kernel_rfl) h)

theorem berthref01_Equal_nf (a_1 : Int) (a_2 : Option Addr) (a_2l : Nat) (a_2c : Nat) (b_3 : Int) (b_4 : Option Addr) (b_4l : Nat) (b_4c : Nat) (w : World) (R : Ending → World → Prop) (h :
  ∀ w5, w5 = (World.alloc w (.cells #[(Value.int .i64 a_1), (Value.slice a_2 a_2l a_2c)] 50)) →
  ∀ w6, w6 = (World.alloc w5 (.cells #[(Value.int .i64 b_3), (Value.slice b_4 b_4l b_4c)] 50)) →
  ∃ A7, ∃ A7l, ∃ A7c, World.cell? w6 (Addr.add ⟨Array.size (World.heap w), 0, none⟩ 1) = some (Value.slice A7 A7l A7c) ∧
  ∃ A8, ∃ A8l, ∃ A8c, World.cell? w6 (Addr.add ⟨Array.size (World.heap w5), 0, none⟩ 1) = some (Value.slice A8 A8l A8c) ∧
  Calls Tryd.prog 92 #[(Value.slice A7 A7l A7c), (Value.slice A8 A8l A8c), (Value.bool true), (Value.bool true), (Value.bool false)] w6 fun e10 w11 =>
  ∃ A9, ∃ A9l, ∃ A9c, e10 = Ending.returned (Value.slice A9 A9l A9c) ∧
  R (Ending.returned (Value.bool (((A9l : Nat) : Int) == 0))) w11) :
  Calls Tryd.prog 89 #[(Value.agg #[(Value.int .i64 a_1), (Value.slice a_2 a_2l a_2c)]), (Value.agg #[(Value.int .i64 b_3), (Value.slice b_4 b_4l b_4c)])] w R :=
  V.calls_of_R ⟨V.assoc [], V.assocP [], V.assocC [], V.assocS [], ⟨[], true⟩⟩ Tryd.func89 rfl (Eq.mp (by kernel_rfl) h)

theorem berthref01_bit_nf (w_1 : Int) (b_2 : Int) (w : World) (R : Ending → World → Prop) (h :
  ∃ I3 : Int → Int → World → Prop, ∃ μ4 : Int → Int → World → Nat, I3 w_1 0 w ∧
  ∀ w_5 i_6 (j7 : Nat → Value) (w8 : World), I3 w_5 i_6 w8 →
  (V.sel (decide (i_6 < b_2))
  (I3 (IntKind.wrap .u64 (Int.tdiv w_5 2)) (IntKind.wrap .i64 (i_6 + 1)) w8 ∧ μ4 (IntKind.wrap .u64 (Int.tdiv w_5 2)) (IntKind.wrap .i64 (i_6 + 1)) w8 < μ4 w_5 i_6 w8)
  (R (Ending.returned (Value.bool ((Int.tmod w_5 2) == 1))) w8))) :
  Calls Tryd.prog 90 #[(Value.int .u64 w_1), (Value.int .i64 b_2)] w R :=
  V.calls_of_R ⟨V.assoc [(0, [0, 5])], V.assocP [], V.assocC [], V.assocS [], ⟨[], true⟩⟩ Tryd.func90 rfl (Eq.mp (by kernel_rfl) h)

theorem berthref01_larger_nf (a_1 : Int) (a_2 : Option Addr) (a_2l : Nat) (a_2c : Nat) (b_3 : Int) (b_4 : Option Addr) (b_4l : Nat) (b_4c : Nat) (w : World) (R : Ending → World → Prop) (h :
  ∀ w5, w5 = (World.alloc w (.cells #[(Value.int .i64 a_1), (Value.slice a_2 a_2l a_2c)] 50)) →
  ∀ w6, w6 = (World.alloc w5 (.cells #[(Value.int .i64 b_3), (Value.slice b_4 b_4l b_4c)] 50)) →
  ∃ n7, World.cell? w6 (Addr.add ⟨Array.size (World.heap w), 0, none⟩ 0) = some (Value.int .i64 n7) ∧
  ∃ n8, World.cell? w6 (Addr.add ⟨Array.size (World.heap w5), 0, none⟩ 0) = some (Value.int .i64 n8) ∧
  V.sel (decide (n7 > n8))
  (∃ n9, World.cell? w6 (Addr.add ⟨Array.size (World.heap w), 0, none⟩ 0) = some (Value.int .i64 n9) ∧
  R (Ending.returned (Value.int .i64 n9)) w6)
  (∃ n10, World.cell? w6 (Addr.add ⟨Array.size (World.heap w5), 0, none⟩ 0) = some (Value.int .i64 n10) ∧
  R (Ending.returned (Value.int .i64 n10)) w6)) :
  Calls Tryd.prog 91 #[(Value.agg #[(Value.int .i64 a_1), (Value.slice a_2 a_2l a_2c)]), (Value.agg #[(Value.int .i64 b_3), (Value.slice b_4 b_4l b_4c)])] w R :=
  V.calls_of_R ⟨V.assoc [], V.assocP [], V.assocC [], V.assocS [], ⟨[], true⟩⟩ Tryd.func91 rfl (Eq.mp (by kernel_rfl) h)

end Go.Proofs.YtbaglnffgbnekaaDoor
