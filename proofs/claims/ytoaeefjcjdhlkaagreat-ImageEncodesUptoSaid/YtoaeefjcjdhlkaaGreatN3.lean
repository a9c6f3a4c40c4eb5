/- Normal forms of the program's functions, printed by a program of mine; the kernel checks each. -/
import Derived.Test.YtoaeefjcjdhlkaaGreatProg
import Derived.Test.YtoaeefjcjdhlkaaGreatV4
set_option linter.unusedVariables false
set_option maxRecDepth 100000
namespace Go.Proofs.YtoaeefjcjdhlkaaGreat
open Go

theorem berthref26_In_state_nf (r_1 : Option Addr) (w : World) (R : Ending → World → Prop) (h :
  ∀ w2, w2 = (World.alloc w (.cells #[(Value.int .i64 0), (Value.int .i64 0), (Value.slice none 0 0), (Value.slice none 0 0), (Value.slice none 0 0)] 26)) →
  ∀ w3, w3 = (World.alloc w2 (.cells #[(Value.int .i64 0), (Value.int .i64 0), (Value.slice none 0 0), (Value.slice none 0 0), (Value.slice none 0 0)] 26)) →
  ∃ w4, Sem.run Tryz.prog (Instr.storeAt 26 (Value.pointer (some ⟨Array.size (World.heap w2), 0, none⟩)) (Value.agg #[(Value.int .i64 0), (Value.int .i64 0), (Value.slice none 0 0), (Value.slice none 0 0), (Value.slice none 0 0)])) w3 = .ok () w4 ∧
  Calls Tryz.prog 96 #[(Value.pointer r_1)] w4 fun e6 w7 =>
  ∃ n5, e6 = Ending.returned (Value.int .i64 n5) ∧
  ∃ w8, Sem.run Tryz.prog (Instr.storeAt 3 (Value.pointer (some (Addr.add ⟨Array.size (World.heap w2), 0, none⟩ 0))) (Value.int .i64 n5)) w7 = .ok () w8 ∧
  Calls Tryz.prog 96 #[(Value.pointer r_1)] w8 fun e10 w11 =>
  ∃ n9, e10 = Ending.returned (Value.int .i64 n9) ∧
  ∃ w12, Sem.run Tryz.prog (Instr.storeAt 3 (Value.pointer (some (Addr.add ⟨Array.size (World.heap w2), 0, none⟩ 1))) (Value.int .i64 n9)) w11 = .ok () w12 ∧
  Calls Tryz.prog 95 #[(Value.pointer r_1)] w12 fun e14 w15 =>
  ∃ n13, e14 = Ending.returned (Value.int .i64 n13) ∧
  ∃ J16 : World → Prop, (∃ I17 : Int → World → Prop, ∃ μ18 : Int → World → Nat, I17 0 w15 ∧
  ∀ i_19 (j20 : Nat → Value) (w21 : World), I17 i_19 w21 →
  (∃ J22 : World → Prop, (V.sel (decide (i_19 < n13))
  (V.ptr r_1 fun a23 =>
  ∃ n24, World.cell? w21 (Addr.add a23 6) = some (Value.int .i64 n24) ∧
  V.sel (n24 == 0)
  (J22  w21)
  (J16  w21))
  (J16  w21)) ∧
  ∀ (j25 : Nat → Value) (w26 : World), J22  w26 →
  Calls Tryz.prog 97 #[(Value.pointer r_1)] w26 fun e32 w33 =>
  ∃ s27, ∃ A28, ∃ A28l, ∃ A28c, ∃ A29, ∃ A29l, ∃ A29c, ∃ A30, ∃ A30l, ∃ A30c, ∃ b31, e32 = Ending.returned (Value.agg #[(Value.string s27), (Value.slice A28 A28l A28c), (Value.slice A29 A29l A29c), (Value.slice A30 A30l A30c), (Value.bool b31)]) ∧
  ∀ w34, w34 = (World.alloc w33 (.cells #[(Value.string ByteArray.empty), (Value.slice none 0 0), (Value.slice none 0 0), (Value.slice none 0 0), (Value.bool false)] 53)) →
  ∃ w35, Sem.run Tryz.prog (Instr.storeAt 53 (Value.pointer (some ⟨Array.size (World.heap w33), 0, none⟩)) (Value.agg #[(Value.string s27), (Value.slice A28 A28l A28c), (Value.slice A29 A29l A29c), (Value.slice A30 A30l A30c), (Value.bool b31)])) w34 = .ok () w35 ∧
  ∃ A36, ∃ A36l, ∃ A36c, World.cell? w35 (Addr.add ⟨Array.size (World.heap w2), 0, none⟩ 2) = some (Value.slice A36 A36l A36c) ∧
  ∃ s37, ∃ A38, ∃ A38l, ∃ A38c, ∃ A39, ∃ A39l, ∃ A39c, ∃ A40, ∃ A40l, ∃ A40c, ∃ b41, V.cellsC (fun a_ x_ => World.cell? w35 a_ = some x_) ⟨Array.size (World.heap w33), 0, none⟩ [(Value.string s37), (Value.slice A38 A38l A38c), (Value.slice A39 A39l A39c), (Value.slice A40 A40l A40c), (Value.bool b41)] ∧
  ∀ w42, w42 = (World.alloc w35 (.cells #[(Value.string s37), (Value.slice A38 A38l A38c), (Value.slice A39 A39l A39c), (Value.slice A40 A40l A40c), (Value.bool b41)] 53)) →
  ∃ A43, ∃ A43l, ∃ A43c, ∃ w44, Sem.run Tryz.prog (Builtin.append_ #[22, 22] 22 #[(Value.slice A36 A36l A36c), (Value.slice (some ⟨Array.size (World.heap w35), 0, none⟩) 1 1)]) w42 = .ok (Value.slice A43 A43l A43c) w44 ∧
  ∃ w45, Sem.run Tryz.prog (Instr.storeAt 22 (Value.pointer (some (Addr.add ⟨Array.size (World.heap w2), 0, none⟩ 2))) (Value.slice A43 A43l A43c)) w44 = .ok () w45 ∧
  I17 (IntKind.wrap .i64 (i_19 + 1)) w45 ∧ μ18 (IntKind.wrap .i64 (i_19 + 1)) w45 < μ18 i_19 w21)) ∧
  ∀ (j46 : Nat → Value) (w47 : World), J16  w47 →
  Calls Tryz.prog 95 #[(Value.pointer r_1)] w47 fun e49 w50 =>
  ∃ n48, e49 = Ending.returned (Value.int .i64 n48) ∧
  ∃ J51 : World → Prop, (∃ I52 : Int → World → Prop, ∃ μ53 : Int → World → Nat, I52 0 w50 ∧
  ∀ i_54 (j55 : Nat → Value) (w56 : World), I52 i_54 w56 →
  (∃ J57 : World → Prop, (V.sel (decide (i_54 < n48))
  (V.ptr r_1 fun a58 =>
  ∃ n59, World.cell? w56 (Addr.add a58 6) = some (Value.int .i64 n59) ∧
  V.sel (n59 == 0)
  (J57  w56)
  (J51  w56))
  (J51  w56)) ∧
  ∀ (j60 : Nat → Value) (w61 : World), J57  w61 →
  ∀ w62, w62 = (World.alloc w61 (.cells #[(Value.string ByteArray.empty), (Value.slice none 0 0), (Value.slice none 0 0), (Value.slice none 0 0), (Value.string ByteArray.empty), (Value.slice none 0 0), (Value.slice none 0 0), (Value.int .i64 0), (Value.string ByteArray.empty)] 71)) →
  ∃ w63, Sem.run Tryz.prog (Instr.storeAt 71 (Value.pointer (some ⟨Array.size (World.heap w61), 0, none⟩)) (Value.agg #[(Value.string ByteArray.empty), (Value.slice none 0 0), (Value.slice none 0 0), (Value.slice none 0 0), (Value.string ByteArray.empty), (Value.slice none 0 0), (Value.slice none 0 0), (Value.int .i64 0), (Value.string ByteArray.empty)])) w62 = .ok () w63 ∧
  Calls Tryz.prog 98 #[(Value.pointer r_1)] w63 fun e72 w73 =>
  ∃ s64, ∃ A65, ∃ A65l, ∃ A65c, ∃ A66, ∃ A66l, ∃ A66c, ∃ A67, ∃ A67l, ∃ A67c, ∃ s68, ∃ A69, ∃ A69l, ∃ A69c, ∃ A70, ∃ A70l, ∃ A70c, ∃ n71, e72 = Ending.returned (Value.agg #[(Value.string s64), (Value.slice A65 A65l A65c), (Value.slice A66 A66l A66c), (Value.slice A67 A67l A67c), (Value.string s68), (Value.slice A69 A69l A69c), (Value.slice A70 A70l A70c), (Value.int .i64 n71)]) ∧
  ∃ w74, Sem.run Tryz.prog (Instr.storeAt 68 (Value.pointer (some (Addr.add ⟨Array.size (World.heap w61), 0, none⟩ 0))) (Value.agg #[(Value.string s64), (Value.slice A65 A65l A65c), (Value.slice A66 A66l A66c), (Value.slice A67 A67l A67c), (Value.string s68), (Value.slice A69 A69l A69c), (Value.slice A70 A70l A70c), (Value.int .i64 n71)])) w73 = .ok () w74 ∧
  Calls Tryz.prog 99 #[(Value.pointer r_1)] w74 fun e76 w77 =>
  ∃ s75, e76 = Ending.returned (Value.string s75) ∧
  ∃ w78, Sem.run Tryz.prog (Instr.storeAt 9 (Value.pointer (some (Addr.add ⟨Array.size (World.heap w61), 0, none⟩ 8))) (Value.string s75)) w77 = .ok () w78 ∧
  ∃ A79, ∃ A79l, ∃ A79c, World.cell? w78 (Addr.add ⟨Array.size (World.heap w2), 0, none⟩ 3) = some (Value.slice A79 A79l A79c) ∧
  ∃ s80, ∃ A81, ∃ A81l, ∃ A81c, ∃ A82, ∃ A82l, ∃ A82c, ∃ A83, ∃ A83l, ∃ A83c, ∃ s84, ∃ A85, ∃ A85l, ∃ A85c, ∃ A86, ∃ A86l, ∃ A86c, ∃ n87, ∃ s88, V.cellsC (fun a_ x_ => World.cell? w78 a_ = some x_) ⟨Array.size (World.heap w61), 0, none⟩ [(Value.string s80), (Value.slice A81 A81l A81c), (Value.slice A82 A82l A82c), (Value.slice A83 A83l A83c), (Value.string s84), (Value.slice A85 A85l A85c), (Value.slice A86 A86l A86c), (Value.int .i64 n87), (Value.string s88)] ∧
  ∀ w89, w89 = (World.alloc w78 (.cells #[(Value.string s80), (Value.slice A81 A81l A81c), (Value.slice A82 A82l A82c), (Value.slice A83 A83l A83c), (Value.string s84), (Value.slice A85 A85l A85c), (Value.slice A86 A86l A86c), (Value.int .i64 n87), (Value.string s88)] 71)) →
  ∃ A90, ∃ A90l, ∃ A90c, ∃ w91, Sem.run Tryz.prog (Builtin.append_ #[23, 23] 23 #[(Value.slice A79 A79l A79c), (Value.slice (some ⟨Array.size (World.heap w78), 0, none⟩) 1 1)]) w89 = .ok (Value.slice A90 A90l A90c) w91 ∧
  ∃ w92, Sem.run Tryz.prog (Instr.storeAt 23 (Value.pointer (some (Addr.add ⟨Array.size (World.heap w2), 0, none⟩ 3))) (Value.slice A90 A90l A90c)) w91 = .ok () w92 ∧
  I52 (IntKind.wrap .i64 (i_54 + 1)) w92 ∧ μ53 (IntKind.wrap .i64 (i_54 + 1)) w92 < μ53 i_54 w56)) ∧
  ∀ (j93 : Nat → Value) (w94 : World), J51  w94 →
  Calls Tryz.prog 95 #[(Value.pointer r_1)] w94 fun e96 w97 =>
  ∃ n95, e96 = Ending.returned (Value.int .i64 n95) ∧
  ∃ I98 : Int → World → Prop, ∃ μ99 : Int → World → Nat, I98 0 w97 ∧
  ∀ i_100 (j101 : Nat → Value) (w102 : World), I98 i_100 w102 →
  (∃ J103 : World → Prop, (V.sel (decide (i_100 < n95))
  (V.ptr r_1 fun a104 =>
  ∃ n105, World.cell? w102 (Addr.add a104 6) = some (Value.int .i64 n105) ∧
  V.sel (n105 == 0)
  (J103  w102)
  (∃ n106, ∃ n107, ∃ A108, ∃ A108l, ∃ A108c, ∃ A109, ∃ A109l, ∃ A109c, ∃ A110, ∃ A110l, ∃ A110c, V.cellsC (fun a_ x_ => World.cell? w102 a_ = some x_) ⟨Array.size (World.heap w2), 0, none⟩ [(Value.int .i64 n106), (Value.int .i64 n107), (Value.slice A108 A108l A108c), (Value.slice A109 A109l A109c), (Value.slice A110 A110l A110c)] ∧
  ∃ w111, Sem.run Tryz.prog (Instr.storeAt 26 (Value.pointer (some ⟨Array.size (World.heap w), 0, none⟩)) (Value.agg #[(Value.int .i64 n106), (Value.int .i64 n107), (Value.slice A108 A108l A108c), (Value.slice A109 A109l A109c), (Value.slice A110 A110l A110c)])) w102 = .ok () w111 ∧
  ∃ n112, ∃ n113, ∃ A114, ∃ A114l, ∃ A114c, ∃ A115, ∃ A115l, ∃ A115c, ∃ A116, ∃ A116l, ∃ A116c, V.cellsC (fun a_ x_ => World.cell? w111 a_ = some x_) ⟨Array.size (World.heap w), 0, none⟩ [(Value.int .i64 n112), (Value.int .i64 n113), (Value.slice A114 A114l A114c), (Value.slice A115 A115l A115c), (Value.slice A116 A116l A116c)] ∧
  R (Ending.returned (Value.agg #[(Value.int .i64 n112), (Value.int .i64 n113), (Value.slice A114 A114l A114c), (Value.slice A115 A115l A115c), (Value.slice A116 A116l A116c)])) w111))
  (∃ n117, ∃ n118, ∃ A119, ∃ A119l, ∃ A119c, ∃ A120, ∃ A120l, ∃ A120c, ∃ A121, ∃ A121l, ∃ A121c, V.cellsC (fun a_ x_ => World.cell? w102 a_ = some x_) ⟨Array.size (World.heap w2), 0, none⟩ [(Value.int .i64 n117), (Value.int .i64 n118), (Value.slice A119 A119l A119c), (Value.slice A120 A120l A120c), (Value.slice A121 A121l A121c)] ∧
  ∃ w122, Sem.run Tryz.prog (Instr.storeAt 26 (Value.pointer (some ⟨Array.size (World.heap w), 0, none⟩)) (Value.agg #[(Value.int .i64 n117), (Value.int .i64 n118), (Value.slice A119 A119l A119c), (Value.slice A120 A120l A120c), (Value.slice A121 A121l A121c)])) w102 = .ok () w122 ∧
  ∃ n123, ∃ n124, ∃ A125, ∃ A125l, ∃ A125c, ∃ A126, ∃ A126l, ∃ A126c, ∃ A127, ∃ A127l, ∃ A127c, V.cellsC (fun a_ x_ => World.cell? w122 a_ = some x_) ⟨Array.size (World.heap w), 0, none⟩ [(Value.int .i64 n123), (Value.int .i64 n124), (Value.slice A125 A125l A125c), (Value.slice A126 A126l A126c), (Value.slice A127 A127l A127c)] ∧
  R (Ending.returned (Value.agg #[(Value.int .i64 n123), (Value.int .i64 n124), (Value.slice A125 A125l A125c), (Value.slice A126 A126l A126c), (Value.slice A127 A127l A127c)])) w122)) ∧
  ∀ (j128 : Nat → Value) (w129 : World), J103  w129 →
  ∀ w130, w130 = (World.alloc w129 (.cells #[(Value.string ByteArray.empty), (Value.slice none 0 0), (Value.slice none 0 0), (Value.slice none 0 0), (Value.string ByteArray.empty), (Value.slice none 0 0), (Value.slice none 0 0), (Value.int .i64 0), (Value.int .i64 0), (Value.int .i64 0), (Value.int .i64 0), (Value.bool false)] 73)) →
  ∃ w131, Sem.run Tryz.prog (Instr.storeAt 73 (Value.pointer (some ⟨Array.size (World.heap w129), 0, none⟩)) (Value.agg #[(Value.string ByteArray.empty), (Value.slice none 0 0), (Value.slice none 0 0), (Value.slice none 0 0), (Value.string ByteArray.empty), (Value.slice none 0 0), (Value.slice none 0 0), (Value.int .i64 0), (Value.int .i64 0), (Value.int .i64 0), (Value.int .i64 0), (Value.bool false)])) w130 = .ok () w131 ∧
  Calls Tryz.prog 98 #[(Value.pointer r_1)] w131 fun e140 w141 =>
  ∃ s132, ∃ A133, ∃ A133l, ∃ A133c, ∃ A134, ∃ A134l, ∃ A134c, ∃ A135, ∃ A135l, ∃ A135c, ∃ s136, ∃ A137, ∃ A137l, ∃ A137c, ∃ A138, ∃ A138l, ∃ A138c, ∃ n139, e140 = Ending.returned (Value.agg #[(Value.string s132), (Value.slice A133 A133l A133c), (Value.slice A134 A134l A134c), (Value.slice A135 A135l A135c), (Value.string s136), (Value.slice A137 A137l A137c), (Value.slice A138 A138l A138c), (Value.int .i64 n139)]) ∧
  ∃ w142, Sem.run Tryz.prog (Instr.storeAt 68 (Value.pointer (some (Addr.add ⟨Array.size (World.heap w129), 0, none⟩ 0))) (Value.agg #[(Value.string s132), (Value.slice A133 A133l A133c), (Value.slice A134 A134l A134c), (Value.slice A135 A135l A135c), (Value.string s136), (Value.slice A137 A137l A137c), (Value.slice A138 A138l A138c), (Value.int .i64 n139)])) w141 = .ok () w142 ∧
  Calls Tryz.prog 96 #[(Value.pointer r_1)] w142 fun e144 w145 =>
  ∃ n143, e144 = Ending.returned (Value.int .i64 n143) ∧
  ∃ w146, Sem.run Tryz.prog (Instr.storeAt 3 (Value.pointer (some (Addr.add ⟨Array.size (World.heap w129), 0, none⟩ 8))) (Value.int .i64 n143)) w145 = .ok () w146 ∧
  Calls Tryz.prog 96 #[(Value.pointer r_1)] w146 fun e148 w149 =>
  ∃ n147, e148 = Ending.returned (Value.int .i64 n147) ∧
  ∃ w150, Sem.run Tryz.prog (Instr.storeAt 3 (Value.pointer (some (Addr.add ⟨Array.size (World.heap w129), 0, none⟩ 9))) (Value.int .i64 n147)) w149 = .ok () w150 ∧
  Calls Tryz.prog 96 #[(Value.pointer r_1)] w150 fun e152 w153 =>
  ∃ n151, e152 = Ending.returned (Value.int .i64 n151) ∧
  ∃ w154, Sem.run Tryz.prog (Instr.storeAt 3 (Value.pointer (some (Addr.add ⟨Array.size (World.heap w129), 0, none⟩ 10))) (Value.int .i64 n151)) w153 = .ok () w154 ∧
  Calls Tryz.prog 100 #[(Value.pointer r_1)] w154 fun e156 w157 =>
  ∃ b155, e156 = Ending.returned (Value.bool b155) ∧
  ∃ w158, Sem.run Tryz.prog (Instr.storeAt 4 (Value.pointer (some (Addr.add ⟨Array.size (World.heap w129), 0, none⟩ 11))) (Value.bool b155)) w157 = .ok () w158 ∧
  ∃ A159, ∃ A159l, ∃ A159c, World.cell? w158 (Addr.add ⟨Array.size (World.heap w2), 0, none⟩ 4) = some (Value.slice A159 A159l A159c) ∧
  ∃ s160, ∃ A161, ∃ A161l, ∃ A161c, ∃ A162, ∃ A162l, ∃ A162c, ∃ A163, ∃ A163l, ∃ A163c, ∃ s164, ∃ A165, ∃ A165l, ∃ A165c, ∃ A166, ∃ A166l, ∃ A166c, ∃ n167, ∃ n168, ∃ n169, ∃ n170, ∃ b171, V.cellsC (fun a_ x_ => World.cell? w158 a_ = some x_) ⟨Array.size (World.heap w129), 0, none⟩ [(Value.string s160), (Value.slice A161 A161l A161c), (Value.slice A162 A162l A162c), (Value.slice A163 A163l A163c), (Value.string s164), (Value.slice A165 A165l A165c), (Value.slice A166 A166l A166c), (Value.int .i64 n167), (Value.int .i64 n168), (Value.int .i64 n169), (Value.int .i64 n170), (Value.bool b171)] ∧
  ∀ w172, w172 = (World.alloc w158 (.cells #[(Value.string s160), (Value.slice A161 A161l A161c), (Value.slice A162 A162l A162c), (Value.slice A163 A163l A163c), (Value.string s164), (Value.slice A165 A165l A165c), (Value.slice A166 A166l A166c), (Value.int .i64 n167), (Value.int .i64 n168), (Value.int .i64 n169), (Value.int .i64 n170), (Value.bool b171)] 73)) →
  ∃ A173, ∃ A173l, ∃ A173c, ∃ w174, Sem.run Tryz.prog (Builtin.append_ #[24, 24] 24 #[(Value.slice A159 A159l A159c), (Value.slice (some ⟨Array.size (World.heap w158), 0, none⟩) 1 1)]) w172 = .ok (Value.slice A173 A173l A173c) w174 ∧
  ∃ w175, Sem.run Tryz.prog (Instr.storeAt 24 (Value.pointer (some (Addr.add ⟨Array.size (World.heap w2), 0, none⟩ 4))) (Value.slice A173 A173l A173c)) w174 = .ok () w175 ∧
  I98 (IntKind.wrap .i64 (i_100 + 1)) w175 ∧ μ99 (IntKind.wrap .i64 (i_100 + 1)) w175 < μ99 i_100 w102)) :
  Calls Tryz.prog 71 #[(Value.pointer r_1)] w R :=
  V.Z.calls_of_N ⟨V.assoc [(0, [5]), (1, [7]), (2, [9])], V.assocP [], V.assocC [(1000009, ([], [])), (1000011, ([], [])), (1000015, ([], [])), (1000019, ([], [])), (1000023, ([], []))], V.assocS [], ⟨[], true⟩⟩ Tryz.func71 rfl (Eq.mp (by kernel_rfl) h)

theorem berthref26_In_fail_nf (r_1 : Option Addr) (code_2 : Int) (at_3 : Int) (w : World) (R : Ending → World → Prop) (h :
  V.ptr r_1 fun a4 =>
  ∃ n5, World.cell? w (Addr.add a4 6) = some (Value.int .i64 n5) ∧
  V.sel (n5 == 0)
  (V.ptr r_1 fun a6 =>
  ∃ w7, Sem.run Tryz.prog (Instr.storeAt 3 (Value.pointer (some (Addr.add a6 6))) (Value.int .i64 code_2)) w = .ok () w7 ∧
  V.ptr r_1 fun a8 =>
  ∃ w9, Sem.run Tryz.prog (Instr.storeAt 3 (Value.pointer (some (Addr.add a8 7))) (Value.int .i64 at_3)) w7 = .ok () w9 ∧
  R (Ending.returned undef) w9)
  (R (Ending.returned undef) w)) :
  Calls Tryz.prog 72 #[(Value.pointer r_1), (Value.int .i64 code_2), (Value.int .i64 at_3)] w R :=
  V.Z.calls_of_N ⟨V.assoc [], V.assocP [], V.assocC [], V.assocS [], ⟨[], true⟩⟩ Tryz.func72 rfl (Eq.mp (by kernel_rfl) h)

theorem berthref26_labels_nf (l_1 : Option Addr) (l_1l : Nat) (l_1c : Nat) (a_2 : Option Addr) (a_2l : Nat) (a_2c : Nat) (w : World) (R : Ending → World → Prop) (h :
  Calls Tryz.prog 44 #[(Value.slice l_1 l_1l l_1c), (Value.int .i64 ((a_2l : Nat) : Int))] w fun e4 w5 =>
  ∃ A3, ∃ A3l, ∃ A3c, e4 = Ending.returned (Value.slice A3 A3l A3c) ∧
  ∃ I6 : Option Addr → Nat → Nat → Int → World → Prop, ∃ μ7 : Option Addr → Nat → Nat → Int → World → Nat, I6 A3 A3l A3c 0 w5 ∧
  ∀ l_8 l_8l l_8c i_9 (j10 : Nat → Value) (w11 : World), I6 l_8 l_8l l_8c i_9 w11 →
  (V.sel (decide (i_9 < ((a_2l : Nat) : Int)))
  (V.when (decide ((0 : Int) ≤ i_9 ∧ (i_9 : Int) < ((a_2l : Nat) : Int))) (V.ptr a_2 fun a12 =>
  ∃ s13, World.cell? w11 (Addr.add (Addr.add a12 ((Int.toNat i_9) * 2)) 0) = some (Value.string s13) ∧
  Calls Tryz.prog 47 #[(Value.slice l_8 l_8l l_8c), (Value.string s13)] w11 fun e15 w16 =>
  ∃ A14, ∃ A14l, ∃ A14c, e15 = Ending.returned (Value.slice A14 A14l A14c) ∧
  V.when (decide ((0 : Int) ≤ i_9 ∧ (i_9 : Int) < ((a_2l : Nat) : Int))) (V.ptr a_2 fun a17 =>
  ∃ s18, World.cell? w16 (Addr.add (Addr.add a17 ((Int.toNat i_9) * 2)) 1) = some (Value.string s18) ∧
  Calls Tryz.prog 47 #[(Value.slice A14 A14l A14c), (Value.string s18)] w16 fun e20 w21 =>
  ∃ A19, ∃ A19l, ∃ A19c, e20 = Ending.returned (Value.slice A19 A19l A19c) ∧
  I6 A19 A19l A19c (IntKind.wrap .i64 (i_9 + 1)) w21 ∧ μ7 A19 A19l A19c (IntKind.wrap .i64 (i_9 + 1)) w21 < μ7 l_8 l_8l l_8c i_9 w11)))
  (R (Ending.returned (Value.slice l_8 l_8l l_8c)) w11))) :
  Calls Tryz.prog 73 #[(Value.slice l_1 l_1l l_1c), (Value.slice a_2 a_2l a_2c)] w R :=
  V.Z.calls_of_N ⟨V.assoc [(0, [0, 5])], V.assocP [], V.assocC [], V.assocS [], ⟨[], true⟩⟩ Tryz.func73 rfl (Eq.mp (by kernel_rfl) h)

theorem berthref26_items_nf (l_1 : Option Addr) (l_1l : Nat) (l_1c : Nat) (a_2 : Option Addr) (a_2l : Nat) (a_2c : Nat) (w : World) (R : Ending → World → Prop) (h :
  Calls Tryz.prog 44 #[(Value.slice l_1 l_1l l_1c), (Value.int .i64 ((a_2l : Nat) : Int))] w fun e4 w5 =>
  ∃ A3, ∃ A3l, ∃ A3c, e4 = Ending.returned (Value.slice A3 A3l A3c) ∧
  ∃ I6 : Option Addr → Nat → Nat → Int → World → Prop, ∃ μ7 : Option Addr → Nat → Nat → Int → World → Nat, I6 A3 A3l A3c 0 w5 ∧
  ∀ l_8 l_8l l_8c i_9 (j10 : Nat → Value) (w11 : World), I6 l_8 l_8l l_8c i_9 w11 →
  (V.sel (decide (i_9 < ((a_2l : Nat) : Int)))
  (V.when (decide ((0 : Int) ≤ i_9 ∧ (i_9 : Int) < ((a_2l : Nat) : Int))) (V.ptr a_2 fun a12 =>
  ∃ s13, World.cell? w11 (Addr.add (Addr.add a12 ((Int.toNat i_9) * 2)) 0) = some (Value.string s13) ∧
  Calls Tryz.prog 47 #[(Value.slice l_8 l_8l l_8c), (Value.string s13)] w11 fun e15 w16 =>
  ∃ A14, ∃ A14l, ∃ A14c, e15 = Ending.returned (Value.slice A14 A14l A14c) ∧
  V.when (decide ((0 : Int) ≤ i_9 ∧ (i_9 : Int) < ((a_2l : Nat) : Int))) (V.ptr a_2 fun a17 =>
  ∃ n18, World.cell? w16 (Addr.add (Addr.add a17 ((Int.toNat i_9) * 2)) 1) = some (Value.int .i64 n18) ∧
  Calls Tryz.prog 43 #[(Value.slice A14 A14l A14c), (Value.int .i64 n18)] w16 fun e20 w21 =>
  ∃ A19, ∃ A19l, ∃ A19c, e20 = Ending.returned (Value.slice A19 A19l A19c) ∧
  I6 A19 A19l A19c (IntKind.wrap .i64 (i_9 + 1)) w21 ∧ μ7 A19 A19l A19c (IntKind.wrap .i64 (i_9 + 1)) w21 < μ7 l_8 l_8l l_8c i_9 w11)))
  (R (Ending.returned (Value.slice l_8 l_8l l_8c)) w11))) :
  Calls Tryz.prog 74 #[(Value.slice l_1 l_1l l_1c), (Value.slice a_2 a_2l a_2c)] w R :=
  V.Z.calls_of_N ⟨V.assoc [(0, [0, 5])], V.assocP [], V.assocC [], V.assocS [], ⟨[], true⟩⟩ Tryz.func74 rfl (Eq.mp (by kernel_rfl) h)

theorem image_writer_text_nf (w_1 : Option Addr) (s_2 : ByteArray) (w : World) (R : Ending → World → Prop) (h :
  V.ptr w_1 fun a3 =>
  ∃ b4, World.cell? w (Addr.add a3 1) = some (Value.bool b4) ∧
  V.sel b4
  (V.ptr w_1 fun a5 =>
  ∃ m6, World.cell? w (Addr.add a5 0) = some (Value.map m6) ∧
  ∃ w7, Sem.run Tryz.prog (Instr.mapUpdate 75 (Value.map m6) (Value.string s_2) (Value.int .i64 0)) w = .ok () w7 ∧
  R (Ending.returned undef) w7)
  (V.ptr w_1 fun a8 =>
  ∃ m9, World.cell? w (Addr.add a8 0) = some (Value.map m9) ∧
  ∃ n10, ∃ w11, Sem.run Tryz.prog (Instr.lookup 75 (Value.map m9) (Value.string s_2) false) w = .ok (Value.int .i64 n10) w11 ∧
  Calls Tryz.prog 32 #[(Value.pointer w_1), (Value.int .u64 (IntKind.wrap .u64 (n10)))] w11 fun e12 w13 =>
  e12 = Ending.returned undef ∧
  R (Ending.returned undef) w13)) :
  Calls Tryz.prog 75 #[(Value.pointer w_1), (Value.string s_2)] w R :=
  V.Z.calls_of_N ⟨V.assoc [], V.assocP [], V.assocC [], V.assocS [], ⟨[], true⟩⟩ Tryz.func75 rfl (Eq.mp (by kernel_rfl) h)

theorem image_list_api_Label__nf (w_1 : Option Addr) (l_2 : Option Addr) (l_2l : Nat) (l_2c : Nat) (one_f3 : Nat) (one_a4 : Array Value) (one_c5 : Array Value) (w : World) (R : Ending → World → Prop) (h :
  Calls Tryz.prog 32 #[(Value.pointer w_1), (Value.int .u64 (IntKind.wrap .u64 (((l_2l : Nat) : Int))))] w fun e6 w7 =>
  e6 = Ending.returned undef ∧
  ∃ I8 : Int → World → Prop, ∃ μ9 : Int → World → Nat, I8 0 w7 ∧
  ∀ t15_10 (j11 : Nat → Value) (w12 : World), I8 t15_10 w12 →
  (V.sel (decide (t15_10 < ((l_2l : Nat) : Int)))
  (V.when (decide ((0 : Int) ≤ t15_10 ∧ (t15_10 : Int) < ((l_2l : Nat) : Int))) (V.ptr l_2 fun a13 =>
  ∃ s14, ∃ s15, V.cellsC (fun a_ x_ => World.cell? w12 a_ = some x_) (Addr.add a13 ((Int.toNat t15_10) * 2)) [(Value.string s14), (Value.string s15)] ∧
  ∀ w16, w16 = (World.alloc w12 (.cells #[(Value.string ByteArray.empty), (Value.string ByteArray.empty)] 87)) →
  ∃ w17, Sem.run Tryz.prog (Instr.storeAt 87 (Value.pointer (some ⟨Array.size (World.heap w12), 0, none⟩)) (Value.agg #[(Value.string s14), (Value.string s15)])) w16 = .ok () w17 ∧
  ∃ s18, ∃ s19, V.cellsC (fun a_ x_ => World.cell? w17 a_ = some x_) ⟨Array.size (World.heap w12), 0, none⟩ [(Value.string s18), (Value.string s19)] ∧
  V.when (V.hasB Tryz.prog one_f3) (Calls Tryz.prog one_f3 ⟨Array.toList one_a4 ++ [(Value.agg #[(Value.string s18), (Value.string s19)])] ++ Array.toList one_c5⟩ w17 fun e20 w21 =>
  e20 = Ending.returned undef ∧
  I8 (IntKind.wrap .i64 (t15_10 + 1)) w21 ∧ μ9 (IntKind.wrap .i64 (t15_10 + 1)) w21 < μ9 t15_10 w12)))
  (R (Ending.returned undef) w12))) :
  Calls Tryz.prog 76 #[(Value.pointer w_1), (Value.slice l_2 l_2l l_2c), (Value.func (.func one_f3) one_a4 one_c5)] w R :=
  V.Z.calls_of_N ⟨V.assoc [(0, [15])], V.assocP [], V.assocC [], V.assocS [], ⟨[], true⟩⟩ Tryz.func76 rfl (Eq.mp (by kernel_rfl) h)

theorem image_writer_label_nf (w_1 : Option Addr) (l_2 : ByteArray) (l_3 : ByteArray) (w : World) (R : Ending → World → Prop) (h :
  ∀ w4, w4 = (World.alloc w (.cells #[(Value.string l_2), (Value.string l_3)] 87)) →
  ∃ s5, World.cell? w4 (Addr.add ⟨Array.size (World.heap w), 0, none⟩ 0) = some (Value.string s5) ∧
  Calls Tryz.prog 75 #[(Value.pointer w_1), (Value.string s5)] w4 fun e6 w7 =>
  e6 = Ending.returned undef ∧
  ∃ s8, World.cell? w7 (Addr.add ⟨Array.size (World.heap w), 0, none⟩ 1) = some (Value.string s8) ∧
  Calls Tryz.prog 75 #[(Value.pointer w_1), (Value.string s8)] w7 fun e9 w10 =>
  e9 = Ending.returned undef ∧
  R (Ending.returned undef) w10) :
  Calls Tryz.prog 77 #[(Value.pointer w_1), (Value.agg #[(Value.string l_2), (Value.string l_3)])] w R :=
  V.Z.calls_of_N ⟨V.assoc [], V.assocP [], V.assocC [], V.assocS [], ⟨[], true⟩⟩ Tryz.func77 rfl (Eq.mp (by kernel_rfl) h)

theorem image_list_api_Taint__nf (w_1 : Option Addr) (l_2 : Option Addr) (l_2l : Nat) (l_2c : Nat) (one_f3 : Nat) (one_a4 : Array Value) (one_c5 : Array Value) (w : World) (R : Ending → World → Prop) (h :
  Calls Tryz.prog 32 #[(Value.pointer w_1), (Value.int .u64 (IntKind.wrap .u64 (((l_2l : Nat) : Int))))] w fun e6 w7 =>
  e6 = Ending.returned undef ∧
  ∃ I8 : Int → World → Prop, ∃ μ9 : Int → World → Nat, I8 0 w7 ∧
  ∀ t15_10 (j11 : Nat → Value) (w12 : World), I8 t15_10 w12 →
  (V.sel (decide (t15_10 < ((l_2l : Nat) : Int)))
  (V.when (decide ((0 : Int) ≤ t15_10 ∧ (t15_10 : Int) < ((l_2l : Nat) : Int))) (V.ptr l_2 fun a13 =>
  ∃ s14, ∃ s15, ∃ s16, V.cellsC (fun a_ x_ => World.cell? w12 a_ = some x_) (Addr.add a13 ((Int.toNat t15_10) * 3)) [(Value.string s14), (Value.string s15), (Value.string s16)] ∧
  ∀ w17, w17 = (World.alloc w12 (.cells #[(Value.string ByteArray.empty), (Value.string ByteArray.empty), (Value.string ByteArray.empty)] 89)) →
  ∃ w18, Sem.run Tryz.prog (Instr.storeAt 89 (Value.pointer (some ⟨Array.size (World.heap w12), 0, none⟩)) (Value.agg #[(Value.string s14), (Value.string s15), (Value.string s16)])) w17 = .ok () w18 ∧
  ∃ s19, ∃ s20, ∃ s21, V.cellsC (fun a_ x_ => World.cell? w18 a_ = some x_) ⟨Array.size (World.heap w12), 0, none⟩ [(Value.string s19), (Value.string s20), (Value.string s21)] ∧
  V.when (V.hasB Tryz.prog one_f3) (Calls Tryz.prog one_f3 ⟨Array.toList one_a4 ++ [(Value.agg #[(Value.string s19), (Value.string s20), (Value.string s21)])] ++ Array.toList one_c5⟩ w18 fun e22 w23 =>
  e22 = Ending.returned undef ∧
  I8 (IntKind.wrap .i64 (t15_10 + 1)) w23 ∧ μ9 (IntKind.wrap .i64 (t15_10 + 1)) w23 < μ9 t15_10 w12)))
  (R (Ending.returned undef) w12))) :
  Calls Tryz.prog 78 #[(Value.pointer w_1), (Value.slice l_2 l_2l l_2c), (Value.func (.func one_f3) one_a4 one_c5)] w R :=
  V.Z.calls_of_N ⟨V.assoc [(0, [15])], V.assocP [], V.assocC [], V.assocS [], ⟨[], true⟩⟩ Tryz.func78 rfl (Eq.mp (by kernel_rfl) h)

theorem image_writer_taint_nf (w_1 : Option Addr) (t_2 : ByteArray) (t_3 : ByteArray) (t_4 : ByteArray) (w : World) (R : Ending → World → Prop) (h :
  ∀ w5, w5 = (World.alloc w (.cells #[(Value.string t_2), (Value.string t_3), (Value.string t_4)] 89)) →
  ∃ s6, World.cell? w5 (Addr.add ⟨Array.size (World.heap w), 0, none⟩ 0) = some (Value.string s6) ∧
  Calls Tryz.prog 75 #[(Value.pointer w_1), (Value.string s6)] w5 fun e7 w8 =>
  e7 = Ending.returned undef ∧
  ∃ s9, World.cell? w8 (Addr.add ⟨Array.size (World.heap w), 0, none⟩ 1) = some (Value.string s9) ∧
  Calls Tryz.prog 75 #[(Value.pointer w_1), (Value.string s9)] w8 fun e10 w11 =>
  e10 = Ending.returned undef ∧
  ∃ s12, World.cell? w11 (Addr.add ⟨Array.size (World.heap w), 0, none⟩ 2) = some (Value.string s12) ∧
  Calls Tryz.prog 75 #[(Value.pointer w_1), (Value.string s12)] w11 fun e13 w14 =>
  e13 = Ending.returned undef ∧
  R (Ending.returned undef) w14) :
  Calls Tryz.prog 79 #[(Value.pointer w_1), (Value.agg #[(Value.string t_2), (Value.string t_3), (Value.string t_4)])] w R :=
  V.Z.calls_of_N ⟨V.assoc [], V.assocP [], V.assocC [], V.assocS [], ⟨[], true⟩⟩ Tryz.func79 rfl (Eq.mp (by kernel_rfl) h)

theorem image_list_api_Item__nf (w_1 : Option Addr) (l_2 : Option Addr) (l_2l : Nat) (l_2c : Nat) (one_f3 : Nat) (one_a4 : Array Value) (one_c5 : Array Value) (w : World) (R : Ending → World → Prop) (h :
  Calls Tryz.prog 32 #[(Value.pointer w_1), (Value.int .u64 (IntKind.wrap .u64 (((l_2l : Nat) : Int))))] w fun e6 w7 =>
  e6 = Ending.returned undef ∧
  ∃ I8 : Int → World → Prop, ∃ μ9 : Int → World → Nat, I8 0 w7 ∧
  ∀ t15_10 (j11 : Nat → Value) (w12 : World), I8 t15_10 w12 →
  (V.sel (decide (t15_10 < ((l_2l : Nat) : Int)))
  (V.when (decide ((0 : Int) ≤ t15_10 ∧ (t15_10 : Int) < ((l_2l : Nat) : Int))) (V.ptr l_2 fun a13 =>
  ∃ s14, ∃ n15, V.cellsC (fun a_ x_ => World.cell? w12 a_ = some x_) (Addr.add a13 ((Int.toNat t15_10) * 2)) [(Value.string s14), (Value.int .i64 n15)] ∧
  ∀ w16, w16 = (World.alloc w12 (.cells #[(Value.string ByteArray.empty), (Value.int .i64 0)] 91)) →
  ∃ w17, Sem.run Tryz.prog (Instr.storeAt 91 (Value.pointer (some ⟨Array.size (World.heap w12), 0, none⟩)) (Value.agg #[(Value.string s14), (Value.int .i64 n15)])) w16 = .ok () w17 ∧
  ∃ s18, ∃ n19, V.cellsC (fun a_ x_ => World.cell? w17 a_ = some x_) ⟨Array.size (World.heap w12), 0, none⟩ [(Value.string s18), (Value.int .i64 n19)] ∧
  V.when (V.hasB Tryz.prog one_f3) (Calls Tryz.prog one_f3 ⟨Array.toList one_a4 ++ [(Value.agg #[(Value.string s18), (Value.int .i64 n19)])] ++ Array.toList one_c5⟩ w17 fun e20 w21 =>
  e20 = Ending.returned undef ∧
  I8 (IntKind.wrap .i64 (t15_10 + 1)) w21 ∧ μ9 (IntKind.wrap .i64 (t15_10 + 1)) w21 < μ9 t15_10 w12)))
  (R (Ending.returned undef) w12))) :
  Calls Tryz.prog 80 #[(Value.pointer w_1), (Value.slice l_2 l_2l l_2c), (Value.func (.func one_f3) one_a4 one_c5)] w R :=
  V.Z.calls_of_N ⟨V.assoc [(0, [15])], V.assocP [], V.assocC [], V.assocS [], ⟨[], true⟩⟩ Tryz.func80 rfl (Eq.mp (by kernel_rfl) h)

theorem image_writer_item_nf (w_1 : Option Addr) (i_2 : ByteArray) (i_3 : Int) (w : World) (R : Ending → World → Prop) (h :
  ∀ w4, w4 = (World.alloc w (.cells #[(Value.string i_2), (Value.int .i64 i_3)] 91)) →
  ∃ s5, World.cell? w4 (Addr.add ⟨Array.size (World.heap w), 0, none⟩ 0) = some (Value.string s5) ∧
  Calls Tryz.prog 75 #[(Value.pointer w_1), (Value.string s5)] w4 fun e6 w7 =>
  e6 = Ending.returned undef ∧
  ∃ n8, World.cell? w7 (Addr.add ⟨Array.size (World.heap w), 0, none⟩ 1) = some (Value.int .i64 n8) ∧
  Calls Tryz.prog 49 #[(Value.pointer w_1), (Value.int .i64 n8)] w7 fun e9 w10 =>
  e9 = Ending.returned undef ∧
  R (Ending.returned undef) w10) :
  Calls Tryz.prog 81 #[(Value.pointer w_1), (Value.agg #[(Value.string i_2), (Value.int .i64 i_3)])] w R :=
  V.Z.calls_of_N ⟨V.assoc [], V.assocP [], V.assocC [], V.assocS [], ⟨[], true⟩⟩ Tryz.func81 rfl (Eq.mp (by kernel_rfl) h)

theorem image_writer_truth_nf (w_1 : Option Addr) (b_2 : Bool) (w : World) (R : Ending → World → Prop) (h :
  V.sel b_2
  (Calls Tryz.prog 32 #[(Value.pointer w_1), (Value.int .u64 1)] w fun e3 w4 =>
  e3 = Ending.returned undef ∧
  R (Ending.returned undef) w4)
  (Calls Tryz.prog 32 #[(Value.pointer w_1), (Value.int .u64 0)] w fun e5 w6 =>
  e5 = Ending.returned undef ∧
  R (Ending.returned undef) w6)) :
  Calls Tryz.prog 82 #[(Value.pointer w_1), (Value.bool b_2)] w R :=
  V.Z.calls_of_N ⟨V.assoc [], V.assocP [], V.assocC [], V.assocS [], ⟨[], true⟩⟩ Tryz.func82 rfl (Eq.mp (by kernel_rfl) h)

theorem image_writer_pod_nf (w_1 : Option Addr) (p_2 : ByteArray) (p_3 : Option Addr) (p_3l : Nat) (p_3c : Nat) (p_4 : Option Addr) (p_4l : Nat) (p_4c : Nat) (p_5 : Option Addr) (p_5l : Nat) (p_5c : Nat) (p_6 : ByteArray) (p_7 : Option Addr) (p_7l : Nat) (p_7c : Nat) (p_8 : Option Addr) (p_8l : Nat) (p_8c : Nat) (p_9 : Int) (w : World) (R : Ending → World → Prop) (h :
  ∀ w10, w10 = (World.alloc w (.cells #[(Value.string p_2), (Value.slice p_3 p_3l p_3c), (Value.slice p_4 p_4l p_4c), (Value.slice p_5 p_5l p_5c), (Value.string p_6), (Value.slice p_7 p_7l p_7c), (Value.slice p_8 p_8l p_8c), (Value.int .i64 p_9)] 68)) →
  ∃ s11, World.cell? w10 (Addr.add ⟨Array.size (World.heap w), 0, none⟩ 0) = some (Value.string s11) ∧
  Calls Tryz.prog 75 #[(Value.pointer w_1), (Value.string s11)] w10 fun e12 w13 =>
  e12 = Ending.returned undef ∧
  ∃ A14, ∃ A14l, ∃ A14c, World.cell? w13 (Addr.add ⟨Array.size (World.heap w), 0, none⟩ 1) = some (Value.slice A14 A14l A14c) ∧
  Calls Tryz.prog 76 #[(Value.pointer w_1), (Value.slice A14 A14l A14c), (Value.func (.func 77) #[(Value.pointer w_1)] #[])] w13 fun e15 w16 =>
  e15 = Ending.returned undef ∧
  ∃ A17, ∃ A17l, ∃ A17c, World.cell? w16 (Addr.add ⟨Array.size (World.heap w), 0, none⟩ 2) = some (Value.slice A17 A17l A17c) ∧
  Calls Tryz.prog 80 #[(Value.pointer w_1), (Value.slice A17 A17l A17c), (Value.func (.func 81) #[(Value.pointer w_1)] #[])] w16 fun e18 w19 =>
  e18 = Ending.returned undef ∧
  ∃ A20, ∃ A20l, ∃ A20c, World.cell? w19 (Addr.add ⟨Array.size (World.heap w), 0, none⟩ 3) = some (Value.slice A20 A20l A20c) ∧
  Calls Tryz.prog 101 #[(Value.pointer w_1), (Value.slice A20 A20l A20c), (Value.func (.func 102) #[(Value.pointer w_1)] #[])] w19 fun e21 w22 =>
  e21 = Ending.returned undef ∧
  ∃ s23, World.cell? w22 (Addr.add ⟨Array.size (World.heap w), 0, none⟩ 4) = some (Value.string s23) ∧
  Calls Tryz.prog 75 #[(Value.pointer w_1), (Value.string s23)] w22 fun e24 w25 =>
  e24 = Ending.returned undef ∧
  ∃ A26, ∃ A26l, ∃ A26c, World.cell? w25 (Addr.add ⟨Array.size (World.heap w), 0, none⟩ 5) = some (Value.slice A26 A26l A26c) ∧
  Calls Tryz.prog 103 #[(Value.pointer w_1), (Value.slice A26 A26l A26c), (Value.func (.func 104) #[(Value.pointer w_1)] #[])] w25 fun e27 w28 =>
  e27 = Ending.returned undef ∧
  ∃ A29, ∃ A29l, ∃ A29c, World.cell? w28 (Addr.add ⟨Array.size (World.heap w), 0, none⟩ 6) = some (Value.slice A29 A29l A29c) ∧
  Calls Tryz.prog 105 #[(Value.pointer w_1), (Value.slice A29 A29l A29c), (Value.func (.func 106) #[(Value.pointer w_1)] #[])] w28 fun e30 w31 =>
  e30 = Ending.returned undef ∧
  ∃ n32, World.cell? w31 (Addr.add ⟨Array.size (World.heap w), 0, none⟩ 7) = some (Value.int .i64 n32) ∧
  Calls Tryz.prog 49 #[(Value.pointer w_1), (Value.int .i64 n32)] w31 fun e33 w34 =>
  e33 = Ending.returned undef ∧
  R (Ending.returned undef) w34) :
  Calls Tryz.prog 83 #[(Value.pointer w_1), (Value.agg #[(Value.string p_2), (Value.slice p_3 p_3l p_3c), (Value.slice p_4 p_4l p_4c), (Value.slice p_5 p_5l p_5c), (Value.string p_6), (Value.slice p_7 p_7l p_7c), (Value.slice p_8 p_8l p_8c), (Value.int .i64 p_9)])] w R :=
  V.Z.calls_of_N ⟨V.assoc [], V.assocP [], V.assocC [], V.assocS [], ⟨[], true⟩⟩ Tryz.func83 rfl (Eq.mp (by kernel_rfl) h)

theorem berthref26_In_many_nf (r_1 : Option Addr) (w : World) (R : Ending → World → Prop) (h :
  V.ptr r_1 fun a2 =>
  ∃ n3, World.cell? w (Addr.add a2 1) = some (Value.int .i64 n3) ∧
  Calls Tryz.prog 128 #[(Value.pointer r_1)] w fun e5 w6 =>
  ∃ n4, e5 = Ending.returned (Value.int .u64 n4) ∧
  V.ptr r_1 fun a7 =>
  ∃ n8, World.cell? w6 (Addr.add a7 6) = some (Value.int .i64 n8) ∧
  V.sel (n8 != 0)
  (R (Ending.returned (Value.int .i64 0)) w6)
  (V.ptr r_1 fun a9 =>
  ∃ n10, World.cell? w6 (Addr.add a9 2) = some (Value.int .i64 n10) ∧
  V.ptr r_1 fun a11 =>
  ∃ n12, World.cell? w6 (Addr.add a11 1) = some (Value.int .i64 n12) ∧
  V.sel (decide (n4 > (IntKind.wrap .u64 ((IntKind.wrap .i64 (n10 - n12))))))
  (Calls Tryz.prog 72 #[(Value.pointer r_1), (Value.int .i64 262), (Value.int .i64 n3)] (World.drew w6) fun e13 w14 =>
  e13 = Ending.returned undef ∧
  R (Ending.returned (Value.int .i64 0)) w14)
  (R (Ending.returned (Value.int .i64 (IntKind.wrap .i64 (n4)))) (World.drew w6)))) :
  Calls Tryz.prog 95 #[(Value.pointer r_1)] w R :=
  V.Z.calls_of_N ⟨V.assoc [], V.assocP [(5, V.line [0, 1, 2, 3, 4, 5, 6, 7, 8, 9, 10, 11])], V.assocC [], V.assocS [], ⟨[], true⟩⟩ Tryz.func95 rfl (Eq.mp (by kernel_rfl) h)

theorem berthref26_In_number_nf (r_1 : Option Addr) (w : World) (R : Ending → World → Prop) (h :
  Calls Tryz.prog 128 #[(Value.pointer r_1)] w fun e3 w4 =>
  ∃ n2, e3 = Ending.returned (Value.int .u64 n2) ∧
  V.sel ((Int.tmod n2 2) == 0)
  (V.lt (IntKind.wrap .i64 ((IntKind.wrap .u64 (Int.tdiv n2 2)))) fun x5 =>
  R (Ending.returned (Value.int .i64 x5)) w4)
  (V.lt (IntKind.wrap .i64 ((IntKind.wrap .i64 (0 - (IntKind.wrap .i64 ((IntKind.wrap .u64 (Int.tdiv n2 2)))))) - 1)) fun x6 =>
  R (Ending.returned (Value.int .i64 x6)) w4)) :
  Calls Tryz.prog 96 #[(Value.pointer r_1)] w R :=
  V.Z.calls_of_N ⟨V.assoc [], V.assocP [], V.assocC [], V.assocS [], ⟨[], true⟩⟩ Tryz.func96 rfl (Eq.mp (by kernel_rfl) h)

theorem berthref26_In_node_nf (r_1 : Option Addr) (w : World) (R : Ending → World → Prop) (h :
  ∀ w2, w2 = (World.alloc w (.cells #[(Value.string ByteArray.empty), (Value.slice none 0 0), (Value.slice none 0 0), (Value.slice none 0 0), (Value.bool false)] 53)) →
  ∀ w3, w3 = (World.alloc w2 (.cells #[(Value.string ByteArray.empty), (Value.slice none 0 0), (Value.slice none 0 0), (Value.slice none 0 0), (Value.bool false)] 53)) →
  ∃ w4, Sem.run Tryz.prog (Instr.storeAt 53 (Value.pointer (some ⟨Array.size (World.heap w2), 0, none⟩)) (Value.agg #[(Value.string ByteArray.empty), (Value.slice none 0 0), (Value.slice none 0 0), (Value.slice none 0 0), (Value.bool false)])) w3 = .ok () w4 ∧
  Calls Tryz.prog 99 #[(Value.pointer r_1)] w4 fun e6 w7 =>
  ∃ s5, e6 = Ending.returned (Value.string s5) ∧
  ∃ w8, Sem.run Tryz.prog (Instr.storeAt 9 (Value.pointer (some (Addr.add ⟨Array.size (World.heap w2), 0, none⟩ 0))) (Value.string s5)) w7 = .ok () w8 ∧
  Calls Tryz.prog 129 #[(Value.pointer r_1)] w8 fun e10 w11 =>
  ∃ A9, ∃ A9l, ∃ A9c, e10 = Ending.returned (Value.slice A9 A9l A9c) ∧
  ∃ w12, Sem.run Tryz.prog (Instr.storeAt 49 (Value.pointer (some (Addr.add ⟨Array.size (World.heap w2), 0, none⟩ 1))) (Value.slice A9 A9l A9c)) w11 = .ok () w12 ∧
  Calls Tryz.prog 95 #[(Value.pointer r_1)] w12 fun e14 w15 =>
  ∃ n13, e14 = Ending.returned (Value.int .i64 n13) ∧
  ∃ J16 : World → Prop, (∃ I17 : Int → World → Prop, ∃ μ18 : Int → World → Nat, I17 0 w15 ∧
  ∀ i_19 (j20 : Nat → Value) (w21 : World), I17 i_19 w21 →
  (∃ J22 : World → Prop, (V.sel (decide (i_19 < n13))
  (V.ptr r_1 fun a23 =>
  ∃ n24, World.cell? w21 (Addr.add a23 6) = some (Value.int .i64 n24) ∧
  V.sel (n24 == 0)
  (J22  w21)
  (J16  w21))
  (J16  w21)) ∧
  ∀ (j25 : Nat → Value) (w26 : World), J22  w26 →
  ∀ w27, w27 = (World.alloc w26 (.cells #[(Value.string ByteArray.empty), (Value.string ByteArray.empty), (Value.string ByteArray.empty)] 89)) →
  ∃ w28, Sem.run Tryz.prog (Instr.storeAt 89 (Value.pointer (some ⟨Array.size (World.heap w26), 0, none⟩)) (Value.agg #[(Value.string ByteArray.empty), (Value.string ByteArray.empty), (Value.string ByteArray.empty)])) w27 = .ok () w28 ∧
  Calls Tryz.prog 99 #[(Value.pointer r_1)] w28 fun e30 w31 =>
  ∃ s29, e30 = Ending.returned (Value.string s29) ∧
  ∃ w32, Sem.run Tryz.prog (Instr.storeAt 9 (Value.pointer (some (Addr.add ⟨Array.size (World.heap w26), 0, none⟩ 0))) (Value.string s29)) w31 = .ok () w32 ∧
  Calls Tryz.prog 99 #[(Value.pointer r_1)] w32 fun e34 w35 =>
  ∃ s33, e34 = Ending.returned (Value.string s33) ∧
  ∃ w36, Sem.run Tryz.prog (Instr.storeAt 9 (Value.pointer (some (Addr.add ⟨Array.size (World.heap w26), 0, none⟩ 1))) (Value.string s33)) w35 = .ok () w36 ∧
  Calls Tryz.prog 99 #[(Value.pointer r_1)] w36 fun e38 w39 =>
  ∃ s37, e38 = Ending.returned (Value.string s37) ∧
  ∃ w40, Sem.run Tryz.prog (Instr.storeAt 9 (Value.pointer (some (Addr.add ⟨Array.size (World.heap w26), 0, none⟩ 2))) (Value.string s37)) w39 = .ok () w40 ∧
  ∃ A41, ∃ A41l, ∃ A41c, World.cell? w40 (Addr.add ⟨Array.size (World.heap w2), 0, none⟩ 2) = some (Value.slice A41 A41l A41c) ∧
  ∃ s42, ∃ s43, ∃ s44, V.cellsC (fun a_ x_ => World.cell? w40 a_ = some x_) ⟨Array.size (World.heap w26), 0, none⟩ [(Value.string s42), (Value.string s43), (Value.string s44)] ∧
  ∀ w45, w45 = (World.alloc w40 (.cells #[(Value.string s42), (Value.string s43), (Value.string s44)] 89)) →
  ∃ A46, ∃ A46l, ∃ A46c, ∃ w47, Sem.run Tryz.prog (Builtin.append_ #[50, 50] 50 #[(Value.slice A41 A41l A41c), (Value.slice (some ⟨Array.size (World.heap w40), 0, none⟩) 1 1)]) w45 = .ok (Value.slice A46 A46l A46c) w47 ∧
  ∃ w48, Sem.run Tryz.prog (Instr.storeAt 50 (Value.pointer (some (Addr.add ⟨Array.size (World.heap w2), 0, none⟩ 2))) (Value.slice A46 A46l A46c)) w47 = .ok () w48 ∧
  I17 (IntKind.wrap .i64 (i_19 + 1)) w48 ∧ μ18 (IntKind.wrap .i64 (i_19 + 1)) w48 < μ18 i_19 w21)) ∧
  ∀ (j49 : Nat → Value) (w50 : World), J16  w50 →
  Calls Tryz.prog 130 #[(Value.pointer r_1)] w50 fun e52 w53 =>
  ∃ A51, ∃ A51l, ∃ A51c, e52 = Ending.returned (Value.slice A51 A51l A51c) ∧
  ∃ w54, Sem.run Tryz.prog (Instr.storeAt 51 (Value.pointer (some (Addr.add ⟨Array.size (World.heap w2), 0, none⟩ 3))) (Value.slice A51 A51l A51c)) w53 = .ok () w54 ∧
  Calls Tryz.prog 100 #[(Value.pointer r_1)] w54 fun e56 w57 =>
  ∃ b55, e56 = Ending.returned (Value.bool b55) ∧
  ∃ w58, Sem.run Tryz.prog (Instr.storeAt 4 (Value.pointer (some (Addr.add ⟨Array.size (World.heap w2), 0, none⟩ 4))) (Value.bool b55)) w57 = .ok () w58 ∧
  ∃ s59, ∃ A60, ∃ A60l, ∃ A60c, ∃ A61, ∃ A61l, ∃ A61c, ∃ A62, ∃ A62l, ∃ A62c, ∃ b63, V.cellsC (fun a_ x_ => World.cell? w58 a_ = some x_) ⟨Array.size (World.heap w2), 0, none⟩ [(Value.string s59), (Value.slice A60 A60l A60c), (Value.slice A61 A61l A61c), (Value.slice A62 A62l A62c), (Value.bool b63)] ∧
  ∃ w64, Sem.run Tryz.prog (Instr.storeAt 53 (Value.pointer (some ⟨Array.size (World.heap w), 0, none⟩)) (Value.agg #[(Value.string s59), (Value.slice A60 A60l A60c), (Value.slice A61 A61l A61c), (Value.slice A62 A62l A62c), (Value.bool b63)])) w58 = .ok () w64 ∧
  ∃ s65, ∃ A66, ∃ A66l, ∃ A66c, ∃ A67, ∃ A67l, ∃ A67c, ∃ A68, ∃ A68l, ∃ A68c, ∃ b69, V.cellsC (fun a_ x_ => World.cell? w64 a_ = some x_) ⟨Array.size (World.heap w), 0, none⟩ [(Value.string s65), (Value.slice A66 A66l A66c), (Value.slice A67 A67l A67c), (Value.slice A68 A68l A68c), (Value.bool b69)] ∧
  R (Ending.returned (Value.agg #[(Value.string s65), (Value.slice A66 A66l A66c), (Value.slice A67 A67l A67c), (Value.slice A68 A68l A68c), (Value.bool b69)])) w64) :
  Calls Tryz.prog 97 #[(Value.pointer r_1)] w R :=
  V.Z.calls_of_N ⟨V.assoc [(0, [5])], V.assocP [], V.assocC [(1000009, ([], [])), (1000014, ([], []))], V.assocS [], ⟨[], true⟩⟩ Tryz.func97 rfl (Eq.mp (by kernel_rfl) h)

theorem berthref26_In_pod_nf (r_1 : Option Addr) (w : World) (R : Ending → World → Prop) (h :
  ∀ w2, w2 = (World.alloc w (.cells #[(Value.string ByteArray.empty), (Value.slice none 0 0), (Value.slice none 0 0), (Value.slice none 0 0), (Value.string ByteArray.empty), (Value.slice none 0 0), (Value.slice none 0 0), (Value.int .i64 0)] 68)) →
  ∀ w3, w3 = (World.alloc w2 (.cells #[(Value.string ByteArray.empty), (Value.slice none 0 0), (Value.slice none 0 0), (Value.slice none 0 0), (Value.string ByteArray.empty), (Value.slice none 0 0), (Value.slice none 0 0), (Value.int .i64 0)] 68)) →
  ∃ w4, Sem.run Tryz.prog (Instr.storeAt 68 (Value.pointer (some ⟨Array.size (World.heap w2), 0, none⟩)) (Value.agg #[(Value.string ByteArray.empty), (Value.slice none 0 0), (Value.slice none 0 0), (Value.slice none 0 0), (Value.string ByteArray.empty), (Value.slice none 0 0), (Value.slice none 0 0), (Value.int .i64 0)])) w3 = .ok () w4 ∧
  Calls Tryz.prog 99 #[(Value.pointer r_1)] w4 fun e6 w7 =>
  ∃ s5, e6 = Ending.returned (Value.string s5) ∧
  ∃ w8, Sem.run Tryz.prog (Instr.storeAt 9 (Value.pointer (some (Addr.add ⟨Array.size (World.heap w2), 0, none⟩ 0))) (Value.string s5)) w7 = .ok () w8 ∧
  Calls Tryz.prog 129 #[(Value.pointer r_1)] w8 fun e10 w11 =>
  ∃ A9, ∃ A9l, ∃ A9c, e10 = Ending.returned (Value.slice A9 A9l A9c) ∧
  ∃ w12, Sem.run Tryz.prog (Instr.storeAt 49 (Value.pointer (some (Addr.add ⟨Array.size (World.heap w2), 0, none⟩ 1))) (Value.slice A9 A9l A9c)) w11 = .ok () w12 ∧
  Calls Tryz.prog 130 #[(Value.pointer r_1)] w12 fun e14 w15 =>
  ∃ A13, ∃ A13l, ∃ A13c, e14 = Ending.returned (Value.slice A13 A13l A13c) ∧
  ∃ w16, Sem.run Tryz.prog (Instr.storeAt 51 (Value.pointer (some (Addr.add ⟨Array.size (World.heap w2), 0, none⟩ 2))) (Value.slice A13 A13l A13c)) w15 = .ok () w16 ∧
  Calls Tryz.prog 95 #[(Value.pointer r_1)] w16 fun e18 w19 =>
  ∃ n17, e18 = Ending.returned (Value.int .i64 n17) ∧
  ∃ J20 : World → Prop, (∃ I21 : Int → World → Prop, ∃ μ22 : Int → World → Nat, I21 0 w19 ∧
  ∀ i_23 (j24 : Nat → Value) (w25 : World), I21 i_23 w25 →
  (∃ J26 : World → Prop, (V.sel (decide (i_23 < n17))
  (V.ptr r_1 fun a27 =>
  ∃ n28, World.cell? w25 (Addr.add a27 6) = some (Value.int .i64 n28) ∧
  V.sel (n28 == 0)
  (J26  w25)
  (J20  w25))
  (J20  w25)) ∧
  ∀ (j29 : Nat → Value) (w30 : World), J26  w30 →
  ∀ w31, w31 = (World.alloc w30 (.cells #[(Value.string ByteArray.empty), (Value.string ByteArray.empty), (Value.string ByteArray.empty), (Value.string ByteArray.empty)] 123)) →
  ∃ w32, Sem.run Tryz.prog (Instr.storeAt 123 (Value.pointer (some ⟨Array.size (World.heap w30), 0, none⟩)) (Value.agg #[(Value.string ByteArray.empty), (Value.string ByteArray.empty), (Value.string ByteArray.empty), (Value.string ByteArray.empty)])) w31 = .ok () w32 ∧
  Calls Tryz.prog 99 #[(Value.pointer r_1)] w32 fun e34 w35 =>
  ∃ s33, e34 = Ending.returned (Value.string s33) ∧
  ∃ w36, Sem.run Tryz.prog (Instr.storeAt 9 (Value.pointer (some (Addr.add ⟨Array.size (World.heap w30), 0, none⟩ 0))) (Value.string s33)) w35 = .ok () w36 ∧
  Calls Tryz.prog 99 #[(Value.pointer r_1)] w36 fun e38 w39 =>
  ∃ s37, e38 = Ending.returned (Value.string s37) ∧
  ∃ w40, Sem.run Tryz.prog (Instr.storeAt 9 (Value.pointer (some (Addr.add ⟨Array.size (World.heap w30), 0, none⟩ 1))) (Value.string s37)) w39 = .ok () w40 ∧
  Calls Tryz.prog 99 #[(Value.pointer r_1)] w40 fun e42 w43 =>
  ∃ s41, e42 = Ending.returned (Value.string s41) ∧
  ∃ w44, Sem.run Tryz.prog (Instr.storeAt 9 (Value.pointer (some (Addr.add ⟨Array.size (World.heap w30), 0, none⟩ 2))) (Value.string s41)) w43 = .ok () w44 ∧
  Calls Tryz.prog 99 #[(Value.pointer r_1)] w44 fun e46 w47 =>
  ∃ s45, e46 = Ending.returned (Value.string s45) ∧
  ∃ w48, Sem.run Tryz.prog (Instr.storeAt 9 (Value.pointer (some (Addr.add ⟨Array.size (World.heap w30), 0, none⟩ 3))) (Value.string s45)) w47 = .ok () w48 ∧
  ∃ A49, ∃ A49l, ∃ A49c, World.cell? w48 (Addr.add ⟨Array.size (World.heap w2), 0, none⟩ 3) = some (Value.slice A49 A49l A49c) ∧
  ∃ s50, ∃ s51, ∃ s52, ∃ s53, V.cellsC (fun a_ x_ => World.cell? w48 a_ = some x_) ⟨Array.size (World.heap w30), 0, none⟩ [(Value.string s50), (Value.string s51), (Value.string s52), (Value.string s53)] ∧
  ∀ w54, w54 = (World.alloc w48 (.cells #[(Value.string s50), (Value.string s51), (Value.string s52), (Value.string s53)] 123)) →
  ∃ A55, ∃ A55l, ∃ A55c, ∃ w56, Sem.run Tryz.prog (Builtin.append_ #[64, 64] 64 #[(Value.slice A49 A49l A49c), (Value.slice (some ⟨Array.size (World.heap w48), 0, none⟩) 1 1)]) w54 = .ok (Value.slice A55 A55l A55c) w56 ∧
  ∃ w57, Sem.run Tryz.prog (Instr.storeAt 64 (Value.pointer (some (Addr.add ⟨Array.size (World.heap w2), 0, none⟩ 3))) (Value.slice A55 A55l A55c)) w56 = .ok () w57 ∧
  I21 (IntKind.wrap .i64 (i_23 + 1)) w57 ∧ μ22 (IntKind.wrap .i64 (i_23 + 1)) w57 < μ22 i_23 w25)) ∧
  ∀ (j58 : Nat → Value) (w59 : World), J20  w59 →
  Calls Tryz.prog 99 #[(Value.pointer r_1)] w59 fun e61 w62 =>
  ∃ s60, e61 = Ending.returned (Value.string s60) ∧
  ∃ w63, Sem.run Tryz.prog (Instr.storeAt 9 (Value.pointer (some (Addr.add ⟨Array.size (World.heap w2), 0, none⟩ 4))) (Value.string s60)) w62 = .ok () w63 ∧
  Calls Tryz.prog 95 #[(Value.pointer r_1)] w63 fun e65 w66 =>
  ∃ n64, e65 = Ending.returned (Value.int .i64 n64) ∧
  ∃ J67 : World → Prop, (∃ I68 : Int → World → Prop, ∃ μ69 : Int → World → Nat, I68 0 w66 ∧
  ∀ i_70 (j71 : Nat → Value) (w72 : World), I68 i_70 w72 →
  (∃ J73 : World → Prop, (V.sel (decide (i_70 < n64))
  (V.ptr r_1 fun a74 =>
  ∃ n75, World.cell? w72 (Addr.add a74 6) = some (Value.int .i64 n75) ∧
  V.sel (n75 == 0)
  (J73  w72)
  (J67  w72))
  (J67  w72)) ∧
  ∀ (j76 : Nat → Value) (w77 : World), J73  w77 →
  ∀ w78, w78 = (World.alloc w77 (.cells #[(Value.string ByteArray.empty), (Value.string ByteArray.empty)] 125)) →
  ∃ w79, Sem.run Tryz.prog (Instr.storeAt 125 (Value.pointer (some ⟨Array.size (World.heap w77), 0, none⟩)) (Value.agg #[(Value.string ByteArray.empty), (Value.string ByteArray.empty)])) w78 = .ok () w79 ∧
  Calls Tryz.prog 99 #[(Value.pointer r_1)] w79 fun e81 w82 =>
  ∃ s80, e81 = Ending.returned (Value.string s80) ∧
  ∃ w83, Sem.run Tryz.prog (Instr.storeAt 9 (Value.pointer (some (Addr.add ⟨Array.size (World.heap w77), 0, none⟩ 0))) (Value.string s80)) w82 = .ok () w83 ∧
  Calls Tryz.prog 99 #[(Value.pointer r_1)] w83 fun e85 w86 =>
  ∃ s84, e85 = Ending.returned (Value.string s84) ∧
  ∃ w87, Sem.run Tryz.prog (Instr.storeAt 9 (Value.pointer (some (Addr.add ⟨Array.size (World.heap w77), 0, none⟩ 1))) (Value.string s84)) w86 = .ok () w87 ∧
  ∃ A88, ∃ A88l, ∃ A88c, World.cell? w87 (Addr.add ⟨Array.size (World.heap w2), 0, none⟩ 5) = some (Value.slice A88 A88l A88c) ∧
  ∃ s89, ∃ s90, V.cellsC (fun a_ x_ => World.cell? w87 a_ = some x_) ⟨Array.size (World.heap w77), 0, none⟩ [(Value.string s89), (Value.string s90)] ∧
  ∀ w91, w91 = (World.alloc w87 (.cells #[(Value.string s89), (Value.string s90)] 125)) →
  ∃ A92, ∃ A92l, ∃ A92c, ∃ w93, Sem.run Tryz.prog (Builtin.append_ #[65, 65] 65 #[(Value.slice A88 A88l A88c), (Value.slice (some ⟨Array.size (World.heap w87), 0, none⟩) 1 1)]) w91 = .ok (Value.slice A92 A92l A92c) w93 ∧
  ∃ w94, Sem.run Tryz.prog (Instr.storeAt 65 (Value.pointer (some (Addr.add ⟨Array.size (World.heap w2), 0, none⟩ 5))) (Value.slice A92 A92l A92c)) w93 = .ok () w94 ∧
  I68 (IntKind.wrap .i64 (i_70 + 1)) w94 ∧ μ69 (IntKind.wrap .i64 (i_70 + 1)) w94 < μ69 i_70 w72)) ∧
  ∀ (j95 : Nat → Value) (w96 : World), J67  w96 →
  Calls Tryz.prog 95 #[(Value.pointer r_1)] w96 fun e98 w99 =>
  ∃ n97, e98 = Ending.returned (Value.int .i64 n97) ∧
  ∃ J100 : World → Prop, (∃ I101 : Int → World → Prop, ∃ μ102 : Int → World → Nat, I101 0 w99 ∧
  ∀ i_103 (j104 : Nat → Value) (w105 : World), I101 i_103 w105 →
  (∃ J106 : World → Prop, (V.sel (decide (i_103 < n97))
  (V.ptr r_1 fun a107 =>
  ∃ n108, World.cell? w105 (Addr.add a107 6) = some (Value.int .i64 n108) ∧
  V.sel (n108 == 0)
  (J106  w105)
  (J100  w105))
  (J100  w105)) ∧
  ∀ (j109 : Nat → Value) (w110 : World), J106  w110 →
  ∀ w111, w111 = (World.alloc w110 (.cells #[(Value.int .i64 0), (Value.string ByteArray.empty)] 127)) →
  ∃ w112, Sem.run Tryz.prog (Instr.storeAt 127 (Value.pointer (some ⟨Array.size (World.heap w110), 0, none⟩)) (Value.agg #[(Value.int .i64 0), (Value.string ByteArray.empty)])) w111 = .ok () w112 ∧
  Calls Tryz.prog 96 #[(Value.pointer r_1)] w112 fun e114 w115 =>
  ∃ n113, e114 = Ending.returned (Value.int .i64 n113) ∧
  ∃ w116, Sem.run Tryz.prog (Instr.storeAt 3 (Value.pointer (some (Addr.add ⟨Array.size (World.heap w110), 0, none⟩ 0))) (Value.int .i64 n113)) w115 = .ok () w116 ∧
  Calls Tryz.prog 99 #[(Value.pointer r_1)] w116 fun e118 w119 =>
  ∃ s117, e118 = Ending.returned (Value.string s117) ∧
  ∃ w120, Sem.run Tryz.prog (Instr.storeAt 9 (Value.pointer (some (Addr.add ⟨Array.size (World.heap w110), 0, none⟩ 1))) (Value.string s117)) w119 = .ok () w120 ∧
  ∃ A121, ∃ A121l, ∃ A121c, World.cell? w120 (Addr.add ⟨Array.size (World.heap w2), 0, none⟩ 6) = some (Value.slice A121 A121l A121c) ∧
  ∃ n122, ∃ s123, V.cellsC (fun a_ x_ => World.cell? w120 a_ = some x_) ⟨Array.size (World.heap w110), 0, none⟩ [(Value.int .i64 n122), (Value.string s123)] ∧
  ∀ w124, w124 = (World.alloc w120 (.cells #[(Value.int .i64 n122), (Value.string s123)] 127)) →
  ∃ A125, ∃ A125l, ∃ A125c, ∃ w126, Sem.run Tryz.prog (Builtin.append_ #[66, 66] 66 #[(Value.slice A121 A121l A121c), (Value.slice (some ⟨Array.size (World.heap w120), 0, none⟩) 1 1)]) w124 = .ok (Value.slice A125 A125l A125c) w126 ∧
  ∃ w127, Sem.run Tryz.prog (Instr.storeAt 66 (Value.pointer (some (Addr.add ⟨Array.size (World.heap w2), 0, none⟩ 6))) (Value.slice A125 A125l A125c)) w126 = .ok () w127 ∧
  I101 (IntKind.wrap .i64 (i_103 + 1)) w127 ∧ μ102 (IntKind.wrap .i64 (i_103 + 1)) w127 < μ102 i_103 w105)) ∧
  ∀ (j128 : Nat → Value) (w129 : World), J100  w129 →
  Calls Tryz.prog 96 #[(Value.pointer r_1)] w129 fun e131 w132 =>
  ∃ n130, e131 = Ending.returned (Value.int .i64 n130) ∧
  ∃ w133, Sem.run Tryz.prog (Instr.storeAt 3 (Value.pointer (some (Addr.add ⟨Array.size (World.heap w2), 0, none⟩ 7))) (Value.int .i64 n130)) w132 = .ok () w133 ∧
  ∃ s134, ∃ A135, ∃ A135l, ∃ A135c, ∃ A136, ∃ A136l, ∃ A136c, ∃ A137, ∃ A137l, ∃ A137c, ∃ s138, ∃ A139, ∃ A139l, ∃ A139c, ∃ A140, ∃ A140l, ∃ A140c, ∃ n141, V.cellsC (fun a_ x_ => World.cell? w133 a_ = some x_) ⟨Array.size (World.heap w2), 0, none⟩ [(Value.string s134), (Value.slice A135 A135l A135c), (Value.slice A136 A136l A136c), (Value.slice A137 A137l A137c), (Value.string s138), (Value.slice A139 A139l A139c), (Value.slice A140 A140l A140c), (Value.int .i64 n141)] ∧
  ∃ w142, Sem.run Tryz.prog (Instr.storeAt 68 (Value.pointer (some ⟨Array.size (World.heap w), 0, none⟩)) (Value.agg #[(Value.string s134), (Value.slice A135 A135l A135c), (Value.slice A136 A136l A136c), (Value.slice A137 A137l A137c), (Value.string s138), (Value.slice A139 A139l A139c), (Value.slice A140 A140l A140c), (Value.int .i64 n141)])) w133 = .ok () w142 ∧
  ∃ s143, ∃ A144, ∃ A144l, ∃ A144c, ∃ A145, ∃ A145l, ∃ A145c, ∃ A146, ∃ A146l, ∃ A146c, ∃ s147, ∃ A148, ∃ A148l, ∃ A148c, ∃ A149, ∃ A149l, ∃ A149c, ∃ n150, V.cellsC (fun a_ x_ => World.cell? w142 a_ = some x_) ⟨Array.size (World.heap w), 0, none⟩ [(Value.string s143), (Value.slice A144 A144l A144c), (Value.slice A145 A145l A145c), (Value.slice A146 A146l A146c), (Value.string s147), (Value.slice A148 A148l A148c), (Value.slice A149 A149l A149c), (Value.int .i64 n150)] ∧
  R (Ending.returned (Value.agg #[(Value.string s143), (Value.slice A144 A144l A144c), (Value.slice A145 A145l A145c), (Value.slice A146 A146l A146c), (Value.string s147), (Value.slice A148 A148l A148c), (Value.slice A149 A149l A149c), (Value.int .i64 n150)])) w142) :
  Calls Tryz.prog 98 #[(Value.pointer r_1)] w R :=
  V.Z.calls_of_N ⟨V.assoc [(0, [5]), (1, [7]), (2, [9])], V.assocP [], V.assocC [(1000010, ([], [])), (1000016, ([], [])), (1000021, ([], [])), (1000025, ([], [])), (1000029, ([], [])), (1000033, ([], []))], V.assocS [], ⟨[], true⟩⟩ Tryz.func98 rfl (Eq.mp (by kernel_rfl) h)

theorem berthref26_In_text_nf (r_1 : Option Addr) (w : World) (R : Ending → World → Prop) (h :
  V.ptr r_1 fun a2 =>
  ∃ n3, World.cell? w (Addr.add a2 1) = some (Value.int .i64 n3) ∧
  Calls Tryz.prog 128 #[(Value.pointer r_1)] w fun e5 w6 =>
  ∃ n4, e5 = Ending.returned (Value.int .u64 n4) ∧
  V.ptr r_1 fun a7 =>
  ∃ n8, World.cell? w6 (Addr.add a7 6) = some (Value.int .i64 n8) ∧
  V.sel (n8 != 0)
  (R (Ending.returned (Value.string ByteArray.empty)) w6)
  (V.ptr r_1 fun a9 =>
  ∃ A10, ∃ A10l, ∃ A10c, World.cell? w6 (Addr.add a9 3) = some (Value.slice A10 A10l A10c) ∧
  V.sel (decide (n4 ≥ (IntKind.wrap .u64 (((A10l : Nat) : Int)))))
  (Calls Tryz.prog 72 #[(Value.pointer r_1), (Value.int .i64 263), (Value.int .i64 n3)] w6 fun e11 w12 =>
  e11 = Ending.returned undef ∧
  R (Ending.returned (Value.string ByteArray.empty)) w12)
  (V.ptr r_1 fun a13 =>
  ∃ A14, ∃ A14l, ∃ A14c, World.cell? w6 (Addr.add a13 5) = some (Value.slice A14 A14l A14c) ∧
  V.when (decide ((0 : Int) ≤ n4 ∧ (n4 : Int) < ((A14l : Nat) : Int))) (V.ptr A14 fun a15 =>
  ∃ w16, Sem.run Tryz.prog (Instr.storeAt 4 (Value.pointer (some (Addr.add a15 ((Int.toNat n4) * 1)))) (Value.bool true)) w6 = .ok () w16 ∧
  V.ptr r_1 fun a17 =>
  ∃ A18, ∃ A18l, ∃ A18c, World.cell? w16 (Addr.add a17 3) = some (Value.slice A18 A18l A18c) ∧
  V.when (decide ((0 : Int) ≤ n4 ∧ (n4 : Int) < ((A18l : Nat) : Int))) (V.ptr A18 fun a19 =>
  ∃ s20, World.cell? w16 (Addr.add a19 ((Int.toNat n4) * 1)) = some (Value.string s20) ∧
  R (Ending.returned (Value.string s20)) w16))))) :
  Calls Tryz.prog 99 #[(Value.pointer r_1)] w R :=
  V.Z.calls_of_N ⟨V.assoc [], V.assocP [], V.assocC [], V.assocS [], ⟨[], true⟩⟩ Tryz.func99 rfl (Eq.mp (by kernel_rfl) h)

theorem berthref26_In_truth_nf (r_1 : Option Addr) (w : World) (R : Ending → World → Prop) (h :
  V.ptr r_1 fun a2 =>
  ∃ n3, World.cell? w (Addr.add a2 1) = some (Value.int .i64 n3) ∧
  Calls Tryz.prog 131 #[(Value.pointer r_1)] w fun e5 w6 =>
  ∃ n4, e5 = Ending.returned (Value.int .i64 n4) ∧
  ∃ J7 : World → Prop, (V.ptr r_1 fun a8 =>
  ∃ n9, World.cell? w6 (Addr.add a8 6) = some (Value.int .i64 n9) ∧
  V.sel (n9 == 0)
  (V.sel (decide (n4 > 1))
  (Calls Tryz.prog 72 #[(Value.pointer r_1), (Value.int .i64 263), (Value.int .i64 n3)] w6 fun e10 w11 =>
  e10 = Ending.returned undef ∧
  J7  w11)
  (J7  w6))
  (J7  w6)) ∧
  ∀ (j12 : Nat → Value) (w13 : World), J7  w13 →
  V.ptr r_1 fun a14 =>
  ∃ n15, World.cell? w13 (Addr.add a14 6) = some (Value.int .i64 n15) ∧
  V.sel (n15 == 0)
  (R (Ending.returned (Value.bool (n4 == 1))) w13)
  (R (Ending.returned (Value.bool false)) w13)) :
  Calls Tryz.prog 100 #[(Value.pointer r_1)] w R :=
  V.Z.calls_of_N ⟨V.assoc [], V.assocP [], V.assocC [(1000006, ([], []))], V.assocS [], ⟨[], true⟩⟩ Tryz.func100 rfl (Eq.mp (by kernel_rfl) h)

theorem image_list_api_Toleration__nf (w_1 : Option Addr) (l_2 : Option Addr) (l_2l : Nat) (l_2c : Nat) (one_f3 : Nat) (one_a4 : Array Value) (one_c5 : Array Value) (w : World) (R : Ending → World → Prop) (h :
  Calls Tryz.prog 32 #[(Value.pointer w_1), (Value.int .u64 (IntKind.wrap .u64 (((l_2l : Nat) : Int))))] w fun e6 w7 =>
  e6 = Ending.returned undef ∧
  ∃ I8 : Int → World → Prop, ∃ μ9 : Int → World → Nat, I8 0 w7 ∧
  ∀ t15_10 (j11 : Nat → Value) (w12 : World), I8 t15_10 w12 →
  (V.sel (decide (t15_10 < ((l_2l : Nat) : Int)))
  (V.when (decide ((0 : Int) ≤ t15_10 ∧ (t15_10 : Int) < ((l_2l : Nat) : Int))) (V.ptr l_2 fun a13 =>
  ∃ s14, ∃ s15, ∃ s16, ∃ s17, V.cellsC (fun a_ x_ => World.cell? w12 a_ = some x_) (Addr.add a13 ((Int.toNat t15_10) * 4)) [(Value.string s14), (Value.string s15), (Value.string s16), (Value.string s17)] ∧
  ∀ w18, w18 = (World.alloc w12 (.cells #[(Value.string ByteArray.empty), (Value.string ByteArray.empty), (Value.string ByteArray.empty), (Value.string ByteArray.empty)] 123)) →
  ∃ w19, Sem.run Tryz.prog (Instr.storeAt 123 (Value.pointer (some ⟨Array.size (World.heap w12), 0, none⟩)) (Value.agg #[(Value.string s14), (Value.string s15), (Value.string s16), (Value.string s17)])) w18 = .ok () w19 ∧
  ∃ s20, ∃ s21, ∃ s22, ∃ s23, V.cellsC (fun a_ x_ => World.cell? w19 a_ = some x_) ⟨Array.size (World.heap w12), 0, none⟩ [(Value.string s20), (Value.string s21), (Value.string s22), (Value.string s23)] ∧
  V.when (V.hasB Tryz.prog one_f3) (Calls Tryz.prog one_f3 ⟨Array.toList one_a4 ++ [(Value.agg #[(Value.string s20), (Value.string s21), (Value.string s22), (Value.string s23)])] ++ Array.toList one_c5⟩ w19 fun e24 w25 =>
  e24 = Ending.returned undef ∧
  I8 (IntKind.wrap .i64 (t15_10 + 1)) w25 ∧ μ9 (IntKind.wrap .i64 (t15_10 + 1)) w25 < μ9 t15_10 w12)))
  (R (Ending.returned undef) w12))) :
  Calls Tryz.prog 101 #[(Value.pointer w_1), (Value.slice l_2 l_2l l_2c), (Value.func (.func one_f3) one_a4 one_c5)] w R :=
  V.Z.calls_of_N ⟨V.assoc [(0, [15])], V.assocP [], V.assocC [], V.assocS [], ⟨[], true⟩⟩ Tryz.func101 rfl (Eq.mp (by kernel_rfl) h)

theorem image_writer_toleration_nf (w_1 : Option Addr) (o_2 : ByteArray) (o_3 : ByteArray) (o_4 : ByteArray) (o_5 : ByteArray) (w : World) (R : Ending → World → Prop) (h :
  ∀ w6, w6 = (World.alloc w (.cells #[(Value.string o_2), (Value.string o_3), (Value.string o_4), (Value.string o_5)] 123)) →
  ∃ s7, World.cell? w6 (Addr.add ⟨Array.size (World.heap w), 0, none⟩ 0) = some (Value.string s7) ∧
  Calls Tryz.prog 75 #[(Value.pointer w_1), (Value.string s7)] w6 fun e8 w9 =>
  e8 = Ending.returned undef ∧
  ∃ s10, World.cell? w9 (Addr.add ⟨Array.size (World.heap w), 0, none⟩ 1) = some (Value.string s10) ∧
  Calls Tryz.prog 75 #[(Value.pointer w_1), (Value.string s10)] w9 fun e11 w12 =>
  e11 = Ending.returned undef ∧
  ∃ s13, World.cell? w12 (Addr.add ⟨Array.size (World.heap w), 0, none⟩ 2) = some (Value.string s13) ∧
  Calls Tryz.prog 75 #[(Value.pointer w_1), (Value.string s13)] w12 fun e14 w15 =>
  e14 = Ending.returned undef ∧
  ∃ s16, World.cell? w15 (Addr.add ⟨Array.size (World.heap w), 0, none⟩ 3) = some (Value.string s16) ∧
  Calls Tryz.prog 75 #[(Value.pointer w_1), (Value.string s16)] w15 fun e17 w18 =>
  e17 = Ending.returned undef ∧
  R (Ending.returned undef) w18) :
  Calls Tryz.prog 102 #[(Value.pointer w_1), (Value.agg #[(Value.string o_2), (Value.string o_3), (Value.string o_4), (Value.string o_5)])] w R :=
  V.Z.calls_of_N ⟨V.assoc [], V.assocP [], V.assocC [], V.assocS [], ⟨[], true⟩⟩ Tryz.func102 rfl (Eq.mp (by kernel_rfl) h)

end Go.Proofs.YtoaeefjcjdhlkaaGreat
