/- Normal forms of the program's functions, printed by a program of mine; the kernel checks each. -/
import Derived.Test.YtcampkaenlohbaaProg
import Derived.Test.YtcampkaenlohbaaV2
set_option linter.unusedVariables false
set_option maxRecDepth 100000
namespace Go.Proofs.Ytcampkaenlohbaa
open Go

theorem berthlaw05_SlotsNames_nf  (w : World) (R : Ending → World → Prop) (h :
  R (Ending.returned (Value.bool true)) w) :
  Calls Try.prog 3 #[] w R :=
  V.calls_of_R ⟨V.assoc [], V.assocP [], V.assocC [], V.assocS [], ⟨[], true⟩⟩ Try.func3 rfl (Eq.mp (by kernel_rfl) h)

theorem berthlaw05_SlotsLowest_nf (script_1 : Option Addr) (script_1l : Nat) (script_1c : Nat) (w : World) (R : Ending → World → Prop) (h :
  Calls Try.prog 9 #[] w fun e3 w4 =>
  ∃ b2, e3 = Ending.returned (Value.bool b2) ∧
  V.sel (!b2)
  (R (Ending.returned (Value.bool false)) w4)
  (Calls Try.prog 10 #[(Value.int .i64 40)] w4 fun e7 w8 =>
  ∃ p5, ∃ n6, e7 = Ending.returned (Value.tuple #[(Value.pointer p5), (Value.int .i64 n6)]) ∧
  V.sel (Option.isNone p5)
  (R (Ending.returned (Value.bool false)) w8)
  (V.sel (n6 != 0)
  (R (Ending.returned (Value.bool false)) w8)
  (∀ w9, w9 = (World.alloc w8 (.map #[] 0)) →
  ∀ w10, w10 = (World.alloc w9 (.map #[] 0)) →
  ∃ I11 : Int → World → Prop, ∃ μ12 : Int → World → Nat, I11 0 w10 ∧
  ∀ t39_13 (j14 : Nat → Value) (w15 : World), I11 t39_13 w15 →
  (V.sel (decide (t39_13 < ((script_1l : Nat) : Int)))
  (V.when (decide ((0 : Int) ≤ t39_13 ∧ (t39_13 : Int) < ((script_1l : Nat) : Int))) (V.ptr script_1 fun a16 =>
  ∃ n17, ∃ n18, ∃ n19, ∃ s20, ∃ n21, V.cellsC (fun a_ x_ => World.cell? w15 a_ = some x_) (Addr.add a16 ((Int.toNat t39_13) * 5)) [(Value.int .i64 n17), (Value.int .i64 n18), (Value.int .i64 n19), (Value.string s20), (Value.int .i64 n21)] ∧
  ∀ w22, w22 = (World.alloc w15 (.cells #[(Value.int .i64 0), (Value.int .i64 0), (Value.int .i64 0), (Value.string ByteArray.empty), (Value.int .i64 0)] 31)) →
  ∃ w23, Sem.run Try.prog (Instr.storeAt 31 (Value.pointer (some ⟨Array.size (World.heap w15), 0, none⟩)) (Value.agg #[(Value.int .i64 n17), (Value.int .i64 n18), (Value.int .i64 n19), (Value.string s20), (Value.int .i64 n21)])) w22 = .ok () w23 ∧
  ∃ n24, World.cell? w23 (Addr.add ⟨Array.size (World.heap w15), 0, none⟩ 0) = some (Value.int .i64 n24) ∧
  V.sel (n24 == 2)
  (∃ s25, World.cell? w23 (Addr.add ⟨Array.size (World.heap w15), 0, none⟩ 3) = some (Value.string s25) ∧
  ∃ n26, World.cell? w23 (Addr.add ⟨Array.size (World.heap w15), 0, none⟩ 4) = some (Value.int .i64 n26) ∧
  Calls Try.prog 11 #[(Value.pointer p5), (Value.string s25), (Value.int .i64 n26)] w23 fun e29 w30 =>
  ∃ n27, ∃ n28, e29 = Ending.returned (Value.tuple #[(Value.int .i64 n27), (Value.int .i64 n28)]) ∧
  V.sel (n28 != 0)
  (Calls Try.prog 14 #[(Value.pointer p5)] w30 fun e32 w33 =>
  ∃ n31, e32 = Ending.returned (Value.int .i64 n31) ∧
  ∃ n34, ∃ w35, Sem.run Try.prog (Builtin.len_ #[28] 3 #[(Value.map (some (Array.size (World.heap w8))))]) w33 = .ok (Value.int .i64 n34) w35 ∧
  V.sel (n31 != n34)
  (R (Ending.returned (Value.bool false)) w35)
  (∃ s36, World.cell? w35 (Addr.add ⟨Array.size (World.heap w15), 0, none⟩ 3) = some (Value.string s36) ∧
  Calls Try.prog 15 #[(Value.pointer p5), (Value.string s36)] w35 fun e40 w41 =>
  ∃ n37, ∃ n38, ∃ b39, e40 = Ending.returned (Value.tuple #[(Value.int .i64 n37), (Value.int .i64 n38), (Value.bool b39)]) ∧
  ∃ s42, World.cell? w41 (Addr.add ⟨Array.size (World.heap w15), 0, none⟩ 3) = some (Value.string s42) ∧
  ∃ n43, ∃ b44, ∃ w45, Sem.run Try.prog (Instr.lookup 28 (Value.map (some (Array.size (World.heap w8)))) (Value.string s42) true) w41 = .ok (Value.tuple #[(Value.int .i64 n43), (Value.bool b44)]) w45 ∧
  V.sel (!(b39 == b44))
  (R (Ending.returned (Value.bool false)) w45)
  (V.sel b39
  (V.sel (n37 != n43)
  (R (Ending.returned (Value.bool false)) w45)
  (I11 (IntKind.wrap .i64 (t39_13 + 1)) w45 ∧ μ12 (IntKind.wrap .i64 (t39_13 + 1)) w45 < μ12 t39_13 w15))
  (I11 (IntKind.wrap .i64 (t39_13 + 1)) w45 ∧ μ12 (IntKind.wrap .i64 (t39_13 + 1)) w45 < μ12 t39_13 w15))))
  (∃ n46, ∃ w47, Sem.run Try.prog (Instr.lookup 29 (Value.map (some (Array.size (World.heap w9)))) (Value.int .i64 n27) false) w30 = .ok (Value.int .i64 n46) w47 ∧
  V.sel (n46 != 0)
  (R (Ending.returned (Value.bool false)) w47)
  (V.sel (decide (n27 < 0))
  (R (Ending.returned (Value.bool false)) w47)
  (V.sel (decide (n27 ≥ 40))
  (R (Ending.returned (Value.bool false)) w47)
  (∃ I48 : Int → World → Prop, ∃ μ49 : Int → World → Nat, I48 0 w47 ∧
  ∀ s_50 (j51 : Nat → Value) (w52 : World), I48 s_50 w52 →
  (V.sel (decide (s_50 < n27))
  (∃ n53, ∃ w54, Sem.run Try.prog (Instr.lookup 29 (Value.map (some (Array.size (World.heap w9)))) (Value.int .i64 s_50) false) w52 = .ok (Value.int .i64 n53) w54 ∧
  V.sel (n53 == 0)
  (R (Ending.returned (Value.bool false)) w54)
  (I48 (IntKind.wrap .i64 (s_50 + 1)) w54 ∧ μ49 (IntKind.wrap .i64 (s_50 + 1)) w54 < μ49 s_50 w52))
  (∃ s55, World.cell? w52 (Addr.add ⟨Array.size (World.heap w15), 0, none⟩ 3) = some (Value.string s55) ∧
  ∃ n56, ∃ b57, ∃ w58, Sem.run Try.prog (Instr.lookup 28 (Value.map (some (Array.size (World.heap w8)))) (Value.string s55) true) w52 = .ok (Value.tuple #[(Value.int .i64 n56), (Value.bool b57)]) w58 ∧
  V.sel b57
  (R (Ending.returned (Value.bool false)) w58)
  (∃ s59, World.cell? w58 (Addr.add ⟨Array.size (World.heap w15), 0, none⟩ 3) = some (Value.string s59) ∧
  ∃ w60, Sem.run Try.prog (Instr.mapUpdate 28 (Value.map (some (Array.size (World.heap w8)))) (Value.string s59) (Value.int .i64 n27)) w58 = .ok () w60 ∧
  ∃ w61, Sem.run Try.prog (Instr.mapUpdate 29 (Value.map (some (Array.size (World.heap w9)))) (Value.int .i64 n27) (Value.int .i64 1)) w60 = .ok () w61 ∧
  Calls Try.prog 14 #[(Value.pointer p5)] w61 fun e63 w64 =>
  ∃ n62, e63 = Ending.returned (Value.int .i64 n62) ∧
  ∃ n65, ∃ w66, Sem.run Try.prog (Builtin.len_ #[28] 3 #[(Value.map (some (Array.size (World.heap w8))))]) w64 = .ok (Value.int .i64 n65) w66 ∧
  V.sel (n62 != n65)
  (R (Ending.returned (Value.bool false)) w66)
  (∃ s67, World.cell? w66 (Addr.add ⟨Array.size (World.heap w15), 0, none⟩ 3) = some (Value.string s67) ∧
  Calls Try.prog 15 #[(Value.pointer p5), (Value.string s67)] w66 fun e71 w72 =>
  ∃ n68, ∃ n69, ∃ b70, e71 = Ending.returned (Value.tuple #[(Value.int .i64 n68), (Value.int .i64 n69), (Value.bool b70)]) ∧
  ∃ s73, World.cell? w72 (Addr.add ⟨Array.size (World.heap w15), 0, none⟩ 3) = some (Value.string s73) ∧
  ∃ n74, ∃ b75, ∃ w76, Sem.run Try.prog (Instr.lookup 28 (Value.map (some (Array.size (World.heap w8)))) (Value.string s73) true) w72 = .ok (Value.tuple #[(Value.int .i64 n74), (Value.bool b75)]) w76 ∧
  V.sel (!(b70 == b75))
  (R (Ending.returned (Value.bool false)) w76)
  (V.sel b70
  (V.sel (n68 != n74)
  (R (Ending.returned (Value.bool false)) w76)
  (I11 (IntKind.wrap .i64 (t39_13 + 1)) w76 ∧ μ12 (IntKind.wrap .i64 (t39_13 + 1)) w76 < μ12 t39_13 w15))
  (I11 (IntKind.wrap .i64 (t39_13 + 1)) w76 ∧ μ12 (IntKind.wrap .i64 (t39_13 + 1)) w76 < μ12 t39_13 w15)))))))))))
  (V.sel (n24 == 3)
  (∃ s77, World.cell? w23 (Addr.add ⟨Array.size (World.heap w15), 0, none⟩ 3) = some (Value.string s77) ∧
  ∃ n78, World.cell? w23 (Addr.add ⟨Array.size (World.heap w15), 0, none⟩ 4) = some (Value.int .i64 n78) ∧
  Calls Try.prog 12 #[(Value.pointer p5), (Value.string s77), (Value.int .i64 n78)] w23 fun e80 w81 =>
  ∃ n79, e80 = Ending.returned (Value.int .i64 n79) ∧
  Calls Try.prog 14 #[(Value.pointer p5)] w81 fun e83 w84 =>
  ∃ n82, e83 = Ending.returned (Value.int .i64 n82) ∧
  ∃ n85, ∃ w86, Sem.run Try.prog (Builtin.len_ #[28] 3 #[(Value.map (some (Array.size (World.heap w8))))]) w84 = .ok (Value.int .i64 n85) w86 ∧
  V.sel (n82 != n85)
  (R (Ending.returned (Value.bool false)) w86)
  (∃ s87, World.cell? w86 (Addr.add ⟨Array.size (World.heap w15), 0, none⟩ 3) = some (Value.string s87) ∧
  Calls Try.prog 15 #[(Value.pointer p5), (Value.string s87)] w86 fun e91 w92 =>
  ∃ n88, ∃ n89, ∃ b90, e91 = Ending.returned (Value.tuple #[(Value.int .i64 n88), (Value.int .i64 n89), (Value.bool b90)]) ∧
  ∃ s93, World.cell? w92 (Addr.add ⟨Array.size (World.heap w15), 0, none⟩ 3) = some (Value.string s93) ∧
  ∃ n94, ∃ b95, ∃ w96, Sem.run Try.prog (Instr.lookup 28 (Value.map (some (Array.size (World.heap w8)))) (Value.string s93) true) w92 = .ok (Value.tuple #[(Value.int .i64 n94), (Value.bool b95)]) w96 ∧
  V.sel (!(b90 == b95))
  (R (Ending.returned (Value.bool false)) w96)
  (V.sel b90
  (V.sel (n88 != n94)
  (R (Ending.returned (Value.bool false)) w96)
  (I11 (IntKind.wrap .i64 (t39_13 + 1)) w96 ∧ μ12 (IntKind.wrap .i64 (t39_13 + 1)) w96 < μ12 t39_13 w15))
  (I11 (IntKind.wrap .i64 (t39_13 + 1)) w96 ∧ μ12 (IntKind.wrap .i64 (t39_13 + 1)) w96 < μ12 t39_13 w15))))
  (V.sel (n24 == 4)
  (∃ s97, World.cell? w23 (Addr.add ⟨Array.size (World.heap w15), 0, none⟩ 3) = some (Value.string s97) ∧
  Calls Try.prog 13 #[(Value.pointer p5), (Value.string s97)] w23 fun e100 w101 =>
  ∃ n98, ∃ n99, e100 = Ending.returned (Value.tuple #[(Value.int .i64 n98), (Value.int .i64 n99)]) ∧
  ∃ s102, World.cell? w101 (Addr.add ⟨Array.size (World.heap w15), 0, none⟩ 3) = some (Value.string s102) ∧
  ∃ n103, ∃ b104, ∃ w105, Sem.run Try.prog (Instr.lookup 28 (Value.map (some (Array.size (World.heap w8)))) (Value.string s102) true) w101 = .ok (Value.tuple #[(Value.int .i64 n103), (Value.bool b104)]) w105 ∧
  V.sel (!(b104 == (n99 == 0)))
  (R (Ending.returned (Value.bool false)) w105)
  (V.sel b104
  (V.sel (n98 != n103)
  (R (Ending.returned (Value.bool false)) w105)
  (V.sel b104
  (∃ s106, World.cell? w105 (Addr.add ⟨Array.size (World.heap w15), 0, none⟩ 3) = some (Value.string s106) ∧
  ∃ w107, Sem.run Try.prog (Builtin.delete_ #[28, 9] 0 #[(Value.map (some (Array.size (World.heap w8)))), (Value.string s106)]) w105 = .ok undef w107 ∧
  ∃ w108, Sem.run Try.prog (Instr.mapUpdate 29 (Value.map (some (Array.size (World.heap w9)))) (Value.int .i64 n98) (Value.int .i64 0)) w107 = .ok () w108 ∧
  Calls Try.prog 14 #[(Value.pointer p5)] w108 fun e110 w111 =>
  ∃ n109, e110 = Ending.returned (Value.int .i64 n109) ∧
  ∃ n112, ∃ w113, Sem.run Try.prog (Builtin.len_ #[28] 3 #[(Value.map (some (Array.size (World.heap w8))))]) w111 = .ok (Value.int .i64 n112) w113 ∧
  V.sel (n109 != n112)
  (R (Ending.returned (Value.bool false)) w113)
  (∃ s114, World.cell? w113 (Addr.add ⟨Array.size (World.heap w15), 0, none⟩ 3) = some (Value.string s114) ∧
  Calls Try.prog 15 #[(Value.pointer p5), (Value.string s114)] w113 fun e118 w119 =>
  ∃ n115, ∃ n116, ∃ b117, e118 = Ending.returned (Value.tuple #[(Value.int .i64 n115), (Value.int .i64 n116), (Value.bool b117)]) ∧
  ∃ s120, World.cell? w119 (Addr.add ⟨Array.size (World.heap w15), 0, none⟩ 3) = some (Value.string s120) ∧
  ∃ n121, ∃ b122, ∃ w123, Sem.run Try.prog (Instr.lookup 28 (Value.map (some (Array.size (World.heap w8)))) (Value.string s120) true) w119 = .ok (Value.tuple #[(Value.int .i64 n121), (Value.bool b122)]) w123 ∧
  V.sel (!(b117 == b122))
  (R (Ending.returned (Value.bool false)) w123)
  (V.sel b117
  (V.sel (n115 != n121)
  (R (Ending.returned (Value.bool false)) w123)
  (I11 (IntKind.wrap .i64 (t39_13 + 1)) w123 ∧ μ12 (IntKind.wrap .i64 (t39_13 + 1)) w123 < μ12 t39_13 w15))
  (I11 (IntKind.wrap .i64 (t39_13 + 1)) w123 ∧ μ12 (IntKind.wrap .i64 (t39_13 + 1)) w123 < μ12 t39_13 w15))))
  (Calls Try.prog 14 #[(Value.pointer p5)] w105 fun e125 w126 =>
  ∃ n124, e125 = Ending.returned (Value.int .i64 n124) ∧
  ∃ n127, ∃ w128, Sem.run Try.prog (Builtin.len_ #[28] 3 #[(Value.map (some (Array.size (World.heap w8))))]) w126 = .ok (Value.int .i64 n127) w128 ∧
  V.sel (n124 != n127)
  (R (Ending.returned (Value.bool false)) w128)
  (∃ s129, World.cell? w128 (Addr.add ⟨Array.size (World.heap w15), 0, none⟩ 3) = some (Value.string s129) ∧
  Calls Try.prog 15 #[(Value.pointer p5), (Value.string s129)] w128 fun e133 w134 =>
  ∃ n130, ∃ n131, ∃ b132, e133 = Ending.returned (Value.tuple #[(Value.int .i64 n130), (Value.int .i64 n131), (Value.bool b132)]) ∧
  ∃ s135, World.cell? w134 (Addr.add ⟨Array.size (World.heap w15), 0, none⟩ 3) = some (Value.string s135) ∧
  ∃ n136, ∃ b137, ∃ w138, Sem.run Try.prog (Instr.lookup 28 (Value.map (some (Array.size (World.heap w8)))) (Value.string s135) true) w134 = .ok (Value.tuple #[(Value.int .i64 n136), (Value.bool b137)]) w138 ∧
  V.sel (!(b132 == b137))
  (R (Ending.returned (Value.bool false)) w138)
  (V.sel b132
  (V.sel (n130 != n136)
  (R (Ending.returned (Value.bool false)) w138)
  (I11 (IntKind.wrap .i64 (t39_13 + 1)) w138 ∧ μ12 (IntKind.wrap .i64 (t39_13 + 1)) w138 < μ12 t39_13 w15))
  (I11 (IntKind.wrap .i64 (t39_13 + 1)) w138 ∧ μ12 (IntKind.wrap .i64 (t39_13 + 1)) w138 < μ12 t39_13 w15))))))
  (V.sel b104
  (∃ s139, World.cell? w105 (Addr.add ⟨Array.size (World.heap w15), 0, none⟩ 3) = some (Value.string s139) ∧
  ∃ w140, Sem.run Try.prog (Builtin.delete_ #[28, 9] 0 #[(Value.map (some (Array.size (World.heap w8)))), (Value.string s139)]) w105 = .ok undef w140 ∧
  ∃ w141, Sem.run Try.prog (Instr.mapUpdate 29 (Value.map (some (Array.size (World.heap w9)))) (Value.int .i64 n98) (Value.int .i64 0)) w140 = .ok () w141 ∧
  Calls Try.prog 14 #[(Value.pointer p5)] w141 fun e143 w144 =>
  ∃ n142, e143 = Ending.returned (Value.int .i64 n142) ∧
  ∃ n145, ∃ w146, Sem.run Try.prog (Builtin.len_ #[28] 3 #[(Value.map (some (Array.size (World.heap w8))))]) w144 = .ok (Value.int .i64 n145) w146 ∧
  V.sel (n142 != n145)
  (R (Ending.returned (Value.bool false)) w146)
  (∃ s147, World.cell? w146 (Addr.add ⟨Array.size (World.heap w15), 0, none⟩ 3) = some (Value.string s147) ∧
  Calls Try.prog 15 #[(Value.pointer p5), (Value.string s147)] w146 fun e151 w152 =>
  ∃ n148, ∃ n149, ∃ b150, e151 = Ending.returned (Value.tuple #[(Value.int .i64 n148), (Value.int .i64 n149), (Value.bool b150)]) ∧
  ∃ s153, World.cell? w152 (Addr.add ⟨Array.size (World.heap w15), 0, none⟩ 3) = some (Value.string s153) ∧
  ∃ n154, ∃ b155, ∃ w156, Sem.run Try.prog (Instr.lookup 28 (Value.map (some (Array.size (World.heap w8)))) (Value.string s153) true) w152 = .ok (Value.tuple #[(Value.int .i64 n154), (Value.bool b155)]) w156 ∧
  V.sel (!(b150 == b155))
  (R (Ending.returned (Value.bool false)) w156)
  (V.sel b150
  (V.sel (n148 != n154)
  (R (Ending.returned (Value.bool false)) w156)
  (I11 (IntKind.wrap .i64 (t39_13 + 1)) w156 ∧ μ12 (IntKind.wrap .i64 (t39_13 + 1)) w156 < μ12 t39_13 w15))
  (I11 (IntKind.wrap .i64 (t39_13 + 1)) w156 ∧ μ12 (IntKind.wrap .i64 (t39_13 + 1)) w156 < μ12 t39_13 w15))))
  (Calls Try.prog 14 #[(Value.pointer p5)] w105 fun e158 w159 =>
  ∃ n157, e158 = Ending.returned (Value.int .i64 n157) ∧
  ∃ n160, ∃ w161, Sem.run Try.prog (Builtin.len_ #[28] 3 #[(Value.map (some (Array.size (World.heap w8))))]) w159 = .ok (Value.int .i64 n160) w161 ∧
  V.sel (n157 != n160)
  (R (Ending.returned (Value.bool false)) w161)
  (∃ s162, World.cell? w161 (Addr.add ⟨Array.size (World.heap w15), 0, none⟩ 3) = some (Value.string s162) ∧
  Calls Try.prog 15 #[(Value.pointer p5), (Value.string s162)] w161 fun e166 w167 =>
  ∃ n163, ∃ n164, ∃ b165, e166 = Ending.returned (Value.tuple #[(Value.int .i64 n163), (Value.int .i64 n164), (Value.bool b165)]) ∧
  ∃ s168, World.cell? w167 (Addr.add ⟨Array.size (World.heap w15), 0, none⟩ 3) = some (Value.string s168) ∧
  ∃ n169, ∃ b170, ∃ w171, Sem.run Try.prog (Instr.lookup 28 (Value.map (some (Array.size (World.heap w8)))) (Value.string s168) true) w167 = .ok (Value.tuple #[(Value.int .i64 n169), (Value.bool b170)]) w171 ∧
  V.sel (!(b165 == b170))
  (R (Ending.returned (Value.bool false)) w171)
  (V.sel b165
  (V.sel (n163 != n169)
  (R (Ending.returned (Value.bool false)) w171)
  (I11 (IntKind.wrap .i64 (t39_13 + 1)) w171 ∧ μ12 (IntKind.wrap .i64 (t39_13 + 1)) w171 < μ12 t39_13 w15))
  (I11 (IntKind.wrap .i64 (t39_13 + 1)) w171 ∧ μ12 (IntKind.wrap .i64 (t39_13 + 1)) w171 < μ12 t39_13 w15)))))))
  (Calls Try.prog 14 #[(Value.pointer p5)] w23 fun e173 w174 =>
  ∃ n172, e173 = Ending.returned (Value.int .i64 n172) ∧
  ∃ n175, ∃ w176, Sem.run Try.prog (Builtin.len_ #[28] 3 #[(Value.map (some (Array.size (World.heap w8))))]) w174 = .ok (Value.int .i64 n175) w176 ∧
  V.sel (n172 != n175)
  (R (Ending.returned (Value.bool false)) w176)
  (∃ s177, World.cell? w176 (Addr.add ⟨Array.size (World.heap w15), 0, none⟩ 3) = some (Value.string s177) ∧
  Calls Try.prog 15 #[(Value.pointer p5), (Value.string s177)] w176 fun e181 w182 =>
  ∃ n178, ∃ n179, ∃ b180, e181 = Ending.returned (Value.tuple #[(Value.int .i64 n178), (Value.int .i64 n179), (Value.bool b180)]) ∧
  ∃ s183, World.cell? w182 (Addr.add ⟨Array.size (World.heap w15), 0, none⟩ 3) = some (Value.string s183) ∧
  ∃ n184, ∃ b185, ∃ w186, Sem.run Try.prog (Instr.lookup 28 (Value.map (some (Array.size (World.heap w8)))) (Value.string s183) true) w182 = .ok (Value.tuple #[(Value.int .i64 n184), (Value.bool b185)]) w186 ∧
  V.sel (!(b180 == b185))
  (R (Ending.returned (Value.bool false)) w186)
  (V.sel b180
  (V.sel (n178 != n184)
  (R (Ending.returned (Value.bool false)) w186)
  (I11 (IntKind.wrap .i64 (t39_13 + 1)) w186 ∧ μ12 (IntKind.wrap .i64 (t39_13 + 1)) w186 < μ12 t39_13 w15))
  (I11 (IntKind.wrap .i64 (t39_13 + 1)) w186 ∧ μ12 (IntKind.wrap .i64 (t39_13 + 1)) w186 < μ12 t39_13 w15))))))))
  (R (Ending.returned (Value.bool true)) w15)))))) :
  Calls Try.prog 4 #[(Value.slice script_1 script_1l script_1c)] w R :=
  V.calls_of_R ⟨V.assoc [(0, [39]), (1, [11])], V.assocP [], V.assocC [], V.assocS [], ⟨[], true⟩⟩ Try.func4 rfl (Eq.mp (by kernel_rfl) h)

theorem berthlaw05_SlotsBlind_nf (names_1 : Option Addr) (names_1l : Nat) (names_1c : Nat) (detour_2 : Option Addr) (detour_2l : Nat) (detour_2c : Nat) (w : World) (R : Ending → World → Prop) (h :
  Calls Try.prog 9 #[] w fun e4 w5 =>
  ∃ b3, e4 = Ending.returned (Value.bool b3) ∧
  V.sel (!b3)
  (R (Ending.returned (Value.bool false)) w5)
  (Calls Try.prog 10 #[(Value.int .i64 600)] w5 fun e8 w9 =>
  ∃ p6, ∃ n7, e8 = Ending.returned (Value.tuple #[(Value.pointer p6), (Value.int .i64 n7)]) ∧
  Calls Try.prog 10 #[(Value.int .i64 600)] w9 fun e12 w13 =>
  ∃ p10, ∃ n11, e12 = Ending.returned (Value.tuple #[(Value.pointer p10), (Value.int .i64 n11)]) ∧
  V.sel (Option.isNone p6)
  (R (Ending.returned (Value.bool false)) w13)
  (V.sel (Option.isNone p10)
  (R (Ending.returned (Value.bool false)) w13)
  (V.sel (n7 != 0)
  (R (Ending.returned (Value.bool false)) w13)
  (V.sel (n11 != 0)
  (R (Ending.returned (Value.bool false)) w13)
  (V.sel (decide (((names_1l : Nat) : Int) > 250))
  (V.when (decide ((0 : Int) ≤ 250 ∧ (250 : Int) ≤ ((names_1c : Nat) : Int))) (V.sel (decide (((detour_2l : Nat) : Int) > 250))
  (V.when (decide ((0 : Int) ≤ 250 ∧ (250 : Int) ≤ ((detour_2c : Nat) : Int))) (∃ I14 : Int → World → Prop, ∃ μ15 : Int → World → Nat, I14 0 w13 ∧
  ∀ t71_16 (j17 : Nat → Value) (w18 : World), I14 t71_16 w18 →
  (V.sel (decide (t71_16 < (((250 - 0) : Nat) : Int)))
  (V.when (decide ((0 : Int) ≤ t71_16 ∧ (t71_16 : Int) < (((250 - 0) : Nat) : Int))) (V.ptr (V.cut names_1 names_1c 0 1) fun a19 =>
  ∃ s20, World.cell? w18 (Addr.add a19 ((Int.toNat t71_16) * 1)) = some (Value.string s20) ∧
  Calls Try.prog 11 #[(Value.pointer p6), (Value.string s20), (Value.int .i64 t71_16)] w18 fun e23 w24 =>
  ∃ n21, ∃ n22, e23 = Ending.returned (Value.tuple #[(Value.int .i64 n21), (Value.int .i64 n22)]) ∧
  I14 (IntKind.wrap .i64 (t71_16 + 1)) w24 ∧ μ15 (IntKind.wrap .i64 (t71_16 + 1)) w24 < μ15 t71_16 w18))
  (∃ I25 : Int → World → Prop, ∃ μ26 : Int → World → Nat, I25 0 w18 ∧
  ∀ t83_27 (j28 : Nat → Value) (w29 : World), I25 t83_27 w29 →
  (V.sel (decide (t83_27 < (((250 - 0) : Nat) : Int)))
  (V.when (decide ((0 : Int) ≤ t83_27 ∧ (t83_27 : Int) < (((250 - 0) : Nat) : Int))) (V.ptr (V.cut detour_2 detour_2c 0 1) fun a30 =>
  ∃ s31, World.cell? w29 (Addr.add a30 ((Int.toNat t83_27) * 1)) = some (Value.string s31) ∧
  Calls Try.prog 11 #[(Value.pointer p10), (Value.string s31), (Value.int .i64 (-1))] w29 fun e34 w35 =>
  ∃ n32, ∃ n33, e34 = Ending.returned (Value.tuple #[(Value.int .i64 n32), (Value.int .i64 n33)]) ∧
  I25 (IntKind.wrap .i64 (t83_27 + 1)) w35 ∧ μ26 (IntKind.wrap .i64 (t83_27 + 1)) w35 < μ26 t83_27 w29))
  (∃ I36 : Int → World → Prop, ∃ μ37 : Int → World → Nat, I36 0 w29 ∧
  ∀ t93_38 (j39 : Nat → Value) (w40 : World), I36 t93_38 w40 →
  (V.sel (decide (t93_38 < (((250 - 0) : Nat) : Int)))
  (V.when (decide ((0 : Int) ≤ (IntKind.wrap .i64 ((IntKind.wrap .i64 ((((250 - 0) : Nat) : Int) - 1)) - t93_38)) ∧ ((IntKind.wrap .i64 ((IntKind.wrap .i64 ((((250 - 0) : Nat) : Int) - 1)) - t93_38)) : Int) < (((250 - 0) : Nat) : Int))) (V.ptr (V.cut names_1 names_1c 0 1) fun a41 =>
  ∃ s42, World.cell? w40 (Addr.add a41 ((Int.toNat (IntKind.wrap .i64 ((IntKind.wrap .i64 ((((250 - 0) : Nat) : Int) - 1)) - t93_38))) * 1)) = some (Value.string s42) ∧
  Calls Try.prog 11 #[(Value.pointer p10), (Value.string s42), (Value.int .i64 (-2))] w40 fun e45 w46 =>
  ∃ n43, ∃ n44, e45 = Ending.returned (Value.tuple #[(Value.int .i64 n43), (Value.int .i64 n44)]) ∧
  I36 (IntKind.wrap .i64 (t93_38 + 1)) w46 ∧ μ37 (IntKind.wrap .i64 (t93_38 + 1)) w46 < μ37 t93_38 w40))
  (∃ I47 : Int → World → Prop, ∃ μ48 : Int → World → Nat, I47 0 w40 ∧
  ∀ t109_49 (j50 : Nat → Value) (w51 : World), I47 t109_49 w51 →
  (V.sel (decide (t109_49 < (((250 - 0) : Nat) : Int)))
  (V.when (decide ((0 : Int) ≤ t109_49 ∧ (t109_49 : Int) < (((250 - 0) : Nat) : Int))) (V.ptr (V.cut detour_2 detour_2c 0 1) fun a52 =>
  ∃ s53, World.cell? w51 (Addr.add a52 ((Int.toNat t109_49) * 1)) = some (Value.string s53) ∧
  Calls Try.prog 13 #[(Value.pointer p10), (Value.string s53)] w51 fun e56 w57 =>
  ∃ n54, ∃ n55, e56 = Ending.returned (Value.tuple #[(Value.int .i64 n54), (Value.int .i64 n55)]) ∧
  I47 (IntKind.wrap .i64 (t109_49 + 1)) w57 ∧ μ48 (IntKind.wrap .i64 (t109_49 + 1)) w57 < μ48 t109_49 w51))
  (∃ I58 : Int → World → Prop, ∃ μ59 : Int → World → Nat, I58 0 w51 ∧
  ∀ t119_60 (j61 : Nat → Value) (w62 : World), I58 t119_60 w62 →
  (V.sel (decide (t119_60 < (((250 - 0) : Nat) : Int)))
  (V.when (decide ((0 : Int) ≤ t119_60 ∧ (t119_60 : Int) < (((250 - 0) : Nat) : Int))) (V.ptr (V.cut names_1 names_1c 0 1) fun a63 =>
  ∃ s64, World.cell? w62 (Addr.add a63 ((Int.toNat t119_60) * 1)) = some (Value.string s64) ∧
  Calls Try.prog 15 #[(Value.pointer p6), (Value.string s64)] w62 fun e68 w69 =>
  ∃ n65, ∃ n66, ∃ b67, e68 = Ending.returned (Value.tuple #[(Value.int .i64 n65), (Value.int .i64 n66), (Value.bool b67)]) ∧
  V.sel (decide (((ByteArray.size s64 : Nat) : Int) ≥ 1))
  (V.sel (!(b67 == (decide (((ByteArray.size s64 : Nat) : Int) ≤ 63))))
  (R (Ending.returned (Value.bool false)) w69)
  (V.sel (!b67)
  (I58 (IntKind.wrap .i64 (t119_60 + 1)) w69 ∧ μ59 (IntKind.wrap .i64 (t119_60 + 1)) w69 < μ59 t119_60 w62)
  (V.sel (decide (n66 > t119_60))
  (R (Ending.returned (Value.bool false)) w69)
  (Calls Try.prog 15 #[(Value.pointer p10), (Value.string s64)] w69 fun e73 w74 =>
  ∃ n70, ∃ n71, ∃ b72, e73 = Ending.returned (Value.tuple #[(Value.int .i64 n70), (Value.int .i64 n71), (Value.bool b72)]) ∧
  V.sel (!b72)
  (Calls Try.prog 11 #[(Value.pointer p10), (Value.string s64), (Value.int .i64 (-3))] w74 fun e77 w78 =>
  ∃ n75, ∃ n76, e77 = Ending.returned (Value.tuple #[(Value.int .i64 n75), (Value.int .i64 n76)]) ∧
  Calls Try.prog 12 #[(Value.pointer p10), (Value.string s64), (Value.int .i64 n66)] w78 fun e80 w81 =>
  ∃ n79, e80 = Ending.returned (Value.int .i64 n79) ∧
  V.sel (n79 != 0)
  (R (Ending.returned (Value.bool false)) w81)
  (I58 (IntKind.wrap .i64 (t119_60 + 1)) w81 ∧ μ59 (IntKind.wrap .i64 (t119_60 + 1)) w81 < μ59 t119_60 w62))
  (Calls Try.prog 12 #[(Value.pointer p10), (Value.string s64), (Value.int .i64 n66)] w74 fun e83 w84 =>
  ∃ n82, e83 = Ending.returned (Value.int .i64 n82) ∧
  V.sel (n82 != 0)
  (R (Ending.returned (Value.bool false)) w84)
  (I58 (IntKind.wrap .i64 (t119_60 + 1)) w84 ∧ μ59 (IntKind.wrap .i64 (t119_60 + 1)) w84 < μ59 t119_60 w62))))))
  (V.sel (!(b67 == false))
  (R (Ending.returned (Value.bool false)) w69)
  (V.sel (!b67)
  (I58 (IntKind.wrap .i64 (t119_60 + 1)) w69 ∧ μ59 (IntKind.wrap .i64 (t119_60 + 1)) w69 < μ59 t119_60 w62)
  (V.sel (decide (n66 > t119_60))
  (R (Ending.returned (Value.bool false)) w69)
  (Calls Try.prog 15 #[(Value.pointer p10), (Value.string s64)] w69 fun e88 w89 =>
  ∃ n85, ∃ n86, ∃ b87, e88 = Ending.returned (Value.tuple #[(Value.int .i64 n85), (Value.int .i64 n86), (Value.bool b87)]) ∧
  V.sel (!b87)
  (Calls Try.prog 11 #[(Value.pointer p10), (Value.string s64), (Value.int .i64 (-3))] w89 fun e92 w93 =>
  ∃ n90, ∃ n91, e92 = Ending.returned (Value.tuple #[(Value.int .i64 n90), (Value.int .i64 n91)]) ∧
  Calls Try.prog 12 #[(Value.pointer p10), (Value.string s64), (Value.int .i64 n66)] w93 fun e95 w96 =>
  ∃ n94, e95 = Ending.returned (Value.int .i64 n94) ∧
  V.sel (n94 != 0)
  (R (Ending.returned (Value.bool false)) w96)
  (I58 (IntKind.wrap .i64 (t119_60 + 1)) w96 ∧ μ59 (IntKind.wrap .i64 (t119_60 + 1)) w96 < μ59 t119_60 w62))
  (Calls Try.prog 12 #[(Value.pointer p10), (Value.string s64), (Value.int .i64 n66)] w89 fun e98 w99 =>
  ∃ n97, e98 = Ending.returned (Value.int .i64 n97) ∧
  V.sel (n97 != 0)
  (R (Ending.returned (Value.bool false)) w99)
  (I58 (IntKind.wrap .i64 (t119_60 + 1)) w99 ∧ μ59 (IntKind.wrap .i64 (t119_60 + 1)) w99 < μ59 t119_60 w62))))))))
  (Calls Try.prog 17 #[(Value.pointer p6)] w62 fun e101 w102 =>
  ∃ A100, ∃ A100l, ∃ A100c, e101 = Ending.returned (Value.slice A100 A100l A100c) ∧
  Calls Try.prog 17 #[(Value.pointer p10)] w102 fun e104 w105 =>
  ∃ A103, ∃ A103l, ∃ A103c, e104 = Ending.returned (Value.slice A103 A103l A103c) ∧
  Calls Try.prog 16 #[(Value.slice A100 A100l A100c), (Value.slice A103 A103l A103c)] w105 fun e107 w108 =>
  ∃ b106, e107 = Ending.returned (Value.bool b106) ∧
  V.sel (!b106)
  (R (Ending.returned (Value.bool false)) w108)
  (Calls Try.prog 14 #[(Value.pointer p6)] w108 fun e110 w111 =>
  ∃ n109, e110 = Ending.returned (Value.int .i64 n109) ∧
  Calls Try.prog 14 #[(Value.pointer p10)] w111 fun e113 w114 =>
  ∃ n112, e113 = Ending.returned (Value.int .i64 n112) ∧
  V.sel (n109 != n112)
  (R (Ending.returned (Value.bool false)) w114)
  (Calls Try.prog 17 #[(Value.pointer p6)] w114 fun e116 w117 =>
  ∃ A115, ∃ A115l, ∃ A115c, e116 = Ending.returned (Value.slice A115 A115l A115c) ∧
  ∃ I118 : Int → World → Prop, ∃ μ119 : Int → World → Nat, I118 0 w117 ∧
  ∀ t180_120 (j121 : Nat → Value) (w122 : World), I118 t180_120 w122 →
  (V.sel (decide (t180_120 < ((A115l : Nat) : Int)))
  (V.when (decide ((0 : Int) ≤ t180_120 ∧ (t180_120 : Int) < ((A115l : Nat) : Int))) (V.ptr A115 fun a123 =>
  ∃ s124, World.cell? w122 (Addr.add a123 ((Int.toNat t180_120) * 1)) = some (Value.string s124) ∧
  Calls Try.prog 15 #[(Value.pointer p6), (Value.string s124)] w122 fun e128 w129 =>
  ∃ n125, ∃ n126, ∃ b127, e128 = Ending.returned (Value.tuple #[(Value.int .i64 n125), (Value.int .i64 n126), (Value.bool b127)]) ∧
  Calls Try.prog 15 #[(Value.pointer p10), (Value.string s124)] w129 fun e133 w134 =>
  ∃ n130, ∃ n131, ∃ b132, e133 = Ending.returned (Value.tuple #[(Value.int .i64 n130), (Value.int .i64 n131), (Value.bool b132)]) ∧
  Calls Try.prog 18 #[(Value.pointer p10), (Value.int .i64 n130)] w134 fun e138 w139 =>
  ∃ s135, ∃ n136, ∃ b137, e138 = Ending.returned (Value.tuple #[(Value.string s135), (Value.int .i64 n136), (Value.bool b137)]) ∧
  V.sel (!b127)
  (R (Ending.returned (Value.bool false)) w139)
  (V.sel (!b132)
  (R (Ending.returned (Value.bool false)) w139)
  (V.sel (!b137)
  (R (Ending.returned (Value.bool false)) w139)
  (V.sel (n126 != n131)
  (R (Ending.returned (Value.bool false)) w139)
  (V.sel (!(ByteArray.toList s135 == ByteArray.toList s124))
  (R (Ending.returned (Value.bool false)) w139)
  (V.sel (n136 != n126)
  (R (Ending.returned (Value.bool false)) w139)
  (I118 (IntKind.wrap .i64 (t180_120 + 1)) w139 ∧ μ119 (IntKind.wrap .i64 (t180_120 + 1)) w139 < μ119 t180_120 w122))))))))
  (R (Ending.returned (Value.bool true)) w122))))))))))))))))
  (∃ I140 : Int → World → Prop, ∃ μ141 : Int → World → Nat, I140 0 w13 ∧
  ∀ t71_142 (j143 : Nat → Value) (w144 : World), I140 t71_142 w144 →
  (V.sel (decide (t71_142 < (((250 - 0) : Nat) : Int)))
  (V.when (decide ((0 : Int) ≤ t71_142 ∧ (t71_142 : Int) < (((250 - 0) : Nat) : Int))) (V.ptr (V.cut names_1 names_1c 0 1) fun a145 =>
  ∃ s146, World.cell? w144 (Addr.add a145 ((Int.toNat t71_142) * 1)) = some (Value.string s146) ∧
  Calls Try.prog 11 #[(Value.pointer p6), (Value.string s146), (Value.int .i64 t71_142)] w144 fun e149 w150 =>
  ∃ n147, ∃ n148, e149 = Ending.returned (Value.tuple #[(Value.int .i64 n147), (Value.int .i64 n148)]) ∧
  I140 (IntKind.wrap .i64 (t71_142 + 1)) w150 ∧ μ141 (IntKind.wrap .i64 (t71_142 + 1)) w150 < μ141 t71_142 w144))
  (∃ I151 : Int → World → Prop, ∃ μ152 : Int → World → Nat, I151 0 w144 ∧
  ∀ t83_153 (j154 : Nat → Value) (w155 : World), I151 t83_153 w155 →
  (V.sel (decide (t83_153 < ((detour_2l : Nat) : Int)))
  (V.when (decide ((0 : Int) ≤ t83_153 ∧ (t83_153 : Int) < ((detour_2l : Nat) : Int))) (V.ptr detour_2 fun a156 =>
  ∃ s157, World.cell? w155 (Addr.add a156 ((Int.toNat t83_153) * 1)) = some (Value.string s157) ∧
  Calls Try.prog 11 #[(Value.pointer p10), (Value.string s157), (Value.int .i64 (-1))] w155 fun e160 w161 =>
  ∃ n158, ∃ n159, e160 = Ending.returned (Value.tuple #[(Value.int .i64 n158), (Value.int .i64 n159)]) ∧
  I151 (IntKind.wrap .i64 (t83_153 + 1)) w161 ∧ μ152 (IntKind.wrap .i64 (t83_153 + 1)) w161 < μ152 t83_153 w155))
  (∃ I162 : Int → World → Prop, ∃ μ163 : Int → World → Nat, I162 0 w155 ∧
  ∀ t93_164 (j165 : Nat → Value) (w166 : World), I162 t93_164 w166 →
  (V.sel (decide (t93_164 < (((250 - 0) : Nat) : Int)))
  (V.when (decide ((0 : Int) ≤ (IntKind.wrap .i64 ((IntKind.wrap .i64 ((((250 - 0) : Nat) : Int) - 1)) - t93_164)) ∧ ((IntKind.wrap .i64 ((IntKind.wrap .i64 ((((250 - 0) : Nat) : Int) - 1)) - t93_164)) : Int) < (((250 - 0) : Nat) : Int))) (V.ptr (V.cut names_1 names_1c 0 1) fun a167 =>
  ∃ s168, World.cell? w166 (Addr.add a167 ((Int.toNat (IntKind.wrap .i64 ((IntKind.wrap .i64 ((((250 - 0) : Nat) : Int) - 1)) - t93_164))) * 1)) = some (Value.string s168) ∧
  Calls Try.prog 11 #[(Value.pointer p10), (Value.string s168), (Value.int .i64 (-2))] w166 fun e171 w172 =>
  ∃ n169, ∃ n170, e171 = Ending.returned (Value.tuple #[(Value.int .i64 n169), (Value.int .i64 n170)]) ∧
  I162 (IntKind.wrap .i64 (t93_164 + 1)) w172 ∧ μ163 (IntKind.wrap .i64 (t93_164 + 1)) w172 < μ163 t93_164 w166))
  (∃ I173 : Int → World → Prop, ∃ μ174 : Int → World → Nat, I173 0 w166 ∧
  ∀ t109_175 (j176 : Nat → Value) (w177 : World), I173 t109_175 w177 →
  (V.sel (decide (t109_175 < ((detour_2l : Nat) : Int)))
  (V.when (decide ((0 : Int) ≤ t109_175 ∧ (t109_175 : Int) < ((detour_2l : Nat) : Int))) (V.ptr detour_2 fun a178 =>
  ∃ s179, World.cell? w177 (Addr.add a178 ((Int.toNat t109_175) * 1)) = some (Value.string s179) ∧
  Calls Try.prog 13 #[(Value.pointer p10), (Value.string s179)] w177 fun e182 w183 =>
  ∃ n180, ∃ n181, e182 = Ending.returned (Value.tuple #[(Value.int .i64 n180), (Value.int .i64 n181)]) ∧
  I173 (IntKind.wrap .i64 (t109_175 + 1)) w183 ∧ μ174 (IntKind.wrap .i64 (t109_175 + 1)) w183 < μ174 t109_175 w177))
  (∃ I184 : Int → World → Prop, ∃ μ185 : Int → World → Nat, I184 0 w177 ∧
  ∀ t119_186 (j187 : Nat → Value) (w188 : World), I184 t119_186 w188 →
  (V.sel (decide (t119_186 < (((250 - 0) : Nat) : Int)))
  (V.when (decide ((0 : Int) ≤ t119_186 ∧ (t119_186 : Int) < (((250 - 0) : Nat) : Int))) (V.ptr (V.cut names_1 names_1c 0 1) fun a189 =>
  ∃ s190, World.cell? w188 (Addr.add a189 ((Int.toNat t119_186) * 1)) = some (Value.string s190) ∧
  Calls Try.prog 15 #[(Value.pointer p6), (Value.string s190)] w188 fun e194 w195 =>
  ∃ n191, ∃ n192, ∃ b193, e194 = Ending.returned (Value.tuple #[(Value.int .i64 n191), (Value.int .i64 n192), (Value.bool b193)]) ∧
  V.sel (decide (((ByteArray.size s190 : Nat) : Int) ≥ 1))
  (V.sel (!(b193 == (decide (((ByteArray.size s190 : Nat) : Int) ≤ 63))))
  (R (Ending.returned (Value.bool false)) w195)
  (V.sel (!b193)
  (I184 (IntKind.wrap .i64 (t119_186 + 1)) w195 ∧ μ185 (IntKind.wrap .i64 (t119_186 + 1)) w195 < μ185 t119_186 w188)
  (V.sel (decide (n192 > t119_186))
  (R (Ending.returned (Value.bool false)) w195)
  (Calls Try.prog 15 #[(Value.pointer p10), (Value.string s190)] w195 fun e199 w200 =>
  ∃ n196, ∃ n197, ∃ b198, e199 = Ending.returned (Value.tuple #[(Value.int .i64 n196), (Value.int .i64 n197), (Value.bool b198)]) ∧
  V.sel (!b198)
  (Calls Try.prog 11 #[(Value.pointer p10), (Value.string s190), (Value.int .i64 (-3))] w200 fun e203 w204 =>
  ∃ n201, ∃ n202, e203 = Ending.returned (Value.tuple #[(Value.int .i64 n201), (Value.int .i64 n202)]) ∧
  Calls Try.prog 12 #[(Value.pointer p10), (Value.string s190), (Value.int .i64 n192)] w204 fun e206 w207 =>
  ∃ n205, e206 = Ending.returned (Value.int .i64 n205) ∧
  V.sel (n205 != 0)
  (R (Ending.returned (Value.bool false)) w207)
  (I184 (IntKind.wrap .i64 (t119_186 + 1)) w207 ∧ μ185 (IntKind.wrap .i64 (t119_186 + 1)) w207 < μ185 t119_186 w188))
  (Calls Try.prog 12 #[(Value.pointer p10), (Value.string s190), (Value.int .i64 n192)] w200 fun e209 w210 =>
  ∃ n208, e209 = Ending.returned (Value.int .i64 n208) ∧
  V.sel (n208 != 0)
  (R (Ending.returned (Value.bool false)) w210)
  (I184 (IntKind.wrap .i64 (t119_186 + 1)) w210 ∧ μ185 (IntKind.wrap .i64 (t119_186 + 1)) w210 < μ185 t119_186 w188))))))
  (V.sel (!(b193 == false))
  (R (Ending.returned (Value.bool false)) w195)
  (V.sel (!b193)
  (I184 (IntKind.wrap .i64 (t119_186 + 1)) w195 ∧ μ185 (IntKind.wrap .i64 (t119_186 + 1)) w195 < μ185 t119_186 w188)
  (V.sel (decide (n192 > t119_186))
  (R (Ending.returned (Value.bool false)) w195)
  (Calls Try.prog 15 #[(Value.pointer p10), (Value.string s190)] w195 fun e214 w215 =>
  ∃ n211, ∃ n212, ∃ b213, e214 = Ending.returned (Value.tuple #[(Value.int .i64 n211), (Value.int .i64 n212), (Value.bool b213)]) ∧
  V.sel (!b213)
  (Calls Try.prog 11 #[(Value.pointer p10), (Value.string s190), (Value.int .i64 (-3))] w215 fun e218 w219 =>
  ∃ n216, ∃ n217, e218 = Ending.returned (Value.tuple #[(Value.int .i64 n216), (Value.int .i64 n217)]) ∧
  Calls Try.prog 12 #[(Value.pointer p10), (Value.string s190), (Value.int .i64 n192)] w219 fun e221 w222 =>
  ∃ n220, e221 = Ending.returned (Value.int .i64 n220) ∧
  V.sel (n220 != 0)
  (R (Ending.returned (Value.bool false)) w222)
  (I184 (IntKind.wrap .i64 (t119_186 + 1)) w222 ∧ μ185 (IntKind.wrap .i64 (t119_186 + 1)) w222 < μ185 t119_186 w188))
  (Calls Try.prog 12 #[(Value.pointer p10), (Value.string s190), (Value.int .i64 n192)] w215 fun e224 w225 =>
  ∃ n223, e224 = Ending.returned (Value.int .i64 n223) ∧
  V.sel (n223 != 0)
  (R (Ending.returned (Value.bool false)) w225)
  (I184 (IntKind.wrap .i64 (t119_186 + 1)) w225 ∧ μ185 (IntKind.wrap .i64 (t119_186 + 1)) w225 < μ185 t119_186 w188))))))))
  (Calls Try.prog 17 #[(Value.pointer p6)] w188 fun e227 w228 =>
  ∃ A226, ∃ A226l, ∃ A226c, e227 = Ending.returned (Value.slice A226 A226l A226c) ∧
  Calls Try.prog 17 #[(Value.pointer p10)] w228 fun e230 w231 =>
  ∃ A229, ∃ A229l, ∃ A229c, e230 = Ending.returned (Value.slice A229 A229l A229c) ∧
  Calls Try.prog 16 #[(Value.slice A226 A226l A226c), (Value.slice A229 A229l A229c)] w231 fun e233 w234 =>
  ∃ b232, e233 = Ending.returned (Value.bool b232) ∧
  V.sel (!b232)
  (R (Ending.returned (Value.bool false)) w234)
  (Calls Try.prog 14 #[(Value.pointer p6)] w234 fun e236 w237 =>
  ∃ n235, e236 = Ending.returned (Value.int .i64 n235) ∧
  Calls Try.prog 14 #[(Value.pointer p10)] w237 fun e239 w240 =>
  ∃ n238, e239 = Ending.returned (Value.int .i64 n238) ∧
  V.sel (n235 != n238)
  (R (Ending.returned (Value.bool false)) w240)
  (Calls Try.prog 17 #[(Value.pointer p6)] w240 fun e242 w243 =>
  ∃ A241, ∃ A241l, ∃ A241c, e242 = Ending.returned (Value.slice A241 A241l A241c) ∧
  ∃ I244 : Int → World → Prop, ∃ μ245 : Int → World → Nat, I244 0 w243 ∧
  ∀ t180_246 (j247 : Nat → Value) (w248 : World), I244 t180_246 w248 →
  (V.sel (decide (t180_246 < ((A241l : Nat) : Int)))
  (V.when (decide ((0 : Int) ≤ t180_246 ∧ (t180_246 : Int) < ((A241l : Nat) : Int))) (V.ptr A241 fun a249 =>
  ∃ s250, World.cell? w248 (Addr.add a249 ((Int.toNat t180_246) * 1)) = some (Value.string s250) ∧
  Calls Try.prog 15 #[(Value.pointer p6), (Value.string s250)] w248 fun e254 w255 =>
  ∃ n251, ∃ n252, ∃ b253, e254 = Ending.returned (Value.tuple #[(Value.int .i64 n251), (Value.int .i64 n252), (Value.bool b253)]) ∧
  Calls Try.prog 15 #[(Value.pointer p10), (Value.string s250)] w255 fun e259 w260 =>
  ∃ n256, ∃ n257, ∃ b258, e259 = Ending.returned (Value.tuple #[(Value.int .i64 n256), (Value.int .i64 n257), (Value.bool b258)]) ∧
  Calls Try.prog 18 #[(Value.pointer p10), (Value.int .i64 n256)] w260 fun e264 w265 =>
  ∃ s261, ∃ n262, ∃ b263, e264 = Ending.returned (Value.tuple #[(Value.string s261), (Value.int .i64 n262), (Value.bool b263)]) ∧
  V.sel (!b253)
  (R (Ending.returned (Value.bool false)) w265)
  (V.sel (!b258)
  (R (Ending.returned (Value.bool false)) w265)
  (V.sel (!b263)
  (R (Ending.returned (Value.bool false)) w265)
  (V.sel (n252 != n257)
  (R (Ending.returned (Value.bool false)) w265)
  (V.sel (!(ByteArray.toList s261 == ByteArray.toList s250))
  (R (Ending.returned (Value.bool false)) w265)
  (V.sel (n262 != n252)
  (R (Ending.returned (Value.bool false)) w265)
  (I244 (IntKind.wrap .i64 (t180_246 + 1)) w265 ∧ μ245 (IntKind.wrap .i64 (t180_246 + 1)) w265 < μ245 t180_246 w248))))))))
  (R (Ending.returned (Value.bool true)) w248)))))))))))))))))
  (V.sel (decide (((detour_2l : Nat) : Int) > 250))
  (V.when (decide ((0 : Int) ≤ 250 ∧ (250 : Int) ≤ ((detour_2c : Nat) : Int))) (∃ I266 : Int → World → Prop, ∃ μ267 : Int → World → Nat, I266 0 w13 ∧
  ∀ t71_268 (j269 : Nat → Value) (w270 : World), I266 t71_268 w270 →
  (V.sel (decide (t71_268 < ((names_1l : Nat) : Int)))
  (V.when (decide ((0 : Int) ≤ t71_268 ∧ (t71_268 : Int) < ((names_1l : Nat) : Int))) (V.ptr names_1 fun a271 =>
  ∃ s272, World.cell? w270 (Addr.add a271 ((Int.toNat t71_268) * 1)) = some (Value.string s272) ∧
  Calls Try.prog 11 #[(Value.pointer p6), (Value.string s272), (Value.int .i64 t71_268)] w270 fun e275 w276 =>
  ∃ n273, ∃ n274, e275 = Ending.returned (Value.tuple #[(Value.int .i64 n273), (Value.int .i64 n274)]) ∧
  I266 (IntKind.wrap .i64 (t71_268 + 1)) w276 ∧ μ267 (IntKind.wrap .i64 (t71_268 + 1)) w276 < μ267 t71_268 w270))
  (∃ I277 : Int → World → Prop, ∃ μ278 : Int → World → Nat, I277 0 w270 ∧
  ∀ t83_279 (j280 : Nat → Value) (w281 : World), I277 t83_279 w281 →
  (V.sel (decide (t83_279 < (((250 - 0) : Nat) : Int)))
  (V.when (decide ((0 : Int) ≤ t83_279 ∧ (t83_279 : Int) < (((250 - 0) : Nat) : Int))) (V.ptr (V.cut detour_2 detour_2c 0 1) fun a282 =>
  ∃ s283, World.cell? w281 (Addr.add a282 ((Int.toNat t83_279) * 1)) = some (Value.string s283) ∧
  Calls Try.prog 11 #[(Value.pointer p10), (Value.string s283), (Value.int .i64 (-1))] w281 fun e286 w287 =>
  ∃ n284, ∃ n285, e286 = Ending.returned (Value.tuple #[(Value.int .i64 n284), (Value.int .i64 n285)]) ∧
  I277 (IntKind.wrap .i64 (t83_279 + 1)) w287 ∧ μ278 (IntKind.wrap .i64 (t83_279 + 1)) w287 < μ278 t83_279 w281))
  (∃ I288 : Int → World → Prop, ∃ μ289 : Int → World → Nat, I288 0 w281 ∧
  ∀ t93_290 (j291 : Nat → Value) (w292 : World), I288 t93_290 w292 →
  (V.sel (decide (t93_290 < ((names_1l : Nat) : Int)))
  (V.when (decide ((0 : Int) ≤ (IntKind.wrap .i64 ((IntKind.wrap .i64 (((names_1l : Nat) : Int) - 1)) - t93_290)) ∧ ((IntKind.wrap .i64 ((IntKind.wrap .i64 (((names_1l : Nat) : Int) - 1)) - t93_290)) : Int) < ((names_1l : Nat) : Int))) (V.ptr names_1 fun a293 =>
  ∃ s294, World.cell? w292 (Addr.add a293 ((Int.toNat (IntKind.wrap .i64 ((IntKind.wrap .i64 (((names_1l : Nat) : Int) - 1)) - t93_290))) * 1)) = some (Value.string s294) ∧
  Calls Try.prog 11 #[(Value.pointer p10), (Value.string s294), (Value.int .i64 (-2))] w292 fun e297 w298 =>
  ∃ n295, ∃ n296, e297 = Ending.returned (Value.tuple #[(Value.int .i64 n295), (Value.int .i64 n296)]) ∧
  I288 (IntKind.wrap .i64 (t93_290 + 1)) w298 ∧ μ289 (IntKind.wrap .i64 (t93_290 + 1)) w298 < μ289 t93_290 w292))
  (∃ I299 : Int → World → Prop, ∃ μ300 : Int → World → Nat, I299 0 w292 ∧
  ∀ t109_301 (j302 : Nat → Value) (w303 : World), I299 t109_301 w303 →
  (V.sel (decide (t109_301 < (((250 - 0) : Nat) : Int)))
  (V.when (decide ((0 : Int) ≤ t109_301 ∧ (t109_301 : Int) < (((250 - 0) : Nat) : Int))) (V.ptr (V.cut detour_2 detour_2c 0 1) fun a304 =>
  ∃ s305, World.cell? w303 (Addr.add a304 ((Int.toNat t109_301) * 1)) = some (Value.string s305) ∧
  Calls Try.prog 13 #[(Value.pointer p10), (Value.string s305)] w303 fun e308 w309 =>
  ∃ n306, ∃ n307, e308 = Ending.returned (Value.tuple #[(Value.int .i64 n306), (Value.int .i64 n307)]) ∧
  I299 (IntKind.wrap .i64 (t109_301 + 1)) w309 ∧ μ300 (IntKind.wrap .i64 (t109_301 + 1)) w309 < μ300 t109_301 w303))
  (∃ I310 : Int → World → Prop, ∃ μ311 : Int → World → Nat, I310 0 w303 ∧
  ∀ t119_312 (j313 : Nat → Value) (w314 : World), I310 t119_312 w314 →
  (V.sel (decide (t119_312 < ((names_1l : Nat) : Int)))
  (V.when (decide ((0 : Int) ≤ t119_312 ∧ (t119_312 : Int) < ((names_1l : Nat) : Int))) (V.ptr names_1 fun a315 =>
  ∃ s316, World.cell? w314 (Addr.add a315 ((Int.toNat t119_312) * 1)) = some (Value.string s316) ∧
  Calls Try.prog 15 #[(Value.pointer p6), (Value.string s316)] w314 fun e320 w321 =>
  ∃ n317, ∃ n318, ∃ b319, e320 = Ending.returned (Value.tuple #[(Value.int .i64 n317), (Value.int .i64 n318), (Value.bool b319)]) ∧
  V.sel (decide (((ByteArray.size s316 : Nat) : Int) ≥ 1))
  (V.sel (!(b319 == (decide (((ByteArray.size s316 : Nat) : Int) ≤ 63))))
  (R (Ending.returned (Value.bool false)) w321)
  (V.sel (!b319)
  (I310 (IntKind.wrap .i64 (t119_312 + 1)) w321 ∧ μ311 (IntKind.wrap .i64 (t119_312 + 1)) w321 < μ311 t119_312 w314)
  (V.sel (decide (n318 > t119_312))
  (R (Ending.returned (Value.bool false)) w321)
  (Calls Try.prog 15 #[(Value.pointer p10), (Value.string s316)] w321 fun e325 w326 =>
  ∃ n322, ∃ n323, ∃ b324, e325 = Ending.returned (Value.tuple #[(Value.int .i64 n322), (Value.int .i64 n323), (Value.bool b324)]) ∧
  V.sel (!b324)
  (Calls Try.prog 11 #[(Value.pointer p10), (Value.string s316), (Value.int .i64 (-3))] w326 fun e329 w330 =>
  ∃ n327, ∃ n328, e329 = Ending.returned (Value.tuple #[(Value.int .i64 n327), (Value.int .i64 n328)]) ∧
  Calls Try.prog 12 #[(Value.pointer p10), (Value.string s316), (Value.int .i64 n318)] w330 fun e332 w333 =>
  ∃ n331, e332 = Ending.returned (Value.int .i64 n331) ∧
  V.sel (n331 != 0)
  (R (Ending.returned (Value.bool false)) w333)
  (I310 (IntKind.wrap .i64 (t119_312 + 1)) w333 ∧ μ311 (IntKind.wrap .i64 (t119_312 + 1)) w333 < μ311 t119_312 w314))
  (Calls Try.prog 12 #[(Value.pointer p10), (Value.string s316), (Value.int .i64 n318)] w326 fun e335 w336 =>
  ∃ n334, e335 = Ending.returned (Value.int .i64 n334) ∧
  V.sel (n334 != 0)
  (R (Ending.returned (Value.bool false)) w336)
  (I310 (IntKind.wrap .i64 (t119_312 + 1)) w336 ∧ μ311 (IntKind.wrap .i64 (t119_312 + 1)) w336 < μ311 t119_312 w314))))))
  (V.sel (!(b319 == false))
  (R (Ending.returned (Value.bool false)) w321)
  (V.sel (!b319)
  (I310 (IntKind.wrap .i64 (t119_312 + 1)) w321 ∧ μ311 (IntKind.wrap .i64 (t119_312 + 1)) w321 < μ311 t119_312 w314)
  (V.sel (decide (n318 > t119_312))
  (R (Ending.returned (Value.bool false)) w321)
  (Calls Try.prog 15 #[(Value.pointer p10), (Value.string s316)] w321 fun e340 w341 =>
  ∃ n337, ∃ n338, ∃ b339, e340 = Ending.returned (Value.tuple #[(Value.int .i64 n337), (Value.int .i64 n338), (Value.bool b339)]) ∧
  V.sel (!b339)
  (Calls Try.prog 11 #[(Value.pointer p10), (Value.string s316), (Value.int .i64 (-3))] w341 fun e344 w345 =>
  ∃ n342, ∃ n343, e344 = Ending.returned (Value.tuple #[(Value.int .i64 n342), (Value.int .i64 n343)]) ∧
  Calls Try.prog 12 #[(Value.pointer p10), (Value.string s316), (Value.int .i64 n318)] w345 fun e347 w348 =>
  ∃ n346, e347 = Ending.returned (Value.int .i64 n346) ∧
  V.sel (n346 != 0)
  (R (Ending.returned (Value.bool false)) w348)
  (I310 (IntKind.wrap .i64 (t119_312 + 1)) w348 ∧ μ311 (IntKind.wrap .i64 (t119_312 + 1)) w348 < μ311 t119_312 w314))
  (Calls Try.prog 12 #[(Value.pointer p10), (Value.string s316), (Value.int .i64 n318)] w341 fun e350 w351 =>
  ∃ n349, e350 = Ending.returned (Value.int .i64 n349) ∧
  V.sel (n349 != 0)
  (R (Ending.returned (Value.bool false)) w351)
  (I310 (IntKind.wrap .i64 (t119_312 + 1)) w351 ∧ μ311 (IntKind.wrap .i64 (t119_312 + 1)) w351 < μ311 t119_312 w314))))))))
  (Calls Try.prog 17 #[(Value.pointer p6)] w314 fun e353 w354 =>
  ∃ A352, ∃ A352l, ∃ A352c, e353 = Ending.returned (Value.slice A352 A352l A352c) ∧
  Calls Try.prog 17 #[(Value.pointer p10)] w354 fun e356 w357 =>
  ∃ A355, ∃ A355l, ∃ A355c, e356 = Ending.returned (Value.slice A355 A355l A355c) ∧
  Calls Try.prog 16 #[(Value.slice A352 A352l A352c), (Value.slice A355 A355l A355c)] w357 fun e359 w360 =>
  ∃ b358, e359 = Ending.returned (Value.bool b358) ∧
  V.sel (!b358)
  (R (Ending.returned (Value.bool false)) w360)
  (Calls Try.prog 14 #[(Value.pointer p6)] w360 fun e362 w363 =>
  ∃ n361, e362 = Ending.returned (Value.int .i64 n361) ∧
  Calls Try.prog 14 #[(Value.pointer p10)] w363 fun e365 w366 =>
  ∃ n364, e365 = Ending.returned (Value.int .i64 n364) ∧
  V.sel (n361 != n364)
  (R (Ending.returned (Value.bool false)) w366)
  (Calls Try.prog 17 #[(Value.pointer p6)] w366 fun e368 w369 =>
  ∃ A367, ∃ A367l, ∃ A367c, e368 = Ending.returned (Value.slice A367 A367l A367c) ∧
  ∃ I370 : Int → World → Prop, ∃ μ371 : Int → World → Nat, I370 0 w369 ∧
  ∀ t180_372 (j373 : Nat → Value) (w374 : World), I370 t180_372 w374 →
  (V.sel (decide (t180_372 < ((A367l : Nat) : Int)))
  (V.when (decide ((0 : Int) ≤ t180_372 ∧ (t180_372 : Int) < ((A367l : Nat) : Int))) (V.ptr A367 fun a375 =>
  ∃ s376, World.cell? w374 (Addr.add a375 ((Int.toNat t180_372) * 1)) = some (Value.string s376) ∧
  Calls Try.prog 15 #[(Value.pointer p6), (Value.string s376)] w374 fun e380 w381 =>
  ∃ n377, ∃ n378, ∃ b379, e380 = Ending.returned (Value.tuple #[(Value.int .i64 n377), (Value.int .i64 n378), (Value.bool b379)]) ∧
  Calls Try.prog 15 #[(Value.pointer p10), (Value.string s376)] w381 fun e385 w386 =>
  ∃ n382, ∃ n383, ∃ b384, e385 = Ending.returned (Value.tuple #[(Value.int .i64 n382), (Value.int .i64 n383), (Value.bool b384)]) ∧
  Calls Try.prog 18 #[(Value.pointer p10), (Value.int .i64 n382)] w386 fun e390 w391 =>
  ∃ s387, ∃ n388, ∃ b389, e390 = Ending.returned (Value.tuple #[(Value.string s387), (Value.int .i64 n388), (Value.bool b389)]) ∧
  V.sel (!b379)
  (R (Ending.returned (Value.bool false)) w391)
  (V.sel (!b384)
  (R (Ending.returned (Value.bool false)) w391)
  (V.sel (!b389)
  (R (Ending.returned (Value.bool false)) w391)
  (V.sel (n378 != n383)
  (R (Ending.returned (Value.bool false)) w391)
  (V.sel (!(ByteArray.toList s387 == ByteArray.toList s376))
  (R (Ending.returned (Value.bool false)) w391)
  (V.sel (n388 != n378)
  (R (Ending.returned (Value.bool false)) w391)
  (I370 (IntKind.wrap .i64 (t180_372 + 1)) w391 ∧ μ371 (IntKind.wrap .i64 (t180_372 + 1)) w391 < μ371 t180_372 w374))))))))
  (R (Ending.returned (Value.bool true)) w374))))))))))))))))
  (∃ I392 : Int → World → Prop, ∃ μ393 : Int → World → Nat, I392 0 w13 ∧
  ∀ t71_394 (j395 : Nat → Value) (w396 : World), I392 t71_394 w396 →
  (V.sel (decide (t71_394 < ((names_1l : Nat) : Int)))
  (V.when (decide ((0 : Int) ≤ t71_394 ∧ (t71_394 : Int) < ((names_1l : Nat) : Int))) (V.ptr names_1 fun a397 =>
  ∃ s398, World.cell? w396 (Addr.add a397 ((Int.toNat t71_394) * 1)) = some (Value.string s398) ∧
  Calls Try.prog 11 #[(Value.pointer p6), (Value.string s398), (Value.int .i64 t71_394)] w396 fun e401 w402 =>
  ∃ n399, ∃ n400, e401 = Ending.returned (Value.tuple #[(Value.int .i64 n399), (Value.int .i64 n400)]) ∧
  I392 (IntKind.wrap .i64 (t71_394 + 1)) w402 ∧ μ393 (IntKind.wrap .i64 (t71_394 + 1)) w402 < μ393 t71_394 w396))
  (∃ I403 : Int → World → Prop, ∃ μ404 : Int → World → Nat, I403 0 w396 ∧
  ∀ t83_405 (j406 : Nat → Value) (w407 : World), I403 t83_405 w407 →
  (V.sel (decide (t83_405 < ((detour_2l : Nat) : Int)))
  (V.when (decide ((0 : Int) ≤ t83_405 ∧ (t83_405 : Int) < ((detour_2l : Nat) : Int))) (V.ptr detour_2 fun a408 =>
  ∃ s409, World.cell? w407 (Addr.add a408 ((Int.toNat t83_405) * 1)) = some (Value.string s409) ∧
  Calls Try.prog 11 #[(Value.pointer p10), (Value.string s409), (Value.int .i64 (-1))] w407 fun e412 w413 =>
  ∃ n410, ∃ n411, e412 = Ending.returned (Value.tuple #[(Value.int .i64 n410), (Value.int .i64 n411)]) ∧
  I403 (IntKind.wrap .i64 (t83_405 + 1)) w413 ∧ μ404 (IntKind.wrap .i64 (t83_405 + 1)) w413 < μ404 t83_405 w407))
  (∃ I414 : Int → World → Prop, ∃ μ415 : Int → World → Nat, I414 0 w407 ∧
  ∀ t93_416 (j417 : Nat → Value) (w418 : World), I414 t93_416 w418 →
  (V.sel (decide (t93_416 < ((names_1l : Nat) : Int)))
  (V.when (decide ((0 : Int) ≤ (IntKind.wrap .i64 ((IntKind.wrap .i64 (((names_1l : Nat) : Int) - 1)) - t93_416)) ∧ ((IntKind.wrap .i64 ((IntKind.wrap .i64 (((names_1l : Nat) : Int) - 1)) - t93_416)) : Int) < ((names_1l : Nat) : Int))) (V.ptr names_1 fun a419 =>
  ∃ s420, World.cell? w418 (Addr.add a419 ((Int.toNat (IntKind.wrap .i64 ((IntKind.wrap .i64 (((names_1l : Nat) : Int) - 1)) - t93_416))) * 1)) = some (Value.string s420) ∧
  Calls Try.prog 11 #[(Value.pointer p10), (Value.string s420), (Value.int .i64 (-2))] w418 fun e423 w424 =>
  ∃ n421, ∃ n422, e423 = Ending.returned (Value.tuple #[(Value.int .i64 n421), (Value.int .i64 n422)]) ∧
  I414 (IntKind.wrap .i64 (t93_416 + 1)) w424 ∧ μ415 (IntKind.wrap .i64 (t93_416 + 1)) w424 < μ415 t93_416 w418))
  (∃ I425 : Int → World → Prop, ∃ μ426 : Int → World → Nat, I425 0 w418 ∧
  ∀ t109_427 (j428 : Nat → Value) (w429 : World), I425 t109_427 w429 →
  (V.sel (decide (t109_427 < ((detour_2l : Nat) : Int)))
  (V.when (decide ((0 : Int) ≤ t109_427 ∧ (t109_427 : Int) < ((detour_2l : Nat) : Int))) (V.ptr detour_2 fun a430 =>
  ∃ s431, World.cell? w429 (Addr.add a430 ((Int.toNat t109_427) * 1)) = some (Value.string s431) ∧
  Calls Try.prog 13 #[(Value.pointer p10), (Value.string s431)] w429 fun e434 w435 =>
  ∃ n432, ∃ n433, e434 = Ending.returned (Value.tuple #[(Value.int .i64 n432), (Value.int .i64 n433)]) ∧
  I425 (IntKind.wrap .i64 (t109_427 + 1)) w435 ∧ μ426 (IntKind.wrap .i64 (t109_427 + 1)) w435 < μ426 t109_427 w429))
  (∃ I436 : Int → World → Prop, ∃ μ437 : Int → World → Nat, I436 0 w429 ∧
  ∀ t119_438 (j439 : Nat → Value) (w440 : World), I436 t119_438 w440 →
  (V.sel (decide (t119_438 < ((names_1l : Nat) : Int)))
  (V.when (decide ((0 : Int) ≤ t119_438 ∧ (t119_438 : Int) < ((names_1l : Nat) : Int))) (V.ptr names_1 fun a441 =>
  ∃ s442, World.cell? w440 (Addr.add a441 ((Int.toNat t119_438) * 1)) = some (Value.string s442) ∧
  Calls Try.prog 15 #[(Value.pointer p6), (Value.string s442)] w440 fun e446 w447 =>
  ∃ n443, ∃ n444, ∃ b445, e446 = Ending.returned (Value.tuple #[(Value.int .i64 n443), (Value.int .i64 n444), (Value.bool b445)]) ∧
  V.sel (decide (((ByteArray.size s442 : Nat) : Int) ≥ 1))
  (V.sel (!(b445 == (decide (((ByteArray.size s442 : Nat) : Int) ≤ 63))))
  (R (Ending.returned (Value.bool false)) w447)
  (V.sel (!b445)
  (I436 (IntKind.wrap .i64 (t119_438 + 1)) w447 ∧ μ437 (IntKind.wrap .i64 (t119_438 + 1)) w447 < μ437 t119_438 w440)
  (V.sel (decide (n444 > t119_438))
  (R (Ending.returned (Value.bool false)) w447)
  (Calls Try.prog 15 #[(Value.pointer p10), (Value.string s442)] w447 fun e451 w452 =>
  ∃ n448, ∃ n449, ∃ b450, e451 = Ending.returned (Value.tuple #[(Value.int .i64 n448), (Value.int .i64 n449), (Value.bool b450)]) ∧
  V.sel (!b450)
  (Calls Try.prog 11 #[(Value.pointer p10), (Value.string s442), (Value.int .i64 (-3))] w452 fun e455 w456 =>
  ∃ n453, ∃ n454, e455 = Ending.returned (Value.tuple #[(Value.int .i64 n453), (Value.int .i64 n454)]) ∧
  Calls Try.prog 12 #[(Value.pointer p10), (Value.string s442), (Value.int .i64 n444)] w456 fun e458 w459 =>
  ∃ n457, e458 = Ending.returned (Value.int .i64 n457) ∧
  V.sel (n457 != 0)
  (R (Ending.returned (Value.bool false)) w459)
  (I436 (IntKind.wrap .i64 (t119_438 + 1)) w459 ∧ μ437 (IntKind.wrap .i64 (t119_438 + 1)) w459 < μ437 t119_438 w440))
  (Calls Try.prog 12 #[(Value.pointer p10), (Value.string s442), (Value.int .i64 n444)] w452 fun e461 w462 =>
  ∃ n460, e461 = Ending.returned (Value.int .i64 n460) ∧
  V.sel (n460 != 0)
  (R (Ending.returned (Value.bool false)) w462)
  (I436 (IntKind.wrap .i64 (t119_438 + 1)) w462 ∧ μ437 (IntKind.wrap .i64 (t119_438 + 1)) w462 < μ437 t119_438 w440))))))
  (V.sel (!(b445 == false))
  (R (Ending.returned (Value.bool false)) w447)
  (V.sel (!b445)
  (I436 (IntKind.wrap .i64 (t119_438 + 1)) w447 ∧ μ437 (IntKind.wrap .i64 (t119_438 + 1)) w447 < μ437 t119_438 w440)
  (V.sel (decide (n444 > t119_438))
  (R (Ending.returned (Value.bool false)) w447)
  (Calls Try.prog 15 #[(Value.pointer p10), (Value.string s442)] w447 fun e466 w467 =>
  ∃ n463, ∃ n464, ∃ b465, e466 = Ending.returned (Value.tuple #[(Value.int .i64 n463), (Value.int .i64 n464), (Value.bool b465)]) ∧
  V.sel (!b465)
  (Calls Try.prog 11 #[(Value.pointer p10), (Value.string s442), (Value.int .i64 (-3))] w467 fun e470 w471 =>
  ∃ n468, ∃ n469, e470 = Ending.returned (Value.tuple #[(Value.int .i64 n468), (Value.int .i64 n469)]) ∧
  Calls Try.prog 12 #[(Value.pointer p10), (Value.string s442), (Value.int .i64 n444)] w471 fun e473 w474 =>
  ∃ n472, e473 = Ending.returned (Value.int .i64 n472) ∧
  V.sel (n472 != 0)
  (R (Ending.returned (Value.bool false)) w474)
  (I436 (IntKind.wrap .i64 (t119_438 + 1)) w474 ∧ μ437 (IntKind.wrap .i64 (t119_438 + 1)) w474 < μ437 t119_438 w440))
  (Calls Try.prog 12 #[(Value.pointer p10), (Value.string s442), (Value.int .i64 n444)] w467 fun e476 w477 =>
  ∃ n475, e476 = Ending.returned (Value.int .i64 n475) ∧
  V.sel (n475 != 0)
  (R (Ending.returned (Value.bool false)) w477)
  (I436 (IntKind.wrap .i64 (t119_438 + 1)) w477 ∧ μ437 (IntKind.wrap .i64 (t119_438 + 1)) w477 < μ437 t119_438 w440))))))))
  (Calls Try.prog 17 #[(Value.pointer p6)] w440 fun e479 w480 =>
  ∃ A478, ∃ A478l, ∃ A478c, e479 = Ending.returned (Value.slice A478 A478l A478c) ∧
  Calls Try.prog 17 #[(Value.pointer p10)] w480 fun e482 w483 =>
  ∃ A481, ∃ A481l, ∃ A481c, e482 = Ending.returned (Value.slice A481 A481l A481c) ∧
  Calls Try.prog 16 #[(Value.slice A478 A478l A478c), (Value.slice A481 A481l A481c)] w483 fun e485 w486 =>
  ∃ b484, e485 = Ending.returned (Value.bool b484) ∧
  V.sel (!b484)
  (R (Ending.returned (Value.bool false)) w486)
  (Calls Try.prog 14 #[(Value.pointer p6)] w486 fun e488 w489 =>
  ∃ n487, e488 = Ending.returned (Value.int .i64 n487) ∧
  Calls Try.prog 14 #[(Value.pointer p10)] w489 fun e491 w492 =>
  ∃ n490, e491 = Ending.returned (Value.int .i64 n490) ∧
  V.sel (n487 != n490)
  (R (Ending.returned (Value.bool false)) w492)
  (Calls Try.prog 17 #[(Value.pointer p6)] w492 fun e494 w495 =>
  ∃ A493, ∃ A493l, ∃ A493c, e494 = Ending.returned (Value.slice A493 A493l A493c) ∧
  ∃ I496 : Int → World → Prop, ∃ μ497 : Int → World → Nat, I496 0 w495 ∧
  ∀ t180_498 (j499 : Nat → Value) (w500 : World), I496 t180_498 w500 →
  (V.sel (decide (t180_498 < ((A493l : Nat) : Int)))
  (V.when (decide ((0 : Int) ≤ t180_498 ∧ (t180_498 : Int) < ((A493l : Nat) : Int))) (V.ptr A493 fun a501 =>
  ∃ s502, World.cell? w500 (Addr.add a501 ((Int.toNat t180_498) * 1)) = some (Value.string s502) ∧
  Calls Try.prog 15 #[(Value.pointer p6), (Value.string s502)] w500 fun e506 w507 =>
  ∃ n503, ∃ n504, ∃ b505, e506 = Ending.returned (Value.tuple #[(Value.int .i64 n503), (Value.int .i64 n504), (Value.bool b505)]) ∧
  Calls Try.prog 15 #[(Value.pointer p10), (Value.string s502)] w507 fun e511 w512 =>
  ∃ n508, ∃ n509, ∃ b510, e511 = Ending.returned (Value.tuple #[(Value.int .i64 n508), (Value.int .i64 n509), (Value.bool b510)]) ∧
  Calls Try.prog 18 #[(Value.pointer p10), (Value.int .i64 n508)] w512 fun e516 w517 =>
  ∃ s513, ∃ n514, ∃ b515, e516 = Ending.returned (Value.tuple #[(Value.string s513), (Value.int .i64 n514), (Value.bool b515)]) ∧
  V.sel (!b505)
  (R (Ending.returned (Value.bool false)) w517)
  (V.sel (!b510)
  (R (Ending.returned (Value.bool false)) w517)
  (V.sel (!b515)
  (R (Ending.returned (Value.bool false)) w517)
  (V.sel (n504 != n509)
  (R (Ending.returned (Value.bool false)) w517)
  (V.sel (!(ByteArray.toList s513 == ByteArray.toList s502))
  (R (Ending.returned (Value.bool false)) w517)
  (V.sel (n514 != n504)
  (R (Ending.returned (Value.bool false)) w517)
  (I496 (IntKind.wrap .i64 (t180_498 + 1)) w517 ∧ μ497 (IntKind.wrap .i64 (t180_498 + 1)) w517 < μ497 t180_498 w500))))))))
  (R (Ending.returned (Value.bool true)) w500)))))))))))))))))))))) :
  Calls Try.prog 5 #[(Value.slice names_1 names_1l names_1c), (Value.slice detour_2 detour_2l detour_2c)] w R :=
  V.calls_of_R ⟨V.assoc [(0, [71]), (1, [83]), (2, [93]), (3, [109]), (4, [119]), (5, [180])], V.assocP [], V.assocC [], V.assocS [], ⟨[], true⟩⟩ Try.func5 rfl (Eq.mp (by kernel_rfl) h)

end Go.Proofs.Ytcampkaenlohbaa
