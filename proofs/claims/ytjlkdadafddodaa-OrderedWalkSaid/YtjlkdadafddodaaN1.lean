/- Normal forms of the program's functions, printed by a program of mine; the kernel checks each. -/
import Derived.Test.YtjlkdadafddodaaProg
import Derived.Test.YtjlkdadafddodaaV2
set_option linter.unusedVariables false
set_option maxRecDepth 100000
namespace Go.Proofs.Ytjlkdadafddodaa
open Go

theorem berthlaw08_OrderedWalk_nf (before_1 : Option Addr) (before_1l : Nat) (before_1c : Nat) (after_2 : Option Addr) (after_2l : Nat) (after_2c : Nat) (asked_3 : ByteArray) (asked_4 : Int) (asked_5 : Int) (w : World) (R : Ending → World → Prop) (h :
  ∀ w6, w6 = (World.alloc w (.cells #[(Value.slice after_2 after_2l after_2c)] 22)) →
  ∀ w7, w7 = (World.alloc w6 (.cells #[(Value.string asked_3), (Value.int .i64 asked_4), (Value.int .i64 asked_5)] 24)) →
  ∀ w8, w8 = (World.alloc w7 (.cells #[(Value.bool false)] 4)) →
  Calls Try.prog 8 #[] w8 fun e10 w11 =>
  ∃ b9, e10 = Ending.returned (Value.bool b9) ∧
  V.sel (!b9)
  (∃ w12, Sem.run Try.prog (Instr.storeAt 4 (Value.pointer (some ⟨Array.size (World.heap w7), 0, none⟩)) (Value.bool false)) w11 = .ok () w12 ∧
  ∃ b13, World.cell? w12 ⟨Array.size (World.heap w7), 0, none⟩ = some (Value.bool b13) ∧
  R (Ending.returned (Value.bool b13)) w12)
  (Calls Try.prog 25 #[] w11 fun e16 w17 =>
  ∃ p14, ∃ b15, e16 = Ending.returned (Value.tuple #[(Value.pointer p14), (Value.bool b15)]) ∧
  ∀ w18, w18 = (World.alloc w17 (.cells #[(Value.pointer none)] 52)) →
  ∃ w19, Sem.run Try.prog (Instr.storeAt 52 (Value.pointer (some ⟨Array.size (World.heap w17), 0, none⟩)) (Value.pointer p14)) w18 = .ok () w19 ∧
  V.sel (!b15)
  (∃ w20, Sem.run Try.prog (Instr.storeAt 4 (Value.pointer (some ⟨Array.size (World.heap w7), 0, none⟩)) (Value.bool false)) w19 = .ok () w20 ∧
  ∃ b21, World.cell? w20 ⟨Array.size (World.heap w7), 0, none⟩ = some (Value.bool b21) ∧
  R (Ending.returned (Value.bool b21)) w20)
  (∃ J22 : World → Prop, (∃ I23 : Int → World → Prop, ∃ μ24 : Int → World → Nat, I23 0 w19 ∧
  ∀ t39_25 (j26 : Nat → Value) (w27 : World), I23 t39_25 w27 →
  (V.sel (decide (t39_25 < ((before_1l : Nat) : Int)))
  (V.when (decide ((0 : Int) ≤ t39_25 ∧ (t39_25 : Int) < ((before_1l : Nat) : Int))) (V.ptr before_1 fun a28 =>
  ∃ n29, ∃ n30, ∃ n31, ∃ s32, ∃ n33, ∃ n34, ∃ n35, ∃ A36, ∃ A36l, ∃ A36c, V.cellsC (fun a_ x_ => World.cell? w27 a_ = some x_) (Addr.add a28 ((Int.toNat t39_25) * 8)) [(Value.int .i64 n29), (Value.int .i64 n30), (Value.int .i64 n31), (Value.string s32), (Value.int .i64 n33), (Value.int .i64 n34), (Value.int .i64 n35), (Value.slice A36 A36l A36c)] ∧
  ∀ w37, w37 = (World.alloc w27 (.cells #[(Value.int .i64 0), (Value.int .i64 0), (Value.int .i64 0), (Value.string ByteArray.empty), (Value.int .i64 0), (Value.int .i64 0), (Value.int .i64 0), (Value.slice none 0 0)] 50)) →
  ∃ w38, Sem.run Try.prog (Instr.storeAt 50 (Value.pointer (some ⟨Array.size (World.heap w27), 0, none⟩)) (Value.agg #[(Value.int .i64 n29), (Value.int .i64 n30), (Value.int .i64 n31), (Value.string s32), (Value.int .i64 n33), (Value.int .i64 n34), (Value.int .i64 n35), (Value.slice A36 A36l A36c)])) w37 = .ok () w38 ∧
  ∃ w39, Sem.run Try.prog (Instr.storeAt 3 (Value.pointer (some (Addr.add ⟨Array.size (World.heap w27), 0, none⟩ 1))) (Value.int .i64 2)) w38 = .ok () w39 ∧
  ∃ J40 : Bool → World → Prop, (∃ n41, World.cell? w39 (Addr.add ⟨Array.size (World.heap w27), 0, none⟩ 0) = some (Value.int .i64 n41) ∧
  V.sel (decide (n41 ≤ 3))
  (∃ n42, World.cell? w39 (Addr.add ⟨Array.size (World.heap w27), 0, none⟩ 0) = some (Value.int .i64 n42) ∧
  V.sel (n42 != 1)
  (∃ p43, World.cell? w39 ⟨Array.size (World.heap w17), 0, none⟩ = some (Value.pointer p43) ∧
  ∃ n44, ∃ n45, ∃ n46, ∃ s47, ∃ n48, ∃ n49, ∃ n50, ∃ A51, ∃ A51l, ∃ A51c, V.cellsC (fun a_ x_ => World.cell? w39 a_ = some x_) ⟨Array.size (World.heap w27), 0, none⟩ [(Value.int .i64 n44), (Value.int .i64 n45), (Value.int .i64 n46), (Value.string s47), (Value.int .i64 n48), (Value.int .i64 n49), (Value.int .i64 n50), (Value.slice A51 A51l A51c)] ∧
  Calls Try.prog 26 #[(Value.pointer p43), (Value.agg #[(Value.int .i64 n44), (Value.int .i64 n45), (Value.int .i64 n46), (Value.string s47), (Value.int .i64 n48), (Value.int .i64 n49), (Value.int .i64 n50), (Value.slice A51 A51l A51c)]), (Value.int .i64 2)] w39 fun e53 w54 =>
  ∃ b52, e53 = Ending.returned (Value.bool b52) ∧
  J40 (!b52) w54)
  (J40 false w39))
  (J40 false w39)) ∧
  ∀ t57_55 (j56 : Nat → Value) (w57 : World), J40 t57_55 w57 →
  V.sel t57_55
  (∃ w58, Sem.run Try.prog (Instr.storeAt 4 (Value.pointer (some ⟨Array.size (World.heap w7), 0, none⟩)) (Value.bool false)) w57 = .ok () w58 ∧
  ∃ b59, World.cell? w58 ⟨Array.size (World.heap w7), 0, none⟩ = some (Value.bool b59) ∧
  R (Ending.returned (Value.bool b59)) w58)
  (I23 (IntKind.wrap .i64 (t39_25 + 1)) w57 ∧ μ24 (IntKind.wrap .i64 (t39_25 + 1)) w57 < μ24 t39_25 w27)))
  (J22  w27))) ∧
  ∀ (j60 : Nat → Value) (w61 : World), J22  w61 →
  ∃ J62 : Option Addr → Option Addr → World → Prop, (∃ S63 : World → Prop, S63 (World.drew w61) ∧
  ∃ s65, (∀ w64, S63 w64 → World.cell? w64 (Addr.add ⟨Array.size (World.heap w6), 0, none⟩ 0) = some (Value.string s65)) ∧
  ∃ n66, (∀ w64, S63 w64 → World.cell? w64 (Addr.add ⟨Array.size (World.heap w6), 0, none⟩ 1) = some (Value.int .i64 n66)) ∧
  (∀ w67, w67 = (World.alloc (World.drew w61) (.cells #[(Value.string ByteArray.empty)] 9)) →
  S63 w67 ∧
  ∀ w68, w68 = (World.alloc w67 (.cells #[(Value.int .i64 0)] 3)) →
  S63 w68 ∧
  ∃ w69, Sem.run Try.prog (Instr.storeAt 9 (Value.pointer (some ⟨Array.size (World.heap (World.drew w61)), 0, none⟩)) (Value.string s65)) w68 = .ok () w69 ∧
  S63 w69 ∧
  ∃ w70, Sem.run Try.prog (Instr.storeAt 3 (Value.pointer (some ⟨Array.size (World.heap w67), 0, none⟩)) (Value.int .i64 n66)) w69 = .ok () w70 ∧
  J62 (some ⟨Array.size (World.heap (World.drew w61)), 0, none⟩) (some ⟨Array.size (World.heap w67), 0, none⟩) w70) ∧
  (∀ w71, w71 = (World.alloc (World.drew w61) (.cells #[(Value.int .i64 0)] 3)) →
  S63 w71 ∧
  ∀ w72, w72 = (World.alloc w71 (.cells #[(Value.string ByteArray.empty)] 9)) →
  S63 w72 ∧
  ∃ w73, Sem.run Try.prog (Instr.storeAt 9 (Value.pointer (some ⟨Array.size (World.heap w71), 0, none⟩)) (Value.string s65)) w72 = .ok () w73 ∧
  S63 w73 ∧
  ∃ w74, Sem.run Try.prog (Instr.storeAt 3 (Value.pointer (some ⟨Array.size (World.heap (World.drew w61)), 0, none⟩)) (Value.int .i64 n66)) w73 = .ok () w74 ∧
  J62 (some ⟨Array.size (World.heap w71), 0, none⟩) (some ⟨Array.size (World.heap (World.drew w61)), 0, none⟩) w74) ∧ True) ∧
  ∀ key_75 early_76 (j77 : Nat → Value) (w78 : World), J62 key_75 early_76 w78 →
  ∃ p79, World.cell? w78 ⟨Array.size (World.heap w17), 0, none⟩ = some (Value.pointer p79) ∧
  V.ptr p79 fun a80 =>
  ∃ n81, ∃ A82, ∃ A82l, ∃ A82c, V.cellsC (fun a_ x_ => World.cell? w78 a_ = some x_) (Addr.add (Addr.add a80 4) 4) [(Value.int .i64 n81), (Value.slice A82 A82l A82c)] ∧
  ∀ w83, w83 = (World.alloc w78 (.cells #[(Value.int .i64 0), (Value.slice none 0 0)] 58)) →
  ∃ w84, Sem.run Try.prog (Instr.storeAt 58 (Value.pointer (some ⟨Array.size (World.heap w78), 0, none⟩)) (Value.agg #[(Value.int .i64 n81), (Value.slice A82 A82l A82c)])) w83 = .ok () w84 ∧
  ∃ n85, ∃ A86, ∃ A86l, ∃ A86c, V.cellsC (fun a_ x_ => World.cell? w84 a_ = some x_) ⟨Array.size (World.heap w78), 0, none⟩ [(Value.int .i64 n85), (Value.slice A86 A86l A86c)] ∧
  V.ptr key_75 fun a87 =>
  ∃ s88, World.cell? w84 a87 = some (Value.string s88) ∧
  Calls Try.prog 27 #[(Value.agg #[(Value.int .i64 n85), (Value.slice A86 A86l A86c)]), (Value.string s88)] w84 fun e90 w91 =>
  ∃ A89, ∃ A89l, ∃ A89c, e90 = Ending.returned (Value.slice A89 A89l A89c) ∧
  ∀ w92, w92 = (World.alloc w91 (.cells #[(Value.slice none 0 0)] 37)) →
  ∃ w93, Sem.run Try.prog (Instr.storeAt 37 (Value.pointer (some ⟨Array.size (World.heap w91), 0, none⟩)) (Value.slice A89 A89l A89c)) w92 = .ok () w93 ∧
  ∃ J94 : Option Addr → World → Prop, (∃ S95 : World → Prop, S95 (World.drew w93) ∧
  ∃ p97, (∀ w96, S95 w96 → World.cell? w96 ⟨Array.size (World.heap w17), 0, none⟩ = some (Value.pointer p97)) ∧
  V.ptr p97 fun a98 =>
  ∃ p99, (∀ w96, S95 w96 → World.cell? w96 (Addr.add (Addr.add a98 0) 2) = some (Value.pointer p99)) ∧
  V.ptr key_75 fun a100 =>
  ∃ s101, (∀ w96, S95 w96 → World.cell? w96 a100 = some (Value.string s101)) ∧
  (Calls Try.prog 22 #[(Value.pointer p99), (Value.string s101)] (World.drew w93) fun e103 w104 =>
  ∃ f102, ∃ f102a, ∃ f102c, e103 = Ending.returned (Value.func (.func f102) f102a f102c) ∧
  S95 w104 ∧
  ∀ w105, w105 = (World.alloc w104 (.cells #[Value.nilFunc] 46)) →
  S95 w105 ∧
  ∃ w106, Sem.run Try.prog (Instr.storeAt 46 (Value.pointer (some ⟨Array.size (World.heap w104), 0, none⟩)) (Value.func (.func f102) f102a f102c)) w105 = .ok () w106 ∧
  J94 (some ⟨Array.size (World.heap w104), 0, none⟩) w106) ∧
  (∀ w107, w107 = (World.alloc (World.drew w93) (.cells #[Value.nilFunc] 46)) →
  S95 w107 ∧
  Calls Try.prog 22 #[(Value.pointer p99), (Value.string s101)] w107 fun e109 w110 =>
  ∃ f108, ∃ f108a, ∃ f108c, e109 = Ending.returned (Value.func (.func f108) f108a f108c) ∧
  S95 w110 ∧
  ∃ w111, Sem.run Try.prog (Instr.storeAt 46 (Value.pointer (some ⟨Array.size (World.heap (World.drew w93)), 0, none⟩)) (Value.func (.func f108) f108a f108c)) w110 = .ok () w111 ∧
  J94 (some ⟨Array.size (World.heap (World.drew w93)), 0, none⟩) w111) ∧ True) ∧
  ∀ walk_112 (j113 : Nat → Value) (w114 : World), J94 walk_112 w114 →
  V.ptr walk_112 fun a115 =>
  ∃ f116, ∃ f116a, ∃ f116c, World.cell? w114 a115 = some (Value.func (.func f116) f116a f116c) ∧
  ∀ w117, w117 = (World.alloc w114 (.cells #[(Value.int .i64 0)] 3)) →
  ∃ w118, Sem.run Try.prog (Instr.storeAt 3 (Value.pointer (some ⟨Array.size (World.heap w114), 0, none⟩)) (Value.int .i64 0)) w117 = .ok () w118 ∧
  ∀ w119, w119 = (World.alloc w118 (.cells #[(Value.int .i64 0)] 3)) →
  ∃ w120, Sem.run Try.prog (Instr.storeAt 3 (Value.pointer (some ⟨Array.size (World.heap w118), 0, none⟩)) (Value.int .i64 0)) w119 = .ok () w120 ∧
  ∃ I121 : Option Addr → List Nat → World → Prop, ∃ μ122 : Option Addr → World → Nat, I121 (some ⟨Array.size (World.heap w118), 0, none⟩) [] w120 ∧
  ∀ round_123 (j124 : Nat → Value) (ds125 : List Nat) (w126 : World), I121 round_123 ds125 w126 →
  (V.ptr round_123 fun a127 =>
  ∃ n128, World.cell? w126 a127 = some (Value.int .i64 n128) ∧
  V.sel (decide (n128 < 3))
  (∀ w129, w129 = (World.alloc w126 (.cells #[(Value.int .i64 0)] 3)) →
  ∃ w130, Sem.run Try.prog (Instr.storeAt 3 (Value.pointer (some ⟨Array.size (World.heap w126), 0, none⟩)) (Value.int .i64 0)) w129 = .ok () w130 ∧
  V.ptr walk_112 fun a131 =>
  ∃ f132, ∃ f132a, ∃ f132c, World.cell? w130 a131 = some (Value.func (.func f132) f132a f132c) ∧
  V.when (V.hasB Try.prog f132 && true) (∀ (Rc133 : Loop) (l134 : Nat) (w135 : World), l134 = Array.size (World.heap w130) + 1 → w135 = World.alloc (World.alloc w130 (.deferred (some []))) (.loop { Rc133 with state := .ready, pending := none }) →
  (∀ y85_138 y86_139 (W136 : World) (R137 : Ending → World → Prop), V.LoopSt W136 l134 Rc133 .ready none →
  (V.LoopSt W136 l134 Rc133 .ready none ∧
  ∃ J140 : World → Prop, (∃ J141 : Bool → World → Prop, (∃ n142, World.cell? (V.setLoop W136 l134 Rc133 .busy none) ⟨Array.size (World.heap w126), 0, none⟩ = some (Value.int .i64 n142) ∧
  ∃ A143, ∃ A143l, ∃ A143c, World.cell? (V.setLoop W136 l134 Rc133 .busy none) ⟨Array.size (World.heap w91), 0, none⟩ = some (Value.slice A143 A143l A143c) ∧
  V.sel (decide (n142 ≥ ((A143l : Nat) : Int)))
  (J141 true (V.setLoop W136 l134 Rc133 .busy none))
  (∃ A144, ∃ A144l, ∃ A144c, World.cell? (V.setLoop W136 l134 Rc133 .busy none) ⟨Array.size (World.heap w91), 0, none⟩ = some (Value.slice A144 A144l A144c) ∧
  ∃ n145, World.cell? (V.setLoop W136 l134 Rc133 .busy none) ⟨Array.size (World.heap w126), 0, none⟩ = some (Value.int .i64 n145) ∧
  V.when (decide ((0 : Int) ≤ n145 ∧ (n145 : Int) < ((A144l : Nat) : Int))) (V.ptr A144 fun a146 =>
  ∃ n147, World.cell? (V.setLoop W136 l134 Rc133 .busy none) (Addr.add a146 ((Int.toNat n145) * 1)) = some (Value.int .i64 n147) ∧
  V.sel (y85_138 != n147)
  (J141 true (V.setLoop W136 l134 Rc133 .busy none))
  (∃ n148, ∃ A149, ∃ A149l, ∃ A149c, V.cellsC (fun a_ x_ => World.cell? (V.setLoop W136 l134 Rc133 .busy none) a_ = some x_) ⟨Array.size (World.heap w78), 0, none⟩ [(Value.int .i64 n148), (Value.slice A149 A149l A149c)] ∧
  V.ptr key_75 fun a150 =>
  ∃ s151, World.cell? (V.setLoop W136 l134 Rc133 .busy none) a150 = some (Value.string s151) ∧
  Calls Try.prog 29 #[(Value.agg #[(Value.int .i64 n148), (Value.slice A149 A149l A149c)]), (Value.string s151), (Value.int .i64 y85_138), (Value.int .i64 y85_138)] (V.setLoop W136 l134 Rc133 .busy none) fun e153 w154 =>
  ∃ A152, ∃ A152l, ∃ A152c, e153 = Ending.returned (Value.slice A152 A152l A152c) ∧
  Calls Try.prog 28 #[(Value.pointer y86_139), (Value.int .i64 200), (Value.slice A152 A152l A152c)] w154 fun e156 w157 =>
  ∃ b155, e156 = Ending.returned (Value.bool b155) ∧
  J141 (!b155) w157)))) ∧
  ∀ t108_158 (j159 : Nat → Value) (w160 : World), J141 t108_158 w160 →
  V.sel t108_158
  (∃ w161, Sem.run Try.prog (Instr.storeAt 4 (Value.pointer (some ⟨Array.size (World.heap w7), 0, none⟩)) (Value.bool false)) w160 = .ok () w161 ∧
  V.LoopSt w161 l134 Rc133 .busy none ∧ R137 (Ending.returned (Value.bool false)) (V.setLoop w161 l134 Rc133 .done (some Code.ret)))
  (J140  w160)) ∧
  ∀ (j162 : Nat → Value) (w163 : World), J140  w163 →
  ∃ n164, World.cell? w163 ⟨Array.size (World.heap w126), 0, none⟩ = some (Value.int .i64 n164) ∧
  Calls Try.prog 30 #[(Value.pointer y86_139), (Value.int .i64 n164)] w163 fun e166 w167 =>
  ∃ b165, e166 = Ending.returned (Value.bool b165) ∧
  Calls Try.prog 32 #[(Value.pointer y86_139)] w167 fun e169 w170 =>
  ∃ p168, e169 = Ending.returned (Value.pointer p168) ∧
  Calls Try.prog 31 #[(Value.pointer y86_139), (Value.pointer p168)] w170 fun e171 w172 =>
  e171 = Ending.returned undef ∧
  ∃ n173, World.cell? w172 ⟨Array.size (World.heap w126), 0, none⟩ = some (Value.int .i64 n173) ∧
  ∃ w174, Sem.run Try.prog (Instr.storeAt 3 (Value.pointer (some ⟨Array.size (World.heap w126), 0, none⟩)) (Value.int .i64 (IntKind.wrap .i64 (n173 + 1)))) w172 = .ok () w174 ∧
  ∃ J175 : World → Prop, (∃ I176 : Int → World → Prop, ∃ μ177 : Int → World → Nat, I176 0 w174 ∧
  ∀ j_178 (j179 : Nat → Value) (w180 : World), I176 j_178 w180 →
  (∃ J181 : World → Prop, (V.sel (decide (j_178 < 2))
  (∃ n182, World.cell? w180 ⟨Array.size (World.heap w114), 0, none⟩ = some (Value.int .i64 n182) ∧
  ∃ A183, ∃ A183l, ∃ A183c, World.cell? w180 ⟨Array.size (World.heap w), 0, none⟩ = some (Value.slice A183 A183l A183c) ∧
  V.sel (decide (n182 < ((A183l : Nat) : Int)))
  (J181  w180)
  (J175  w180))
  (J175  w180)) ∧
  ∀ (j184 : Nat → Value) (w185 : World), J181  w185 →
  ∃ A186, ∃ A186l, ∃ A186c, World.cell? w185 ⟨Array.size (World.heap w), 0, none⟩ = some (Value.slice A186 A186l A186c) ∧
  ∃ n187, World.cell? w185 ⟨Array.size (World.heap w114), 0, none⟩ = some (Value.int .i64 n187) ∧
  V.when (decide ((0 : Int) ≤ n187 ∧ (n187 : Int) < ((A186l : Nat) : Int))) (V.ptr A186 fun a188 =>
  ∃ n189, ∃ n190, ∃ n191, ∃ s192, ∃ n193, ∃ n194, ∃ n195, ∃ A196, ∃ A196l, ∃ A196c, V.cellsC (fun a_ x_ => World.cell? w185 a_ = some x_) (Addr.add a188 ((Int.toNat n187) * 8)) [(Value.int .i64 n189), (Value.int .i64 n190), (Value.int .i64 n191), (Value.string s192), (Value.int .i64 n193), (Value.int .i64 n194), (Value.int .i64 n195), (Value.slice A196 A196l A196c)] ∧
  ∀ w197, w197 = (World.alloc w185 (.cells #[(Value.int .i64 0), (Value.int .i64 0), (Value.int .i64 0), (Value.string ByteArray.empty), (Value.int .i64 0), (Value.int .i64 0), (Value.int .i64 0), (Value.slice none 0 0)] 50)) →
  ∃ w198, Sem.run Try.prog (Instr.storeAt 50 (Value.pointer (some ⟨Array.size (World.heap w185), 0, none⟩)) (Value.agg #[(Value.int .i64 n189), (Value.int .i64 n190), (Value.int .i64 n191), (Value.string s192), (Value.int .i64 n193), (Value.int .i64 n194), (Value.int .i64 n195), (Value.slice A196 A196l A196c)])) w197 = .ok () w198 ∧
  ∃ n199, World.cell? w198 ⟨Array.size (World.heap w114), 0, none⟩ = some (Value.int .i64 n199) ∧
  ∃ w200, Sem.run Try.prog (Instr.storeAt 3 (Value.pointer (some ⟨Array.size (World.heap w114), 0, none⟩)) (Value.int .i64 (IntKind.wrap .i64 (n199 + 1)))) w198 = .ok () w200 ∧
  ∃ J201 : Bool → World → Prop, (∃ n202, World.cell? w200 (Addr.add ⟨Array.size (World.heap w185), 0, none⟩ 0) = some (Value.int .i64 n202) ∧
  V.sel (decide (n202 ≤ 3))
  (∃ n203, World.cell? w200 (Addr.add ⟨Array.size (World.heap w185), 0, none⟩ 0) = some (Value.int .i64 n203) ∧
  V.sel (n203 != 1)
  (∃ p204, World.cell? w200 ⟨Array.size (World.heap w17), 0, none⟩ = some (Value.pointer p204) ∧
  ∃ n205, ∃ n206, ∃ n207, ∃ s208, ∃ n209, ∃ n210, ∃ n211, ∃ A212, ∃ A212l, ∃ A212c, V.cellsC (fun a_ x_ => World.cell? w200 a_ = some x_) ⟨Array.size (World.heap w185), 0, none⟩ [(Value.int .i64 n205), (Value.int .i64 n206), (Value.int .i64 n207), (Value.string s208), (Value.int .i64 n209), (Value.int .i64 n210), (Value.int .i64 n211), (Value.slice A212 A212l A212c)] ∧
  Calls Try.prog 26 #[(Value.pointer p204), (Value.agg #[(Value.int .i64 n205), (Value.int .i64 n206), (Value.int .i64 n207), (Value.string s208), (Value.int .i64 n209), (Value.int .i64 n210), (Value.int .i64 n211), (Value.slice A212 A212l A212c)]), (Value.int .i64 2)] w200 fun e214 w215 =>
  ∃ b213, e214 = Ending.returned (Value.bool b213) ∧
  J201 (!b213) w215)
  (J201 false w200))
  (J201 false w200)) ∧
  ∀ t147_216 (j217 : Nat → Value) (w218 : World), J201 t147_216 w218 →
  V.sel t147_216
  (∃ w219, Sem.run Try.prog (Instr.storeAt 4 (Value.pointer (some ⟨Array.size (World.heap w7), 0, none⟩)) (Value.bool false)) w218 = .ok () w219 ∧
  V.LoopSt w219 l134 Rc133 .busy none ∧ R137 (Ending.returned (Value.bool false)) (V.setLoop w219 l134 Rc133 .done (some Code.ret)))
  (I176 (IntKind.wrap .i64 (j_178 + 1)) w218 ∧ μ177 (IntKind.wrap .i64 (j_178 + 1)) w218 < μ177 j_178 w180)))) ∧
  ∀ (j220 : Nat → Value) (w221 : World), J175  w221 →
  V.ptr round_123 fun a222 =>
  ∃ n223, World.cell? w221 a222 = some (Value.int .i64 n223) ∧
  V.sel (n223 == 1)
  (∃ n224, World.cell? w221 ⟨Array.size (World.heap w126), 0, none⟩ = some (Value.int .i64 n224) ∧
  V.ptr early_76 fun a225 =>
  ∃ n226, World.cell? w221 a225 = some (Value.int .i64 n226) ∧
  V.sel (decide (n224 ≥ n226))
  (V.LoopSt w221 l134 Rc133 .busy none ∧ R137 (Ending.returned (Value.bool false)) (V.setLoop w221 l134 Rc133 .done (some (Code.exit 4))))
  (V.LoopSt w221 l134 Rc133 .busy none ∧ R137 (Ending.returned (Value.bool true)) (V.setLoop w221 l134 Rc133 .ready none)))
  (V.LoopSt w221 l134 Rc133 .busy none ∧ R137 (Ending.returned (Value.bool true)) (V.setLoop w221 l134 Rc133 .ready none))) →
  V.Yield Try.prog l134 [(Value.int .i64 y85_138), (Value.pointer y86_139)] W136 R137) →
  Calls Try.prog f132 ⟨Array.toList f132a ++ [(Value.func (.yield l134) #[] #[])] ++ Array.toList f132c⟩ w135 fun e227 w229 => (∃ v228, e227 = Ending.returned v228) ∧
  ((V.LoopSt w229 l134 Rc133 .ready none ∧
  ∃ J230 : Bool → World → Prop, (V.ptr round_123 fun a231 =>
  ∃ n232, World.cell? (V.setLoop w229 l134 Rc133 .exhausted none) a231 = some (Value.int .i64 n232) ∧
  V.sel (n232 != 1)
  (∃ n233, World.cell? (V.setLoop w229 l134 Rc133 .exhausted none) ⟨Array.size (World.heap w126), 0, none⟩ = some (Value.int .i64 n233) ∧
  ∃ A234, ∃ A234l, ∃ A234c, World.cell? (V.setLoop w229 l134 Rc133 .exhausted none) ⟨Array.size (World.heap w91), 0, none⟩ = some (Value.slice A234 A234l A234c) ∧
  V.sel (n233 != ((A234l : Nat) : Int))
  (J230 true (V.setLoop w229 l134 Rc133 .exhausted none))
  (V.ptr round_123 fun a235 =>
  ∃ n236, World.cell? (V.setLoop w229 l134 Rc133 .exhausted none) a235 = some (Value.int .i64 n236) ∧
  V.sel (n236 == 1)
  (∃ n237, World.cell? (V.setLoop w229 l134 Rc133 .exhausted none) ⟨Array.size (World.heap w126), 0, none⟩ = some (Value.int .i64 n237) ∧
  ∃ A238, ∃ A238l, ∃ A238c, World.cell? (V.setLoop w229 l134 Rc133 .exhausted none) ⟨Array.size (World.heap w91), 0, none⟩ = some (Value.slice A238 A238l A238c) ∧
  V.ptr early_76 fun a239 =>
  ∃ n240, World.cell? (V.setLoop w229 l134 Rc133 .exhausted none) a239 = some (Value.int .i64 n240) ∧
  J230 (n237 != (if (if n240 > 1 then n240 else 1) < ((A238l : Nat) : Int) then (if n240 > 1 then n240 else 1) else ((A238l : Nat) : Int))) (V.setLoop w229 l134 Rc133 .exhausted none))
  (J230 false (V.setLoop w229 l134 Rc133 .exhausted none))))
  (V.ptr round_123 fun a241 =>
  ∃ n242, World.cell? (V.setLoop w229 l134 Rc133 .exhausted none) a241 = some (Value.int .i64 n242) ∧
  V.sel (n242 == 1)
  (∃ n243, World.cell? (V.setLoop w229 l134 Rc133 .exhausted none) ⟨Array.size (World.heap w126), 0, none⟩ = some (Value.int .i64 n243) ∧
  ∃ A244, ∃ A244l, ∃ A244c, World.cell? (V.setLoop w229 l134 Rc133 .exhausted none) ⟨Array.size (World.heap w91), 0, none⟩ = some (Value.slice A244 A244l A244c) ∧
  V.ptr early_76 fun a245 =>
  ∃ n246, World.cell? (V.setLoop w229 l134 Rc133 .exhausted none) a245 = some (Value.int .i64 n246) ∧
  J230 (n243 != (if (if n246 > 1 then n246 else 1) < ((A244l : Nat) : Int) then (if n246 > 1 then n246 else 1) else ((A244l : Nat) : Int))) (V.setLoop w229 l134 Rc133 .exhausted none))
  (J230 false (V.setLoop w229 l134 Rc133 .exhausted none)))) ∧
  ∀ t175_247 (j248 : Nat → Value) (w249 : World), J230 t175_247 w249 →
  V.sel t175_247
  (∃ w250, Sem.run Try.prog (Instr.storeAt 4 (Value.pointer (some ⟨Array.size (World.heap w7), 0, none⟩)) (Value.bool false)) w249 = .ok () w250 ∧
  V.closeR (Array.size (World.heap w130) :: ds125) w250 fun w251 =>
  ∃ b252, World.cell? w251 ⟨Array.size (World.heap w7), 0, none⟩ = some (Value.bool b252) ∧
  R (Ending.returned (Value.bool b252)) w251)
  (V.ptr round_123 fun a253 =>
  ∃ n254, World.cell? w249 a253 = some (Value.int .i64 n254) ∧
  ∀ w255, w255 = (World.alloc w249 (.cells #[(Value.int .i64 0)] 3)) →
  ∃ w256, Sem.run Try.prog (Instr.storeAt 3 (Value.pointer (some ⟨Array.size (World.heap w249), 0, none⟩)) (Value.int .i64 n254)) w255 = .ok () w256 ∧
  ∃ n257, World.cell? w256 ⟨Array.size (World.heap w249), 0, none⟩ = some (Value.int .i64 n257) ∧
  ∃ w258, Sem.run Try.prog (Instr.storeAt 3 (Value.pointer (some ⟨Array.size (World.heap w249), 0, none⟩)) (Value.int .i64 (IntKind.wrap .i64 (n257 + 1)))) w256 = .ok () w258 ∧
  I121 (some ⟨Array.size (World.heap w249), 0, none⟩) (Array.size (World.heap w130) :: ds125) w258 ∧ μ122 (some ⟨Array.size (World.heap w249), 0, none⟩) w258 < μ122 round_123 w126)) ∨
  (V.LoopSt w229 l134 Rc133 .done (some Code.ret) ∧
  V.closeR (Array.size (World.heap w130) :: ds125) (V.setLoop w229 l134 Rc133 .exhausted (some Code.ret)) fun w259 =>
  ∃ b260, World.cell? w259 ⟨Array.size (World.heap w7), 0, none⟩ = some (Value.bool b260) ∧
  R (Ending.returned (Value.bool b260)) w259) ∨
  (V.LoopSt w229 l134 Rc133 .done (some (Code.exit 4)) ∧
  ∃ J261 : Bool → World → Prop, (V.ptr round_123 fun a262 =>
  ∃ n263, World.cell? (V.setLoop w229 l134 Rc133 .exhausted (some (Code.exit 4))) a262 = some (Value.int .i64 n263) ∧
  V.sel (n263 != 1)
  (∃ n264, World.cell? (V.setLoop w229 l134 Rc133 .exhausted (some (Code.exit 4))) ⟨Array.size (World.heap w126), 0, none⟩ = some (Value.int .i64 n264) ∧
  ∃ A265, ∃ A265l, ∃ A265c, World.cell? (V.setLoop w229 l134 Rc133 .exhausted (some (Code.exit 4))) ⟨Array.size (World.heap w91), 0, none⟩ = some (Value.slice A265 A265l A265c) ∧
  V.sel (n264 != ((A265l : Nat) : Int))
  (J261 true (V.setLoop w229 l134 Rc133 .exhausted (some (Code.exit 4))))
  (V.ptr round_123 fun a266 =>
  ∃ n267, World.cell? (V.setLoop w229 l134 Rc133 .exhausted (some (Code.exit 4))) a266 = some (Value.int .i64 n267) ∧
  V.sel (n267 == 1)
  (∃ n268, World.cell? (V.setLoop w229 l134 Rc133 .exhausted (some (Code.exit 4))) ⟨Array.size (World.heap w126), 0, none⟩ = some (Value.int .i64 n268) ∧
  ∃ A269, ∃ A269l, ∃ A269c, World.cell? (V.setLoop w229 l134 Rc133 .exhausted (some (Code.exit 4))) ⟨Array.size (World.heap w91), 0, none⟩ = some (Value.slice A269 A269l A269c) ∧
  V.ptr early_76 fun a270 =>
  ∃ n271, World.cell? (V.setLoop w229 l134 Rc133 .exhausted (some (Code.exit 4))) a270 = some (Value.int .i64 n271) ∧
  J261 (n268 != (if (if n271 > 1 then n271 else 1) < ((A269l : Nat) : Int) then (if n271 > 1 then n271 else 1) else ((A269l : Nat) : Int))) (V.setLoop w229 l134 Rc133 .exhausted (some (Code.exit 4))))
  (J261 false (V.setLoop w229 l134 Rc133 .exhausted (some (Code.exit 4))))))
  (V.ptr round_123 fun a272 =>
  ∃ n273, World.cell? (V.setLoop w229 l134 Rc133 .exhausted (some (Code.exit 4))) a272 = some (Value.int .i64 n273) ∧
  V.sel (n273 == 1)
  (∃ n274, World.cell? (V.setLoop w229 l134 Rc133 .exhausted (some (Code.exit 4))) ⟨Array.size (World.heap w126), 0, none⟩ = some (Value.int .i64 n274) ∧
  ∃ A275, ∃ A275l, ∃ A275c, World.cell? (V.setLoop w229 l134 Rc133 .exhausted (some (Code.exit 4))) ⟨Array.size (World.heap w91), 0, none⟩ = some (Value.slice A275 A275l A275c) ∧
  V.ptr early_76 fun a276 =>
  ∃ n277, World.cell? (V.setLoop w229 l134 Rc133 .exhausted (some (Code.exit 4))) a276 = some (Value.int .i64 n277) ∧
  J261 (n274 != (if (if n277 > 1 then n277 else 1) < ((A275l : Nat) : Int) then (if n277 > 1 then n277 else 1) else ((A275l : Nat) : Int))) (V.setLoop w229 l134 Rc133 .exhausted (some (Code.exit 4))))
  (J261 false (V.setLoop w229 l134 Rc133 .exhausted (some (Code.exit 4)))))) ∧
  ∀ t175_278 (j279 : Nat → Value) (w280 : World), J261 t175_278 w280 →
  V.sel t175_278
  (∃ w281, Sem.run Try.prog (Instr.storeAt 4 (Value.pointer (some ⟨Array.size (World.heap w7), 0, none⟩)) (Value.bool false)) w280 = .ok () w281 ∧
  V.closeR (Array.size (World.heap w130) :: ds125) w281 fun w282 =>
  ∃ b283, World.cell? w282 ⟨Array.size (World.heap w7), 0, none⟩ = some (Value.bool b283) ∧
  R (Ending.returned (Value.bool b283)) w282)
  (V.ptr round_123 fun a284 =>
  ∃ n285, World.cell? w280 a284 = some (Value.int .i64 n285) ∧
  ∀ w286, w286 = (World.alloc w280 (.cells #[(Value.int .i64 0)] 3)) →
  ∃ w287, Sem.run Try.prog (Instr.storeAt 3 (Value.pointer (some ⟨Array.size (World.heap w280), 0, none⟩)) (Value.int .i64 n285)) w286 = .ok () w287 ∧
  ∃ n288, World.cell? w287 ⟨Array.size (World.heap w280), 0, none⟩ = some (Value.int .i64 n288) ∧
  ∃ w289, Sem.run Try.prog (Instr.storeAt 3 (Value.pointer (some ⟨Array.size (World.heap w280), 0, none⟩)) (Value.int .i64 (IntKind.wrap .i64 (n288 + 1)))) w287 = .ok () w289 ∧
  I121 (some ⟨Array.size (World.heap w280), 0, none⟩) (Array.size (World.heap w130) :: ds125) w289 ∧ μ122 (some ⟨Array.size (World.heap w280), 0, none⟩) w289 < μ122 round_123 w126)) ∨
  False)))
  (∀ w290, w290 = (World.alloc w126 (.cells #[(Value.int .i64 0)] 3)) →
  ∃ w291, Sem.run Try.prog (Instr.storeAt 3 (Value.pointer (some ⟨Array.size (World.heap w126), 0, none⟩)) (Value.int .i64 0)) w290 = .ok () w291 ∧
  V.ptr walk_112 fun a292 =>
  ∃ f293, ∃ f293a, ∃ f293c, World.cell? w291 a292 = some (Value.func (.func f293) f293a f293c) ∧
  V.when (V.hasB Try.prog f293 && true) (∀ (Rc294 : Loop) (l295 : Nat) (w296 : World), l295 = Array.size (World.heap w291) + 1 → w296 = World.alloc (World.alloc w291 (.deferred (some []))) (.loop { Rc294 with state := .ready, pending := none }) →
  (∀ y178_299 y179_300 (W297 : World) (R298 : Ending → World → Prop), V.LoopSt W297 l295 Rc294 .ready none →
  (∀ w301, w301 = (World.alloc W297 (.cells #[(Value.int .i64 0)] 3)) →
  ∃ w302, Sem.run Try.prog (Instr.storeAt 3 (Value.pointer (some ⟨Array.size (World.heap W297), 0, none⟩)) (Value.int .i64 y178_299)) w301 = .ok () w302 ∧
  V.LoopSt w302 l295 Rc294 .ready none ∧
  ∃ J303 : World → Prop, (∃ J304 : Bool → World → Prop, (∃ n305, World.cell? (V.setLoop w302 l295 Rc294 .busy none) ⟨Array.size (World.heap w126), 0, none⟩ = some (Value.int .i64 n305) ∧
  ∃ A306, ∃ A306l, ∃ A306c, World.cell? (V.setLoop w302 l295 Rc294 .busy none) ⟨Array.size (World.heap w91), 0, none⟩ = some (Value.slice A306 A306l A306c) ∧
  V.sel (decide (n305 ≥ ((A306l : Nat) : Int)))
  (J304 true (World.drew (V.setLoop w302 l295 Rc294 .busy none)))
  (∃ n307, World.cell? (V.setLoop w302 l295 Rc294 .busy none) ⟨Array.size (World.heap W297), 0, none⟩ = some (Value.int .i64 n307) ∧
  ∃ A308, ∃ A308l, ∃ A308c, World.cell? (V.setLoop w302 l295 Rc294 .busy none) ⟨Array.size (World.heap w91), 0, none⟩ = some (Value.slice A308 A308l A308c) ∧
  ∃ n309, World.cell? (V.setLoop w302 l295 Rc294 .busy none) ⟨Array.size (World.heap w126), 0, none⟩ = some (Value.int .i64 n309) ∧
  V.when (decide ((0 : Int) ≤ n309 ∧ (n309 : Int) < ((A308l : Nat) : Int))) (V.ptr A308 fun a310 =>
  ∃ n311, World.cell? (V.setLoop w302 l295 Rc294 .busy none) (Addr.add a310 ((Int.toNat n309) * 1)) = some (Value.int .i64 n311) ∧
  J304 (n307 != n311) (World.drew (V.setLoop w302 l295 Rc294 .busy none))))) ∧
  ∀ t191_312 (j313 : Nat → Value) (w314 : World), J304 t191_312 w314 →
  V.sel t191_312
  (∃ w315, Sem.run Try.prog (Instr.storeAt 4 (Value.pointer (some ⟨Array.size (World.heap w7), 0, none⟩)) (Value.bool false)) w314 = .ok () w315 ∧
  V.LoopSt w315 l295 Rc294 .busy none ∧ R298 (Ending.returned (Value.bool false)) (V.setLoop w315 l295 Rc294 .done (some Code.ret)))
  (J303  w314)) ∧
  ∀ (j316 : Nat → Value) (w317 : World), J303  w317 →
  ∀ w318, w318 = (World.alloc w317 (.cells #[(Value.int .i64 0)] 3)) →
  ∃ w319, Sem.run Try.prog (Instr.storeAt 3 (Value.pointer (some ⟨Array.size (World.heap w317), 0, none⟩)) (Value.int .i64 0)) w318 = .ok () w319 ∧
  V.ptr walk_112 fun a320 =>
  ∃ f321, ∃ f321a, ∃ f321c, World.cell? w319 a320 = some (Value.func (.func f321) f321a f321c) ∧
  V.when (V.hasB Try.prog f321 && true) ((∃ r0, (World.heap w319)[l295]? = some (.loop r0)) ∧
  ∀ (Rc322 : Loop) (l323 : Nat) (w324 : World), l323 = Array.size (World.heap w319) → w324 = World.alloc w319 (.loop { Rc322 with state := .ready, pending := none }) →
  (∀ y193_327 y194_328 (W325 : World) (R326 : Ending → World → Prop), V.LoopSt W325 l323 Rc322 .ready none →
  (V.LoopSt W325 l323 Rc322 .ready none ∧
  ∃ J329 : World → Prop, (∃ J330 : Bool → World → Prop, (∃ n331, World.cell? (V.setLoop W325 l323 Rc322 .busy none) ⟨Array.size (World.heap w317), 0, none⟩ = some (Value.int .i64 n331) ∧
  ∃ A332, ∃ A332l, ∃ A332c, World.cell? (V.setLoop W325 l323 Rc322 .busy none) ⟨Array.size (World.heap w91), 0, none⟩ = some (Value.slice A332 A332l A332c) ∧
  V.sel (decide (n331 ≥ ((A332l : Nat) : Int)))
  (J330 true (V.setLoop W325 l323 Rc322 .busy none))
  (∃ A333, ∃ A333l, ∃ A333c, World.cell? (V.setLoop W325 l323 Rc322 .busy none) ⟨Array.size (World.heap w91), 0, none⟩ = some (Value.slice A333 A333l A333c) ∧
  ∃ n334, World.cell? (V.setLoop W325 l323 Rc322 .busy none) ⟨Array.size (World.heap w317), 0, none⟩ = some (Value.int .i64 n334) ∧
  V.when (decide ((0 : Int) ≤ n334 ∧ (n334 : Int) < ((A333l : Nat) : Int))) (V.ptr A333 fun a335 =>
  ∃ n336, World.cell? (V.setLoop W325 l323 Rc322 .busy none) (Addr.add a335 ((Int.toNat n334) * 1)) = some (Value.int .i64 n336) ∧
  J330 (y193_327 != n336) (V.setLoop W325 l323 Rc322 .busy none)))) ∧
  ∀ t206_337 (j338 : Nat → Value) (w339 : World), J330 t206_337 w339 →
  V.sel t206_337
  (∃ w340, Sem.run Try.prog (Instr.storeAt 4 (Value.pointer (some ⟨Array.size (World.heap w7), 0, none⟩)) (Value.bool false)) w339 = .ok () w340 ∧
  V.LoopSt w340 l323 Rc322 .busy none ∧ R326 (Ending.returned (Value.bool false)) (V.setLoop w340 l323 Rc322 .done (some Code.ret)))
  (J329  w339)) ∧
  ∀ (j341 : Nat → Value) (w342 : World), J329  w342 →
  ∃ J343 : World → Prop, (∃ J344 : Bool → World → Prop, (∃ n345, World.cell? w342 ⟨Array.size (World.heap w317), 0, none⟩ = some (Value.int .i64 n345) ∧
  ∃ n346, World.cell? w342 ⟨Array.size (World.heap w126), 0, none⟩ = some (Value.int .i64 n346) ∧
  V.sel (n345 == n346)
  (∃ n347, ∃ A348, ∃ A348l, ∃ A348c, V.cellsC (fun a_ x_ => World.cell? w342 a_ = some x_) ⟨Array.size (World.heap w78), 0, none⟩ [(Value.int .i64 n347), (Value.slice A348 A348l A348c)] ∧
  V.ptr key_75 fun a349 =>
  ∃ s350, World.cell? w342 a349 = some (Value.string s350) ∧
  ∃ n351, World.cell? w342 ⟨Array.size (World.heap W297), 0, none⟩ = some (Value.int .i64 n351) ∧
  ∃ n352, World.cell? w342 ⟨Array.size (World.heap W297), 0, none⟩ = some (Value.int .i64 n352) ∧
  Calls Try.prog 29 #[(Value.agg #[(Value.int .i64 n347), (Value.slice A348 A348l A348c)]), (Value.string s350), (Value.int .i64 n351), (Value.int .i64 n352)] w342 fun e354 w355 =>
  ∃ A353, ∃ A353l, ∃ A353c, e354 = Ending.returned (Value.slice A353 A353l A353c) ∧
  Calls Try.prog 28 #[(Value.pointer y194_328), (Value.int .i64 200), (Value.slice A353 A353l A353c)] w355 fun e357 w358 =>
  ∃ b356, e357 = Ending.returned (Value.bool b356) ∧
  J344 (!b356) w358)
  (J344 false w342)) ∧
  ∀ t219_359 (j360 : Nat → Value) (w361 : World), J344 t219_359 w361 →
  V.sel t219_359
  (∃ w362, Sem.run Try.prog (Instr.storeAt 4 (Value.pointer (some ⟨Array.size (World.heap w7), 0, none⟩)) (Value.bool false)) w361 = .ok () w362 ∧
  V.LoopSt w362 l323 Rc322 .busy none ∧ R326 (Ending.returned (Value.bool false)) (V.setLoop w362 l323 Rc322 .done (some Code.ret)))
  (J343  w361)) ∧
  ∀ (j363 : Nat → Value) (w364 : World), J343  w364 →
  Calls Try.prog 32 #[(Value.pointer y194_328)] w364 fun e366 w367 =>
  ∃ p365, e366 = Ending.returned (Value.pointer p365) ∧
  Calls Try.prog 31 #[(Value.pointer y194_328), (Value.pointer p365)] w367 fun e368 w369 =>
  e368 = Ending.returned undef ∧
  ∃ n370, World.cell? w369 ⟨Array.size (World.heap w317), 0, none⟩ = some (Value.int .i64 n370) ∧
  ∃ w371, Sem.run Try.prog (Instr.storeAt 3 (Value.pointer (some ⟨Array.size (World.heap w317), 0, none⟩)) (Value.int .i64 (IntKind.wrap .i64 (n370 + 1)))) w369 = .ok () w371 ∧
  ∃ n372, World.cell? w371 ⟨Array.size (World.heap w317), 0, none⟩ = some (Value.int .i64 n372) ∧
  ∃ n373, World.cell? w371 ⟨Array.size (World.heap w126), 0, none⟩ = some (Value.int .i64 n373) ∧
  V.sel (decide (n372 > n373))
  (V.LoopSt w371 l323 Rc322 .busy none ∧ R326 (Ending.returned (Value.bool false)) (V.setLoop w371 l323 Rc322 .done (some (Code.exit 10))))
  (V.LoopSt w371 l323 Rc322 .busy none ∧ R326 (Ending.returned (Value.bool true)) (V.setLoop w371 l323 Rc322 .ready none))) →
  V.Yield Try.prog l323 [(Value.int .i64 y193_327), (Value.pointer y194_328)] W325 R326) →
  Calls Try.prog f321 ⟨Array.toList f321a ++ [(Value.func (.yield l323) #[] #[])] ++ Array.toList f321c⟩ w324 fun e374 w376 => (∃ v375, e374 = Ending.returned v375) ∧
  ((V.LoopSt w376 l323 Rc322 .ready none ∧
  ∃ n377, ∃ A378, ∃ A378l, ∃ A378c, V.cellsC (fun a_ x_ => World.cell? (V.setLoop w376 l323 Rc322 .exhausted none) a_ = some x_) ⟨Array.size (World.heap w78), 0, none⟩ [(Value.int .i64 n377), (Value.slice A378 A378l A378c)] ∧
  V.ptr key_75 fun a379 =>
  ∃ s380, World.cell? (V.setLoop w376 l323 Rc322 .exhausted none) a379 = some (Value.string s380) ∧
  ∃ n381, World.cell? (V.setLoop w376 l323 Rc322 .exhausted none) ⟨Array.size (World.heap W297), 0, none⟩ = some (Value.int .i64 n381) ∧
  ∃ n382, World.cell? (V.setLoop w376 l323 Rc322 .exhausted none) ⟨Array.size (World.heap W297), 0, none⟩ = some (Value.int .i64 n382) ∧
  Calls Try.prog 29 #[(Value.agg #[(Value.int .i64 n377), (Value.slice A378 A378l A378c)]), (Value.string s380), (Value.int .i64 n381), (Value.int .i64 n382)] (V.setLoop w376 l323 Rc322 .exhausted none) fun e384 w385 =>
  ∃ A383, ∃ A383l, ∃ A383c, e384 = Ending.returned (Value.slice A383 A383l A383c) ∧
  Calls Try.prog 28 #[(Value.pointer y179_300), (Value.int .i64 200), (Value.slice A383 A383l A383c)] w385 fun e387 w388 =>
  ∃ b386, e387 = Ending.returned (Value.bool b386) ∧
  V.sel (!b386)
  (∃ w389, Sem.run Try.prog (Instr.storeAt 4 (Value.pointer (some ⟨Array.size (World.heap w7), 0, none⟩)) (Value.bool false)) w388 = .ok () w389 ∧
  V.LoopSt w389 l295 Rc294 .busy none ∧ R298 (Ending.returned (Value.bool false)) (V.setLoop w389 l295 Rc294 .done (some Code.ret)))
  (∃ n390, World.cell? w388 ⟨Array.size (World.heap w126), 0, none⟩ = some (Value.int .i64 n390) ∧
  ∃ w391, Sem.run Try.prog (Instr.storeAt 3 (Value.pointer (some ⟨Array.size (World.heap w126), 0, none⟩)) (Value.int .i64 (IntKind.wrap .i64 (n390 + 1)))) w388 = .ok () w391 ∧
  V.LoopSt w391 l295 Rc294 .busy none ∧ R298 (Ending.returned (Value.bool true)) (V.setLoop w391 l295 Rc294 .ready none))) ∨
  (V.LoopSt w376 l323 Rc322 .done (some Code.ret) ∧
  V.LoopSt (V.setLoop w376 l323 Rc322 .exhausted (some Code.ret)) l295 Rc294 .busy none ∧ R298 (Ending.returned (Value.bool false)) (V.setLoop (V.setLoop w376 l323 Rc322 .exhausted (some Code.ret)) l295 Rc294 .done (some Code.ret))) ∨
  (V.LoopSt w376 l323 Rc322 .done (some (Code.exit 10)) ∧
  ∃ n392, ∃ A393, ∃ A393l, ∃ A393c, V.cellsC (fun a_ x_ => World.cell? (V.setLoop w376 l323 Rc322 .exhausted (some (Code.exit 10))) a_ = some x_) ⟨Array.size (World.heap w78), 0, none⟩ [(Value.int .i64 n392), (Value.slice A393 A393l A393c)] ∧
  V.ptr key_75 fun a394 =>
  ∃ s395, World.cell? (V.setLoop w376 l323 Rc322 .exhausted (some (Code.exit 10))) a394 = some (Value.string s395) ∧
  ∃ n396, World.cell? (V.setLoop w376 l323 Rc322 .exhausted (some (Code.exit 10))) ⟨Array.size (World.heap W297), 0, none⟩ = some (Value.int .i64 n396) ∧
  ∃ n397, World.cell? (V.setLoop w376 l323 Rc322 .exhausted (some (Code.exit 10))) ⟨Array.size (World.heap W297), 0, none⟩ = some (Value.int .i64 n397) ∧
  Calls Try.prog 29 #[(Value.agg #[(Value.int .i64 n392), (Value.slice A393 A393l A393c)]), (Value.string s395), (Value.int .i64 n396), (Value.int .i64 n397)] (V.setLoop w376 l323 Rc322 .exhausted (some (Code.exit 10))) fun e399 w400 =>
  ∃ A398, ∃ A398l, ∃ A398c, e399 = Ending.returned (Value.slice A398 A398l A398c) ∧
  Calls Try.prog 28 #[(Value.pointer y179_300), (Value.int .i64 200), (Value.slice A398 A398l A398c)] w400 fun e402 w403 =>
  ∃ b401, e402 = Ending.returned (Value.bool b401) ∧
  V.sel (!b401)
  (∃ w404, Sem.run Try.prog (Instr.storeAt 4 (Value.pointer (some ⟨Array.size (World.heap w7), 0, none⟩)) (Value.bool false)) w403 = .ok () w404 ∧
  V.LoopSt w404 l295 Rc294 .busy none ∧ R298 (Ending.returned (Value.bool false)) (V.setLoop w404 l295 Rc294 .done (some Code.ret)))
  (∃ n405, World.cell? w403 ⟨Array.size (World.heap w126), 0, none⟩ = some (Value.int .i64 n405) ∧
  ∃ w406, Sem.run Try.prog (Instr.storeAt 3 (Value.pointer (some ⟨Array.size (World.heap w126), 0, none⟩)) (Value.int .i64 (IntKind.wrap .i64 (n405 + 1)))) w403 = .ok () w406 ∧
  V.LoopSt w406 l295 Rc294 .busy none ∧ R298 (Ending.returned (Value.bool true)) (V.setLoop w406 l295 Rc294 .ready none))) ∨
  False))) →
  V.Yield Try.prog l295 [(Value.int .i64 y178_299), (Value.pointer y179_300)] W297 R298) →
  Calls Try.prog f293 ⟨Array.toList f293a ++ [(Value.func (.yield l295) #[] #[])] ++ Array.toList f293c⟩ w296 fun e407 w409 => (∃ v408, e407 = Ending.returned v408) ∧
  ((V.LoopSt w409 l295 Rc294 .ready none ∧
  ∃ n410, World.cell? (V.setLoop w409 l295 Rc294 .exhausted none) ⟨Array.size (World.heap w126), 0, none⟩ = some (Value.int .i64 n410) ∧
  ∃ A411, ∃ A411l, ∃ A411c, World.cell? (V.setLoop w409 l295 Rc294 .exhausted none) ⟨Array.size (World.heap w91), 0, none⟩ = some (Value.slice A411 A411l A411c) ∧
  V.sel (n410 == ((A411l : Nat) : Int))
  (∃ p412, World.cell? (V.setLoop w409 l295 Rc294 .exhausted none) ⟨Array.size (World.heap w17), 0, none⟩ = some (Value.pointer p412) ∧
  Calls Try.prog 33 #[(Value.pointer p412), (Value.int .i64 2)] (V.setLoop w409 l295 Rc294 .exhausted none) fun e414 w415 =>
  ∃ b413, e414 = Ending.returned (Value.bool b413) ∧
  ∃ w416, Sem.run Try.prog (Instr.storeAt 4 (Value.pointer (some ⟨Array.size (World.heap w7), 0, none⟩)) (Value.bool b413)) w415 = .ok () w416 ∧
  V.closeR (Array.size (World.heap w291) :: ds125) w416 fun w417 =>
  ∃ b418, World.cell? w417 ⟨Array.size (World.heap w7), 0, none⟩ = some (Value.bool b418) ∧
  R (Ending.returned (Value.bool b418)) w417)
  (∃ w419, Sem.run Try.prog (Instr.storeAt 4 (Value.pointer (some ⟨Array.size (World.heap w7), 0, none⟩)) (Value.bool false)) (V.setLoop w409 l295 Rc294 .exhausted none) = .ok () w419 ∧
  V.closeR (Array.size (World.heap w291) :: ds125) w419 fun w420 =>
  ∃ b421, World.cell? w420 ⟨Array.size (World.heap w7), 0, none⟩ = some (Value.bool b421) ∧
  R (Ending.returned (Value.bool b421)) w420)) ∨
  (V.LoopSt w409 l295 Rc294 .done (some Code.ret) ∧
  V.closeR (Array.size (World.heap w291) :: ds125) (V.setLoop w409 l295 Rc294 .exhausted (some Code.ret)) fun w422 =>
  ∃ b423, World.cell? w422 ⟨Array.size (World.heap w7), 0, none⟩ = some (Value.bool b423) ∧
  R (Ending.returned (Value.bool b423)) w422) ∨
  False))))))) :
  Calls Try.prog 5 #[(Value.slice before_1 before_1l before_1c), (Value.slice after_2 after_2l after_2c), (Value.agg #[(Value.string asked_3), (Value.int .i64 asked_4), (Value.int .i64 asked_5)])] w R :=
  V.calls_of_R ⟨V.assoc [(0, [39]), (1, [17]), (3, [21])], V.assocP [(13, (V.Plan.one 0 (V.Plan.one 1 (V.Plan.one 2 (V.Plan.one 3 (V.Plan.alt 4 (V.Plan.one 5 (V.Plan.one 6 (V.Plan.one 7 V.Plan.done))) (V.Plan.alt 5 (V.Plan.one 4 (V.Plan.one 6 (V.Plan.one 7 V.Plan.done))) V.Plan.stop))))))), (16, (V.Plan.one 0 (V.Plan.one 1 (V.Plan.one 2 (V.Plan.one 3 (V.Plan.one 4 (V.Plan.one 5 (V.Plan.alt 6 (V.Plan.one 7 (V.Plan.one 8 V.Plan.done)) (V.Plan.alt 7 (V.Plan.one 6 (V.Plan.one 8 V.Plan.done)) V.Plan.stop))))))))), (48, V.line [0, 1, 2, 3, 4, 5, 6, 7, 8, 9, 10, 11])], V.assocC [(1000012, ([57], [V.Sh.one .bool])), (1000014, ([], [])), (13, ([11, 12], [V.Sh.one .ptr, V.Sh.one .ptr])), (16, ([15], [V.Sh.one .ptr])), (1000029, ([108], [V.Sh.one .bool])), (1000030, ([], [])), (1000036, ([], [])), (1000039, ([147], [V.Sh.one .bool])), (1000040, ([], [])), (1000042, ([175], [V.Sh.one .bool])), (1000050, ([191], [V.Sh.one .bool])), (1000051, ([], [])), (1000056, ([206], [V.Sh.one .bool])), (1000057, ([], [])), (1000058, ([219], [V.Sh.one .bool])), (1000059, ([], []))], V.assocS [(2, [V.Sh.one (.int .i64), V.Sh.one .ptr]), (4, [V.Sh.one (.int .i64), V.Sh.one .ptr]), (5, [V.Sh.one (.int .i64), V.Sh.one .ptr])], ⟨[], true⟩⟩ Try.func5 rfl (Eq.mp (by kernel_rfl) h)

end Go.Proofs.Ytjlkdadafddodaa
