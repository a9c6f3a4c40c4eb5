/- Normal forms of the program's functions, printed by a program of mine; the kernel checks each. -/
import Derived.Test.YtcohengppaighaaDoorProg
import Derived.Test.YtcohengppaighaaDoorV2
set_option linter.unusedVariables false
set_option maxRecDepth 100000
namespace Go.Proofs.YtcohengppaighaaDoor
open Go

theorem berthlaw03_LabelsWalk_nf (was_1 : Option Addr) (was_1l : Nat) (was_1c : Nat) (now_2 : Option Addr) (now_2l : Nat) (now_2c : Nat) (stop_3 : Int) (w : World) (R : Ending → World → Prop) (h :
  ∀ w4, w4 = (World.alloc w (.cells #[(Value.int .i64 stop_3)] 3)) →
  ∀ w5, w5 = (World.alloc w4 (.cells #[(Value.bool false)] 4)) →
  Calls Tryd.prog 8 #[] w5 fun e7 w8 =>
  ∃ b6, e7 = Ending.returned (Value.bool b6) ∧
  V.sel (!b6)
  (∃ w9, Sem.run Tryd.prog (Instr.storeAt 4 (Value.pointer (some ⟨Array.size (World.heap w4), 0, none⟩)) (Value.bool false)) w8 = .ok () w9 ∧
  ∃ b10, World.cell? w9 ⟨Array.size (World.heap w4), 0, none⟩ = some (Value.bool b10) ∧
  R (Ending.returned (Value.bool b10)) w9)
  (∀ w11, w11 = (World.alloc w8 (.cells #[(Value.string ⟨#[97]⟩), (Value.string ⟨#[49]⟩)] 27)) →
  Calls Tryd.prog 9 #[(Value.slice (some ⟨Array.size (World.heap w8), 0, none⟩) 1 1), (Value.slice none 0 0)] w11 fun e13 w14 =>
  ∃ A12, ∃ A12l, ∃ A12c, e13 = Ending.returned (Value.slice A12 A12l A12c) ∧
  V.sel (((A12l : Nat) : Int) != 1)
  (∃ w15, Sem.run Tryd.prog (Instr.storeAt 4 (Value.pointer (some ⟨Array.size (World.heap w4), 0, none⟩)) (Value.bool false)) w14 = .ok () w15 ∧
  ∃ b16, World.cell? w15 ⟨Array.size (World.heap w4), 0, none⟩ = some (Value.bool b16) ∧
  R (Ending.returned (Value.bool b16)) w15)
  (Calls Tryd.prog 10 #[(Value.slice was_1 was_1l was_1c), (Value.slice now_2 now_2l now_2c)] w14 fun e18 w19 =>
  ∃ A17, ∃ A17l, ∃ A17c, e18 = Ending.returned (Value.slice A17 A17l A17c) ∧
  ∀ w20, w20 = (World.alloc w19 (.cells #[(Value.slice none 0 0)] 24)) →
  ∃ w21, Sem.run Tryd.prog (Instr.storeAt 24 (Value.pointer (some ⟨Array.size (World.heap w19), 0, none⟩)) (Value.slice A17 A17l A17c)) w20 = .ok () w21 ∧
  Calls Tryd.prog 11 #[(Value.slice was_1 was_1l was_1c)] w21 fun e24 w25 =>
  ∃ A22, ∃ A22l, ∃ A22c, ∃ A23, ∃ A23l, ∃ A23c, e24 = Ending.returned (Value.tuple #[(Value.slice A22 A22l A22c), (Value.slice A23 A23l A23c)]) ∧
  Calls Tryd.prog 11 #[(Value.slice now_2 now_2l now_2c)] w25 fun e28 w29 =>
  ∃ A26, ∃ A26l, ∃ A26c, ∃ A27, ∃ A27l, ∃ A27c, e28 = Ending.returned (Value.tuple #[(Value.slice A26 A26l A26c), (Value.slice A27 A27l A27c)]) ∧
  Calls Tryd.prog 12 #[(Value.slice A23 A23l A23c), (Value.slice A27 A27l A27c)] w29 fun e31 w32 =>
  ∃ f30, ∃ f30a, ∃ f30c, e31 = Ending.returned (Value.func (.func f30) f30a f30c) ∧
  ∀ w33, w33 = (World.alloc w32 (.cells #[Value.nilFunc] 31)) →
  ∃ w34, Sem.run Tryd.prog (Instr.storeAt 31 (Value.pointer (some ⟨Array.size (World.heap w32), 0, none⟩)) (Value.func (.func f30) f30a f30c)) w33 = .ok () w34 ∧
  ∃ f35, ∃ f35a, ∃ f35c, World.cell? w34 ⟨Array.size (World.heap w32), 0, none⟩ = some (Value.func (.func f35) f35a f35c) ∧
  Calls Tryd.prog 13 #[(Value.slice A22 A22l A22c), (Value.slice was_1 was_1l was_1c)] w34 fun e37 w38 =>
  ∃ b36, e37 = Ending.returned (Value.bool b36) ∧
  V.sel (!b36)
  (∃ w39, Sem.run Tryd.prog (Instr.storeAt 4 (Value.pointer (some ⟨Array.size (World.heap w4), 0, none⟩)) (Value.bool false)) w38 = .ok () w39 ∧
  ∃ b40, World.cell? w39 ⟨Array.size (World.heap w4), 0, none⟩ = some (Value.bool b40) ∧
  R (Ending.returned (Value.bool b40)) w39)
  (Calls Tryd.prog 13 #[(Value.slice A26 A26l A26c), (Value.slice now_2 now_2l now_2c)] w38 fun e42 w43 =>
  ∃ b41, e42 = Ending.returned (Value.bool b41) ∧
  V.sel (!b41)
  (∃ w44, Sem.run Tryd.prog (Instr.storeAt 4 (Value.pointer (some ⟨Array.size (World.heap w4), 0, none⟩)) (Value.bool false)) w43 = .ok () w44 ∧
  ∃ b45, World.cell? w44 ⟨Array.size (World.heap w4), 0, none⟩ = some (Value.bool b45) ∧
  R (Ending.returned (Value.bool b45)) w44)
  (∃ I46 : Int → World → Prop, ∃ μ47 : Int → World → Nat, I46 0 w43 ∧
  ∀ i_48 (j49 : Nat → Value) (w50 : World), I46 i_48 w50 →
  (V.sel (decide (i_48 < ((A23l : Nat) : Int)))
  (V.when (decide ((0 : Int) ≤ i_48 ∧ (i_48 : Int) < ((A23l : Nat) : Int))) (V.ptr A23 fun a51 =>
  ∃ w52, Sem.run Tryd.prog (Instr.storeAt 27 (Value.pointer (some (Addr.add a51 ((Int.toNat i_48) * 2)))) (Value.agg #[(Value.string ⟨#[119, 114, 105, 116, 116, 101, 110]⟩), (Value.string ⟨#[111, 118, 101, 114]⟩)])) w50 = .ok () w52 ∧
  I46 (IntKind.wrap .i64 (i_48 + 1)) w52 ∧ μ47 (IntKind.wrap .i64 (i_48 + 1)) w52 < μ47 i_48 w50))
  (∃ I53 : Int → World → Prop, ∃ μ54 : Int → World → Nat, I53 0 w50 ∧
  ∀ i_55 (j56 : Nat → Value) (w57 : World), I53 i_55 w57 →
  (V.sel (decide (i_55 < ((A27l : Nat) : Int)))
  (V.when (decide ((0 : Int) ≤ i_55 ∧ (i_55 : Int) < ((A27l : Nat) : Int))) (V.ptr A27 fun a58 =>
  ∃ w59, Sem.run Tryd.prog (Instr.storeAt 27 (Value.pointer (some (Addr.add a58 ((Int.toNat i_55) * 2)))) (Value.agg #[(Value.string ⟨#[111, 118, 101, 114]⟩), (Value.string ⟨#[119, 114, 105, 116, 116, 101, 110]⟩)])) w57 = .ok () w59 ∧
  I53 (IntKind.wrap .i64 (i_55 + 1)) w59 ∧ μ54 (IntKind.wrap .i64 (i_55 + 1)) w59 < μ54 i_55 w57))
  (∀ w60, w60 = (World.alloc w57 (.cells #[(Value.int .i64 0)] 3)) →
  ∃ w61, Sem.run Tryd.prog (Instr.storeAt 3 (Value.pointer (some ⟨Array.size (World.heap w57), 0, none⟩)) (Value.int .i64 0)) w60 = .ok () w61 ∧
  ∃ f62, ∃ f62a, ∃ f62c, World.cell? w61 ⟨Array.size (World.heap w32), 0, none⟩ = some (Value.func (.func f62) f62a f62c) ∧
  V.when (V.hasB Tryd.prog f62 && true) (∀ (Rc63 : Loop) (l64 : Nat) (w65 : World), l64 = Array.size (World.heap w61) + 1 → w65 = World.alloc (World.alloc w61 (.deferred (some []))) (.loop { Rc63 with state := .ready, pending := none }) →
  (∀ y82_68 y82_69 y82_70 y82_71 y82_72 (W66 : World) (R67 : Ending → World → Prop), V.LoopSt W66 l64 Rc63 .ready none →
  (∀ w73, w73 = (World.alloc W66 (.cells #[(Value.string ByteArray.empty), (Value.string ByteArray.empty), (Value.string ByteArray.empty), (Value.bool false), (Value.bool false)] 35)) →
  ∃ w74, Sem.run Tryd.prog (Instr.storeAt 35 (Value.pointer (some ⟨Array.size (World.heap W66), 0, none⟩)) (Value.agg #[(Value.string y82_68), (Value.string y82_69), (Value.string y82_70), (Value.bool y82_71), (Value.bool y82_72)])) w73 = .ok () w74 ∧
  V.LoopSt w74 l64 Rc63 .ready none ∧
  ∃ n75, World.cell? (V.setLoop w74 l64 Rc63 .busy none) ⟨Array.size (World.heap w57), 0, none⟩ = some (Value.int .i64 n75) ∧
  ∃ A76, ∃ A76l, ∃ A76c, World.cell? (V.setLoop w74 l64 Rc63 .busy none) ⟨Array.size (World.heap w19), 0, none⟩ = some (Value.slice A76 A76l A76c) ∧
  V.sel (decide (n75 ≥ ((A76l : Nat) : Int)))
  (∃ w77, Sem.run Tryd.prog (Instr.storeAt 4 (Value.pointer (some ⟨Array.size (World.heap w4), 0, none⟩)) (Value.bool false)) (World.drew (V.setLoop w74 l64 Rc63 .busy none)) = .ok () w77 ∧
  V.LoopSt w77 l64 Rc63 .busy none ∧ R67 (Ending.returned (Value.bool false)) (V.setLoop w77 l64 Rc63 .done (some Code.ret)))
  (∃ s78, ∃ s79, ∃ s80, ∃ b81, ∃ b82, V.cellsC (fun a_ x_ => World.cell? (V.setLoop w74 l64 Rc63 .busy none) a_ = some x_) ⟨Array.size (World.heap W66), 0, none⟩ [(Value.string s78), (Value.string s79), (Value.string s80), (Value.bool b81), (Value.bool b82)] ∧
  ∃ A83, ∃ A83l, ∃ A83c, World.cell? (V.setLoop w74 l64 Rc63 .busy none) ⟨Array.size (World.heap w19), 0, none⟩ = some (Value.slice A83 A83l A83c) ∧
  ∃ n84, World.cell? (V.setLoop w74 l64 Rc63 .busy none) ⟨Array.size (World.heap w57), 0, none⟩ = some (Value.int .i64 n84) ∧
  V.when (decide ((0 : Int) ≤ n84 ∧ (n84 : Int) < ((A83l : Nat) : Int))) (V.ptr A83 fun a85 =>
  ∃ s86, ∃ s87, ∃ s88, ∃ b89, ∃ b90, V.cellsC (fun a_ x_ => World.cell? (V.setLoop w74 l64 Rc63 .busy none) a_ = some x_) (Addr.add a85 ((Int.toNat n84) * 5)) [(Value.string s86), (Value.string s87), (Value.string s88), (Value.bool b89), (Value.bool b90)] ∧
  V.sel (!((ByteArray.toList s78 == ByteArray.toList s86) && ((ByteArray.toList s79 == ByteArray.toList s87) && ((ByteArray.toList s80 == ByteArray.toList s88) && ((b81 == b89) && ((b82 == b90) && true))))))
  (∃ w91, Sem.run Tryd.prog (Instr.storeAt 4 (Value.pointer (some ⟨Array.size (World.heap w4), 0, none⟩)) (Value.bool false)) (World.drew (V.setLoop w74 l64 Rc63 .busy none)) = .ok () w91 ∧
  V.LoopSt w91 l64 Rc63 .busy none ∧ R67 (Ending.returned (Value.bool false)) (V.setLoop w91 l64 Rc63 .done (some Code.ret)))
  (∃ n92, World.cell? (World.drew (V.setLoop w74 l64 Rc63 .busy none)) ⟨Array.size (World.heap w57), 0, none⟩ = some (Value.int .i64 n92) ∧
  ∃ w93, Sem.run Tryd.prog (Instr.storeAt 3 (Value.pointer (some ⟨Array.size (World.heap w57), 0, none⟩)) (Value.int .i64 (IntKind.wrap .i64 (n92 + 1)))) (World.drew (V.setLoop w74 l64 Rc63 .busy none)) = .ok () w93 ∧
  ∃ n94, World.cell? w93 ⟨Array.size (World.heap w57), 0, none⟩ = some (Value.int .i64 n94) ∧
  ∃ n95, World.cell? w93 ⟨Array.size (World.heap w), 0, none⟩ = some (Value.int .i64 n95) ∧
  V.sel (n94 == n95)
  (V.LoopSt w93 l64 Rc63 .busy none ∧ R67 (Ending.returned (Value.bool false)) (V.setLoop w93 l64 Rc63 .done (some (Code.exit 4))))
  (V.LoopSt w93 l64 Rc63 .busy none ∧ R67 (Ending.returned (Value.bool true)) (V.setLoop w93 l64 Rc63 .ready none)))))) →
  V.Yield Tryd.prog l64 [(Value.agg #[(Value.string y82_68), (Value.string y82_69), (Value.string y82_70), (Value.bool y82_71), (Value.bool y82_72)])] W66 R67) →
  Calls Tryd.prog f62 ⟨Array.toList f62a ++ [(Value.func (.yield l64) #[] #[])] ++ Array.toList f62c⟩ w65 fun e96 w98 => (∃ v97, e96 = Ending.returned v97) ∧
  ((V.LoopSt w98 l64 Rc63 .ready none ∧
  Calls Tryd.prog 14 #[(Value.slice now_2 now_2l now_2c)] (V.setLoop w98 l64 Rc63 .exhausted none) fun e100 w101 =>
  ∃ A99, ∃ A99l, ∃ A99c, e100 = Ending.returned (Value.slice A99 A99l A99c) ∧
  Calls Tryd.prog 14 #[(Value.slice was_1 was_1l was_1c)] w101 fun e103 w104 =>
  ∃ A102, ∃ A102l, ∃ A102c, e103 = Ending.returned (Value.slice A102 A102l A102c) ∧
  Calls Tryd.prog 9 #[(Value.slice A99 A99l A99c), (Value.slice A102 A102l A102c)] w104 fun e106 w107 =>
  ∃ A105, ∃ A105l, ∃ A105c, e106 = Ending.returned (Value.slice A105 A105l A105c) ∧
  ∃ w108, Sem.run Tryd.prog (Instr.storeAt 3 (Value.pointer (some ⟨Array.size (World.heap w57), 0, none⟩)) (Value.int .i64 0)) w107 = .ok () w108 ∧
  ∃ f109, ∃ f109a, ∃ f109c, World.cell? w108 ⟨Array.size (World.heap w32), 0, none⟩ = some (Value.func (.func f109) f109a f109c) ∧
  V.when (V.hasB Tryd.prog f109 && true) (∀ (Rc110 : Loop) (l111 : Nat) (w112 : World), l111 = Array.size (World.heap w108) + 1 → w112 = World.alloc (World.alloc w108 (.deferred (some []))) (.loop { Rc110 with state := .ready, pending := none }) →
  (∀ y106_115 y106_116 y106_117 y106_118 y106_119 (W113 : World) (R114 : Ending → World → Prop), V.LoopSt W113 l111 Rc110 .ready none →
  (∀ w120, w120 = (World.alloc W113 (.cells #[(Value.string ByteArray.empty), (Value.string ByteArray.empty), (Value.string ByteArray.empty), (Value.bool false), (Value.bool false)] 35)) →
  ∃ w121, Sem.run Tryd.prog (Instr.storeAt 35 (Value.pointer (some ⟨Array.size (World.heap W113), 0, none⟩)) (Value.agg #[(Value.string y106_115), (Value.string y106_116), (Value.string y106_117), (Value.bool y106_118), (Value.bool y106_119)])) w120 = .ok () w121 ∧
  V.LoopSt w121 l111 Rc110 .ready none ∧
  ∃ n122, World.cell? (V.setLoop w121 l111 Rc110 .busy none) ⟨Array.size (World.heap w57), 0, none⟩ = some (Value.int .i64 n122) ∧
  ∃ A123, ∃ A123l, ∃ A123c, World.cell? (V.setLoop w121 l111 Rc110 .busy none) ⟨Array.size (World.heap w19), 0, none⟩ = some (Value.slice A123 A123l A123c) ∧
  V.sel (decide (n122 ≥ ((A123l : Nat) : Int)))
  (∃ w124, Sem.run Tryd.prog (Instr.storeAt 4 (Value.pointer (some ⟨Array.size (World.heap w4), 0, none⟩)) (Value.bool false)) (World.drew (V.setLoop w121 l111 Rc110 .busy none)) = .ok () w124 ∧
  V.LoopSt w124 l111 Rc110 .busy none ∧ R114 (Ending.returned (Value.bool false)) (V.setLoop w124 l111 Rc110 .done (some Code.ret)))
  (∃ s125, ∃ s126, ∃ s127, ∃ b128, ∃ b129, V.cellsC (fun a_ x_ => World.cell? (V.setLoop w121 l111 Rc110 .busy none) a_ = some x_) ⟨Array.size (World.heap W113), 0, none⟩ [(Value.string s125), (Value.string s126), (Value.string s127), (Value.bool b128), (Value.bool b129)] ∧
  ∃ A130, ∃ A130l, ∃ A130c, World.cell? (V.setLoop w121 l111 Rc110 .busy none) ⟨Array.size (World.heap w19), 0, none⟩ = some (Value.slice A130 A130l A130c) ∧
  ∃ n131, World.cell? (V.setLoop w121 l111 Rc110 .busy none) ⟨Array.size (World.heap w57), 0, none⟩ = some (Value.int .i64 n131) ∧
  V.when (decide ((0 : Int) ≤ n131 ∧ (n131 : Int) < ((A130l : Nat) : Int))) (V.ptr A130 fun a132 =>
  ∃ s133, ∃ s134, ∃ s135, ∃ b136, ∃ b137, V.cellsC (fun a_ x_ => World.cell? (V.setLoop w121 l111 Rc110 .busy none) a_ = some x_) (Addr.add a132 ((Int.toNat n131) * 5)) [(Value.string s133), (Value.string s134), (Value.string s135), (Value.bool b136), (Value.bool b137)] ∧
  V.sel (!((ByteArray.toList s125 == ByteArray.toList s133) && ((ByteArray.toList s126 == ByteArray.toList s134) && ((ByteArray.toList s127 == ByteArray.toList s135) && ((b128 == b136) && ((b129 == b137) && true))))))
  (∃ w138, Sem.run Tryd.prog (Instr.storeAt 4 (Value.pointer (some ⟨Array.size (World.heap w4), 0, none⟩)) (Value.bool false)) (World.drew (V.setLoop w121 l111 Rc110 .busy none)) = .ok () w138 ∧
  V.LoopSt w138 l111 Rc110 .busy none ∧ R114 (Ending.returned (Value.bool false)) (V.setLoop w138 l111 Rc110 .done (some Code.ret)))
  (∃ n139, World.cell? (World.drew (V.setLoop w121 l111 Rc110 .busy none)) ⟨Array.size (World.heap w57), 0, none⟩ = some (Value.int .i64 n139) ∧
  ∃ w140, Sem.run Tryd.prog (Instr.storeAt 3 (Value.pointer (some ⟨Array.size (World.heap w57), 0, none⟩)) (Value.int .i64 (IntKind.wrap .i64 (n139 + 1)))) (World.drew (V.setLoop w121 l111 Rc110 .busy none)) = .ok () w140 ∧
  V.LoopSt w140 l111 Rc110 .busy none ∧ R114 (Ending.returned (Value.bool true)) (V.setLoop w140 l111 Rc110 .ready none))))) →
  V.Yield Tryd.prog l111 [(Value.agg #[(Value.string y106_115), (Value.string y106_116), (Value.string y106_117), (Value.bool y106_118), (Value.bool y106_119)])] W113 R114) →
  Calls Tryd.prog f109 ⟨Array.toList f109a ++ [(Value.func (.yield l111) #[] #[])] ++ Array.toList f109c⟩ w112 fun e141 w143 => (∃ v142, e141 = Ending.returned v142) ∧
  ((V.LoopSt w143 l111 Rc110 .ready none ∧
  ∃ w144, Sem.run Tryd.prog (Instr.storeAt 3 (Value.pointer (some ⟨Array.size (World.heap w57), 0, none⟩)) (Value.int .i64 0)) (V.setLoop w143 l111 Rc110 .exhausted none) = .ok () w144 ∧
  ∃ f145, ∃ f145a, ∃ f145c, World.cell? w144 ⟨Array.size (World.heap w32), 0, none⟩ = some (Value.func (.func f145) f145a f145c) ∧
  V.when (V.hasB Tryd.prog f145 && true) (∀ (Rc146 : Loop) (l147 : Nat) (w148 : World), l147 = Array.size (World.heap w144) + 1 → w148 = World.alloc (World.alloc w144 (.deferred (some []))) (.loop { Rc146 with state := .ready, pending := none }) →
  (∀ y122_151 y122_152 y122_153 y122_154 y122_155 (W149 : World) (R150 : Ending → World → Prop), V.LoopSt W149 l147 Rc146 .ready none →
  (∀ w156, w156 = (World.alloc W149 (.cells #[(Value.string ByteArray.empty), (Value.string ByteArray.empty), (Value.string ByteArray.empty), (Value.bool false), (Value.bool false)] 35)) →
  ∃ w157, Sem.run Tryd.prog (Instr.storeAt 35 (Value.pointer (some ⟨Array.size (World.heap W149), 0, none⟩)) (Value.agg #[(Value.string y122_151), (Value.string y122_152), (Value.string y122_153), (Value.bool y122_154), (Value.bool y122_155)])) w156 = .ok () w157 ∧
  V.LoopSt w157 l147 Rc146 .ready none ∧
  ∀ w158, w158 = (World.alloc (V.setLoop w157 l147 Rc146 .busy none) (.cells #[(Value.int .i64 0)] 3)) →
  ∃ w159, Sem.run Tryd.prog (Instr.storeAt 3 (Value.pointer (some ⟨Array.size (World.heap (V.setLoop w157 l147 Rc146 .busy none)), 0, none⟩)) (Value.int .i64 0)) w158 = .ok () w159 ∧
  ∃ f160, ∃ f160a, ∃ f160c, World.cell? w159 ⟨Array.size (World.heap w32), 0, none⟩ = some (Value.func (.func f160) f160a f160c) ∧
  V.when (V.hasB Tryd.prog f160 && true) ((∃ r0, (World.heap w159)[l147]? = some (.loop r0)) ∧
  ∀ (Rc161 : Loop) (l162 : Nat) (w163 : World), l162 = Array.size (World.heap w159) → w163 = World.alloc w159 (.loop { Rc161 with state := .ready, pending := none }) →
  (∀ y124_166 y124_167 y124_168 y124_169 y124_170 (W164 : World) (R165 : Ending → World → Prop), V.LoopSt W164 l162 Rc161 .ready none →
  (∀ w171, w171 = (World.alloc W164 (.cells #[(Value.string ByteArray.empty), (Value.string ByteArray.empty), (Value.string ByteArray.empty), (Value.bool false), (Value.bool false)] 35)) →
  ∃ w172, Sem.run Tryd.prog (Instr.storeAt 35 (Value.pointer (some ⟨Array.size (World.heap W164), 0, none⟩)) (Value.agg #[(Value.string y124_166), (Value.string y124_167), (Value.string y124_168), (Value.bool y124_169), (Value.bool y124_170)])) w171 = .ok () w172 ∧
  V.LoopSt w172 l162 Rc161 .ready none ∧
  ∃ n173, World.cell? (V.setLoop w172 l162 Rc161 .busy none) ⟨Array.size (World.heap (V.setLoop w157 l147 Rc146 .busy none)), 0, none⟩ = some (Value.int .i64 n173) ∧
  ∃ A174, ∃ A174l, ∃ A174c, World.cell? (V.setLoop w172 l162 Rc161 .busy none) ⟨Array.size (World.heap w19), 0, none⟩ = some (Value.slice A174 A174l A174c) ∧
  V.sel (decide (n173 ≥ ((A174l : Nat) : Int)))
  (∃ w175, Sem.run Tryd.prog (Instr.storeAt 4 (Value.pointer (some ⟨Array.size (World.heap w4), 0, none⟩)) (Value.bool false)) (World.drew (V.setLoop w172 l162 Rc161 .busy none)) = .ok () w175 ∧
  V.LoopSt w175 l162 Rc161 .busy none ∧ R165 (Ending.returned (Value.bool false)) (V.setLoop w175 l162 Rc161 .done (some Code.ret)))
  (∃ s176, ∃ s177, ∃ s178, ∃ b179, ∃ b180, V.cellsC (fun a_ x_ => World.cell? (V.setLoop w172 l162 Rc161 .busy none) a_ = some x_) ⟨Array.size (World.heap W164), 0, none⟩ [(Value.string s176), (Value.string s177), (Value.string s178), (Value.bool b179), (Value.bool b180)] ∧
  ∃ A181, ∃ A181l, ∃ A181c, World.cell? (V.setLoop w172 l162 Rc161 .busy none) ⟨Array.size (World.heap w19), 0, none⟩ = some (Value.slice A181 A181l A181c) ∧
  ∃ n182, World.cell? (V.setLoop w172 l162 Rc161 .busy none) ⟨Array.size (World.heap (V.setLoop w157 l147 Rc146 .busy none)), 0, none⟩ = some (Value.int .i64 n182) ∧
  V.when (decide ((0 : Int) ≤ n182 ∧ (n182 : Int) < ((A181l : Nat) : Int))) (V.ptr A181 fun a183 =>
  ∃ s184, ∃ s185, ∃ s186, ∃ b187, ∃ b188, V.cellsC (fun a_ x_ => World.cell? (V.setLoop w172 l162 Rc161 .busy none) a_ = some x_) (Addr.add a183 ((Int.toNat n182) * 5)) [(Value.string s184), (Value.string s185), (Value.string s186), (Value.bool b187), (Value.bool b188)] ∧
  V.sel (!((ByteArray.toList s176 == ByteArray.toList s184) && ((ByteArray.toList s177 == ByteArray.toList s185) && ((ByteArray.toList s178 == ByteArray.toList s186) && ((b179 == b187) && ((b180 == b188) && true))))))
  (∃ w189, Sem.run Tryd.prog (Instr.storeAt 4 (Value.pointer (some ⟨Array.size (World.heap w4), 0, none⟩)) (Value.bool false)) (World.drew (V.setLoop w172 l162 Rc161 .busy none)) = .ok () w189 ∧
  V.LoopSt w189 l162 Rc161 .busy none ∧ R165 (Ending.returned (Value.bool false)) (V.setLoop w189 l162 Rc161 .done (some Code.ret)))
  (∃ n190, World.cell? (World.drew (V.setLoop w172 l162 Rc161 .busy none)) ⟨Array.size (World.heap (V.setLoop w157 l147 Rc146 .busy none)), 0, none⟩ = some (Value.int .i64 n190) ∧
  ∃ n191, World.cell? (World.drew (V.setLoop w172 l162 Rc161 .busy none)) ⟨Array.size (World.heap w57), 0, none⟩ = some (Value.int .i64 n191) ∧
  V.sel (n190 == n191)
  (V.LoopSt (World.drew (V.setLoop w172 l162 Rc161 .busy none)) l162 Rc161 .busy none ∧ R165 (Ending.returned (Value.bool false)) (V.setLoop (World.drew (V.setLoop w172 l162 Rc161 .busy none)) l162 Rc161 .done (some (Code.exit 10))))
  (∃ n192, World.cell? (World.drew (V.setLoop w172 l162 Rc161 .busy none)) ⟨Array.size (World.heap (V.setLoop w157 l147 Rc146 .busy none)), 0, none⟩ = some (Value.int .i64 n192) ∧
  ∃ w193, Sem.run Tryd.prog (Instr.storeAt 3 (Value.pointer (some ⟨Array.size (World.heap (V.setLoop w157 l147 Rc146 .busy none)), 0, none⟩)) (Value.int .i64 (IntKind.wrap .i64 (n192 + 1)))) (World.drew (V.setLoop w172 l162 Rc161 .busy none)) = .ok () w193 ∧
  V.LoopSt w193 l162 Rc161 .busy none ∧ R165 (Ending.returned (Value.bool true)) (V.setLoop w193 l162 Rc161 .ready none)))))) →
  V.Yield Tryd.prog l162 [(Value.agg #[(Value.string y124_166), (Value.string y124_167), (Value.string y124_168), (Value.bool y124_169), (Value.bool y124_170)])] W164 R165) →
  Calls Tryd.prog f160 ⟨Array.toList f160a ++ [(Value.func (.yield l162) #[] #[])] ++ Array.toList f160c⟩ w163 fun e194 w196 => (∃ v195, e194 = Ending.returned v195) ∧
  ((V.LoopSt w196 l162 Rc161 .ready none ∧
  ∃ n197, World.cell? (V.setLoop w196 l162 Rc161 .exhausted none) ⟨Array.size (World.heap w57), 0, none⟩ = some (Value.int .i64 n197) ∧
  ∃ A198, ∃ A198l, ∃ A198c, World.cell? (V.setLoop w196 l162 Rc161 .exhausted none) ⟨Array.size (World.heap w19), 0, none⟩ = some (Value.slice A198 A198l A198c) ∧
  V.sel (decide (n197 ≥ ((A198l : Nat) : Int)))
  (∃ w199, Sem.run Tryd.prog (Instr.storeAt 4 (Value.pointer (some ⟨Array.size (World.heap w4), 0, none⟩)) (Value.bool false)) (World.drew (V.setLoop w196 l162 Rc161 .exhausted none)) = .ok () w199 ∧
  V.LoopSt w199 l147 Rc146 .busy none ∧ R150 (Ending.returned (Value.bool false)) (V.setLoop w199 l147 Rc146 .done (some Code.ret)))
  (∃ s200, ∃ s201, ∃ s202, ∃ b203, ∃ b204, V.cellsC (fun a_ x_ => World.cell? (V.setLoop w196 l162 Rc161 .exhausted none) a_ = some x_) ⟨Array.size (World.heap W149), 0, none⟩ [(Value.string s200), (Value.string s201), (Value.string s202), (Value.bool b203), (Value.bool b204)] ∧
  ∃ A205, ∃ A205l, ∃ A205c, World.cell? (V.setLoop w196 l162 Rc161 .exhausted none) ⟨Array.size (World.heap w19), 0, none⟩ = some (Value.slice A205 A205l A205c) ∧
  ∃ n206, World.cell? (V.setLoop w196 l162 Rc161 .exhausted none) ⟨Array.size (World.heap w57), 0, none⟩ = some (Value.int .i64 n206) ∧
  V.when (decide ((0 : Int) ≤ n206 ∧ (n206 : Int) < ((A205l : Nat) : Int))) (V.ptr A205 fun a207 =>
  ∃ s208, ∃ s209, ∃ s210, ∃ b211, ∃ b212, V.cellsC (fun a_ x_ => World.cell? (V.setLoop w196 l162 Rc161 .exhausted none) a_ = some x_) (Addr.add a207 ((Int.toNat n206) * 5)) [(Value.string s208), (Value.string s209), (Value.string s210), (Value.bool b211), (Value.bool b212)] ∧
  V.sel (!((ByteArray.toList s200 == ByteArray.toList s208) && ((ByteArray.toList s201 == ByteArray.toList s209) && ((ByteArray.toList s202 == ByteArray.toList s210) && ((b203 == b211) && ((b204 == b212) && true))))))
  (∃ w213, Sem.run Tryd.prog (Instr.storeAt 4 (Value.pointer (some ⟨Array.size (World.heap w4), 0, none⟩)) (Value.bool false)) (World.drew (V.setLoop w196 l162 Rc161 .exhausted none)) = .ok () w213 ∧
  V.LoopSt w213 l147 Rc146 .busy none ∧ R150 (Ending.returned (Value.bool false)) (V.setLoop w213 l147 Rc146 .done (some Code.ret)))
  (∃ n214, World.cell? (World.drew (V.setLoop w196 l162 Rc161 .exhausted none)) ⟨Array.size (World.heap w57), 0, none⟩ = some (Value.int .i64 n214) ∧
  ∃ w215, Sem.run Tryd.prog (Instr.storeAt 3 (Value.pointer (some ⟨Array.size (World.heap w57), 0, none⟩)) (Value.int .i64 (IntKind.wrap .i64 (n214 + 1)))) (World.drew (V.setLoop w196 l162 Rc161 .exhausted none)) = .ok () w215 ∧
  V.LoopSt w215 l147 Rc146 .busy none ∧ R150 (Ending.returned (Value.bool true)) (V.setLoop w215 l147 Rc146 .ready none))))) ∨
  (V.LoopSt w196 l162 Rc161 .done (some Code.ret) ∧
  V.LoopSt (V.setLoop w196 l162 Rc161 .exhausted (some Code.ret)) l147 Rc146 .busy none ∧ R150 (Ending.returned (Value.bool false)) (V.setLoop (V.setLoop w196 l162 Rc161 .exhausted (some Code.ret)) l147 Rc146 .done (some Code.ret))) ∨
  (V.LoopSt w196 l162 Rc161 .done (some (Code.exit 10)) ∧
  ∃ n216, World.cell? (V.setLoop w196 l162 Rc161 .exhausted (some (Code.exit 10))) ⟨Array.size (World.heap w57), 0, none⟩ = some (Value.int .i64 n216) ∧
  ∃ A217, ∃ A217l, ∃ A217c, World.cell? (V.setLoop w196 l162 Rc161 .exhausted (some (Code.exit 10))) ⟨Array.size (World.heap w19), 0, none⟩ = some (Value.slice A217 A217l A217c) ∧
  V.sel (decide (n216 ≥ ((A217l : Nat) : Int)))
  (∃ w218, Sem.run Tryd.prog (Instr.storeAt 4 (Value.pointer (some ⟨Array.size (World.heap w4), 0, none⟩)) (Value.bool false)) (World.drew (V.setLoop w196 l162 Rc161 .exhausted (some (Code.exit 10)))) = .ok () w218 ∧
  V.LoopSt w218 l147 Rc146 .busy none ∧ R150 (Ending.returned (Value.bool false)) (V.setLoop w218 l147 Rc146 .done (some Code.ret)))
  (∃ s219, ∃ s220, ∃ s221, ∃ b222, ∃ b223, V.cellsC (fun a_ x_ => World.cell? (V.setLoop w196 l162 Rc161 .exhausted (some (Code.exit 10))) a_ = some x_) ⟨Array.size (World.heap W149), 0, none⟩ [(Value.string s219), (Value.string s220), (Value.string s221), (Value.bool b222), (Value.bool b223)] ∧
  ∃ A224, ∃ A224l, ∃ A224c, World.cell? (V.setLoop w196 l162 Rc161 .exhausted (some (Code.exit 10))) ⟨Array.size (World.heap w19), 0, none⟩ = some (Value.slice A224 A224l A224c) ∧
  ∃ n225, World.cell? (V.setLoop w196 l162 Rc161 .exhausted (some (Code.exit 10))) ⟨Array.size (World.heap w57), 0, none⟩ = some (Value.int .i64 n225) ∧
  V.when (decide ((0 : Int) ≤ n225 ∧ (n225 : Int) < ((A224l : Nat) : Int))) (V.ptr A224 fun a226 =>
  ∃ s227, ∃ s228, ∃ s229, ∃ b230, ∃ b231, V.cellsC (fun a_ x_ => World.cell? (V.setLoop w196 l162 Rc161 .exhausted (some (Code.exit 10))) a_ = some x_) (Addr.add a226 ((Int.toNat n225) * 5)) [(Value.string s227), (Value.string s228), (Value.string s229), (Value.bool b230), (Value.bool b231)] ∧
  V.sel (!((ByteArray.toList s219 == ByteArray.toList s227) && ((ByteArray.toList s220 == ByteArray.toList s228) && ((ByteArray.toList s221 == ByteArray.toList s229) && ((b222 == b230) && ((b223 == b231) && true))))))
  (∃ w232, Sem.run Tryd.prog (Instr.storeAt 4 (Value.pointer (some ⟨Array.size (World.heap w4), 0, none⟩)) (Value.bool false)) (World.drew (V.setLoop w196 l162 Rc161 .exhausted (some (Code.exit 10)))) = .ok () w232 ∧
  V.LoopSt w232 l147 Rc146 .busy none ∧ R150 (Ending.returned (Value.bool false)) (V.setLoop w232 l147 Rc146 .done (some Code.ret)))
  (∃ n233, World.cell? (World.drew (V.setLoop w196 l162 Rc161 .exhausted (some (Code.exit 10)))) ⟨Array.size (World.heap w57), 0, none⟩ = some (Value.int .i64 n233) ∧
  ∃ w234, Sem.run Tryd.prog (Instr.storeAt 3 (Value.pointer (some ⟨Array.size (World.heap w57), 0, none⟩)) (Value.int .i64 (IntKind.wrap .i64 (n233 + 1)))) (World.drew (V.setLoop w196 l162 Rc161 .exhausted (some (Code.exit 10)))) = .ok () w234 ∧
  V.LoopSt w234 l147 Rc146 .busy none ∧ R150 (Ending.returned (Value.bool true)) (V.setLoop w234 l147 Rc146 .ready none))))) ∨
  False))) →
  V.Yield Tryd.prog l147 [(Value.agg #[(Value.string y122_151), (Value.string y122_152), (Value.string y122_153), (Value.bool y122_154), (Value.bool y122_155)])] W149 R150) →
  Calls Tryd.prog f145 ⟨Array.toList f145a ++ [(Value.func (.yield l147) #[] #[])] ++ Array.toList f145c⟩ w148 fun e235 w237 => (∃ v236, e235 = Ending.returned v236) ∧
  ((V.LoopSt w237 l147 Rc146 .ready none ∧
  ∃ n238, World.cell? (V.setLoop w237 l147 Rc146 .exhausted none) ⟨Array.size (World.heap w57), 0, none⟩ = some (Value.int .i64 n238) ∧
  ∃ A239, ∃ A239l, ∃ A239c, World.cell? (V.setLoop w237 l147 Rc146 .exhausted none) ⟨Array.size (World.heap w19), 0, none⟩ = some (Value.slice A239 A239l A239c) ∧
  V.sel (n238 == ((A239l : Nat) : Int))
  (Calls Tryd.prog 10 #[(Value.slice now_2 now_2l now_2c), (Value.slice was_1 was_1l was_1c)] (V.setLoop w237 l147 Rc146 .exhausted none) fun e241 w242 =>
  ∃ A240, ∃ A240l, ∃ A240c, e241 = Ending.returned (Value.slice A240 A240l A240c) ∧
  Calls Tryd.prog 15 #[(Value.slice A105 A105l A105c), (Value.slice A240 A240l A240c)] w242 fun e244 w245 =>
  ∃ b243, e244 = Ending.returned (Value.bool b243) ∧
  ∃ w246, Sem.run Tryd.prog (Instr.storeAt 4 (Value.pointer (some ⟨Array.size (World.heap w4), 0, none⟩)) (Value.bool b243)) w245 = .ok () w246 ∧
  V.closeR (Array.size (World.heap w144) :: (Array.size (World.heap w108) :: (Array.size (World.heap w61) :: []))) w246 fun w247 =>
  ∃ b248, World.cell? w247 ⟨Array.size (World.heap w4), 0, none⟩ = some (Value.bool b248) ∧
  R (Ending.returned (Value.bool b248)) w247)
  (∃ w249, Sem.run Tryd.prog (Instr.storeAt 4 (Value.pointer (some ⟨Array.size (World.heap w4), 0, none⟩)) (Value.bool false)) (V.setLoop w237 l147 Rc146 .exhausted none) = .ok () w249 ∧
  V.closeR (Array.size (World.heap w144) :: (Array.size (World.heap w108) :: (Array.size (World.heap w61) :: []))) w249 fun w250 =>
  ∃ b251, World.cell? w250 ⟨Array.size (World.heap w4), 0, none⟩ = some (Value.bool b251) ∧
  R (Ending.returned (Value.bool b251)) w250)) ∨
  (V.LoopSt w237 l147 Rc146 .done (some Code.ret) ∧
  V.closeR (Array.size (World.heap w144) :: (Array.size (World.heap w108) :: (Array.size (World.heap w61) :: []))) (V.setLoop w237 l147 Rc146 .exhausted (some Code.ret)) fun w252 =>
  ∃ b253, World.cell? w252 ⟨Array.size (World.heap w4), 0, none⟩ = some (Value.bool b253) ∧
  R (Ending.returned (Value.bool b253)) w252) ∨
  False))) ∨
  (V.LoopSt w143 l111 Rc110 .done (some Code.ret) ∧
  V.closeR (Array.size (World.heap w108) :: (Array.size (World.heap w61) :: [])) (V.setLoop w143 l111 Rc110 .exhausted (some Code.ret)) fun w254 =>
  ∃ b255, World.cell? w254 ⟨Array.size (World.heap w4), 0, none⟩ = some (Value.bool b255) ∧
  R (Ending.returned (Value.bool b255)) w254) ∨
  False))) ∨
  (V.LoopSt w98 l64 Rc63 .done (some Code.ret) ∧
  V.closeR (Array.size (World.heap w61) :: []) (V.setLoop w98 l64 Rc63 .exhausted (some Code.ret)) fun w256 =>
  ∃ b257, World.cell? w256 ⟨Array.size (World.heap w4), 0, none⟩ = some (Value.bool b257) ∧
  R (Ending.returned (Value.bool b257)) w256) ∨
  (V.LoopSt w98 l64 Rc63 .done (some (Code.exit 4)) ∧
  Calls Tryd.prog 14 #[(Value.slice now_2 now_2l now_2c)] (V.setLoop w98 l64 Rc63 .exhausted (some (Code.exit 4))) fun e259 w260 =>
  ∃ A258, ∃ A258l, ∃ A258c, e259 = Ending.returned (Value.slice A258 A258l A258c) ∧
  Calls Tryd.prog 14 #[(Value.slice was_1 was_1l was_1c)] w260 fun e262 w263 =>
  ∃ A261, ∃ A261l, ∃ A261c, e262 = Ending.returned (Value.slice A261 A261l A261c) ∧
  Calls Tryd.prog 9 #[(Value.slice A258 A258l A258c), (Value.slice A261 A261l A261c)] w263 fun e265 w266 =>
  ∃ A264, ∃ A264l, ∃ A264c, e265 = Ending.returned (Value.slice A264 A264l A264c) ∧
  ∃ w267, Sem.run Tryd.prog (Instr.storeAt 3 (Value.pointer (some ⟨Array.size (World.heap w57), 0, none⟩)) (Value.int .i64 0)) w266 = .ok () w267 ∧
  ∃ f268, ∃ f268a, ∃ f268c, World.cell? w267 ⟨Array.size (World.heap w32), 0, none⟩ = some (Value.func (.func f268) f268a f268c) ∧
  V.when (V.hasB Tryd.prog f268 && true) (∀ (Rc269 : Loop) (l270 : Nat) (w271 : World), l270 = Array.size (World.heap w267) + 1 → w271 = World.alloc (World.alloc w267 (.deferred (some []))) (.loop { Rc269 with state := .ready, pending := none }) →
  (∀ y106_274 y106_275 y106_276 y106_277 y106_278 (W272 : World) (R273 : Ending → World → Prop), V.LoopSt W272 l270 Rc269 .ready none →
  (∀ w279, w279 = (World.alloc W272 (.cells #[(Value.string ByteArray.empty), (Value.string ByteArray.empty), (Value.string ByteArray.empty), (Value.bool false), (Value.bool false)] 35)) →
  ∃ w280, Sem.run Tryd.prog (Instr.storeAt 35 (Value.pointer (some ⟨Array.size (World.heap W272), 0, none⟩)) (Value.agg #[(Value.string y106_274), (Value.string y106_275), (Value.string y106_276), (Value.bool y106_277), (Value.bool y106_278)])) w279 = .ok () w280 ∧
  V.LoopSt w280 l270 Rc269 .ready none ∧
  ∃ n281, World.cell? (V.setLoop w280 l270 Rc269 .busy none) ⟨Array.size (World.heap w57), 0, none⟩ = some (Value.int .i64 n281) ∧
  ∃ A282, ∃ A282l, ∃ A282c, World.cell? (V.setLoop w280 l270 Rc269 .busy none) ⟨Array.size (World.heap w19), 0, none⟩ = some (Value.slice A282 A282l A282c) ∧
  V.sel (decide (n281 ≥ ((A282l : Nat) : Int)))
  (∃ w283, Sem.run Tryd.prog (Instr.storeAt 4 (Value.pointer (some ⟨Array.size (World.heap w4), 0, none⟩)) (Value.bool false)) (World.drew (V.setLoop w280 l270 Rc269 .busy none)) = .ok () w283 ∧
  V.LoopSt w283 l270 Rc269 .busy none ∧ R273 (Ending.returned (Value.bool false)) (V.setLoop w283 l270 Rc269 .done (some Code.ret)))
  (∃ s284, ∃ s285, ∃ s286, ∃ b287, ∃ b288, V.cellsC (fun a_ x_ => World.cell? (V.setLoop w280 l270 Rc269 .busy none) a_ = some x_) ⟨Array.size (World.heap W272), 0, none⟩ [(Value.string s284), (Value.string s285), (Value.string s286), (Value.bool b287), (Value.bool b288)] ∧
  ∃ A289, ∃ A289l, ∃ A289c, World.cell? (V.setLoop w280 l270 Rc269 .busy none) ⟨Array.size (World.heap w19), 0, none⟩ = some (Value.slice A289 A289l A289c) ∧
  ∃ n290, World.cell? (V.setLoop w280 l270 Rc269 .busy none) ⟨Array.size (World.heap w57), 0, none⟩ = some (Value.int .i64 n290) ∧
  V.when (decide ((0 : Int) ≤ n290 ∧ (n290 : Int) < ((A289l : Nat) : Int))) (V.ptr A289 fun a291 =>
  ∃ s292, ∃ s293, ∃ s294, ∃ b295, ∃ b296, V.cellsC (fun a_ x_ => World.cell? (V.setLoop w280 l270 Rc269 .busy none) a_ = some x_) (Addr.add a291 ((Int.toNat n290) * 5)) [(Value.string s292), (Value.string s293), (Value.string s294), (Value.bool b295), (Value.bool b296)] ∧
  V.sel (!((ByteArray.toList s284 == ByteArray.toList s292) && ((ByteArray.toList s285 == ByteArray.toList s293) && ((ByteArray.toList s286 == ByteArray.toList s294) && ((b287 == b295) && ((b288 == b296) && true))))))
  (∃ w297, Sem.run Tryd.prog (Instr.storeAt 4 (Value.pointer (some ⟨Array.size (World.heap w4), 0, none⟩)) (Value.bool false)) (World.drew (V.setLoop w280 l270 Rc269 .busy none)) = .ok () w297 ∧
  V.LoopSt w297 l270 Rc269 .busy none ∧ R273 (Ending.returned (Value.bool false)) (V.setLoop w297 l270 Rc269 .done (some Code.ret)))
  (∃ n298, World.cell? (World.drew (V.setLoop w280 l270 Rc269 .busy none)) ⟨Array.size (World.heap w57), 0, none⟩ = some (Value.int .i64 n298) ∧
  ∃ w299, Sem.run Tryd.prog (Instr.storeAt 3 (Value.pointer (some ⟨Array.size (World.heap w57), 0, none⟩)) (Value.int .i64 (IntKind.wrap .i64 (n298 + 1)))) (World.drew (V.setLoop w280 l270 Rc269 .busy none)) = .ok () w299 ∧
  V.LoopSt w299 l270 Rc269 .busy none ∧ R273 (Ending.returned (Value.bool true)) (V.setLoop w299 l270 Rc269 .ready none))))) →
  V.Yield Tryd.prog l270 [(Value.agg #[(Value.string y106_274), (Value.string y106_275), (Value.string y106_276), (Value.bool y106_277), (Value.bool y106_278)])] W272 R273) →
  Calls Tryd.prog f268 ⟨Array.toList f268a ++ [(Value.func (.yield l270) #[] #[])] ++ Array.toList f268c⟩ w271 fun e300 w302 => (∃ v301, e300 = Ending.returned v301) ∧
  ((V.LoopSt w302 l270 Rc269 .ready none ∧
  ∃ w303, Sem.run Tryd.prog (Instr.storeAt 3 (Value.pointer (some ⟨Array.size (World.heap w57), 0, none⟩)) (Value.int .i64 0)) (V.setLoop w302 l270 Rc269 .exhausted none) = .ok () w303 ∧
  ∃ f304, ∃ f304a, ∃ f304c, World.cell? w303 ⟨Array.size (World.heap w32), 0, none⟩ = some (Value.func (.func f304) f304a f304c) ∧
  V.when (V.hasB Tryd.prog f304 && true) (∀ (Rc305 : Loop) (l306 : Nat) (w307 : World), l306 = Array.size (World.heap w303) + 1 → w307 = World.alloc (World.alloc w303 (.deferred (some []))) (.loop { Rc305 with state := .ready, pending := none }) →
  (∀ y122_310 y122_311 y122_312 y122_313 y122_314 (W308 : World) (R309 : Ending → World → Prop), V.LoopSt W308 l306 Rc305 .ready none →
  (∀ w315, w315 = (World.alloc W308 (.cells #[(Value.string ByteArray.empty), (Value.string ByteArray.empty), (Value.string ByteArray.empty), (Value.bool false), (Value.bool false)] 35)) →
  ∃ w316, Sem.run Tryd.prog (Instr.storeAt 35 (Value.pointer (some ⟨Array.size (World.heap W308), 0, none⟩)) (Value.agg #[(Value.string y122_310), (Value.string y122_311), (Value.string y122_312), (Value.bool y122_313), (Value.bool y122_314)])) w315 = .ok () w316 ∧
  V.LoopSt w316 l306 Rc305 .ready none ∧
  ∀ w317, w317 = (World.alloc (V.setLoop w316 l306 Rc305 .busy none) (.cells #[(Value.int .i64 0)] 3)) →
  ∃ w318, Sem.run Tryd.prog (Instr.storeAt 3 (Value.pointer (some ⟨Array.size (World.heap (V.setLoop w316 l306 Rc305 .busy none)), 0, none⟩)) (Value.int .i64 0)) w317 = .ok () w318 ∧
  ∃ f319, ∃ f319a, ∃ f319c, World.cell? w318 ⟨Array.size (World.heap w32), 0, none⟩ = some (Value.func (.func f319) f319a f319c) ∧
  V.when (V.hasB Tryd.prog f319 && true) ((∃ r0, (World.heap w318)[l306]? = some (.loop r0)) ∧
  ∀ (Rc320 : Loop) (l321 : Nat) (w322 : World), l321 = Array.size (World.heap w318) → w322 = World.alloc w318 (.loop { Rc320 with state := .ready, pending := none }) →
  (∀ y124_325 y124_326 y124_327 y124_328 y124_329 (W323 : World) (R324 : Ending → World → Prop), V.LoopSt W323 l321 Rc320 .ready none →
  (∀ w330, w330 = (World.alloc W323 (.cells #[(Value.string ByteArray.empty), (Value.string ByteArray.empty), (Value.string ByteArray.empty), (Value.bool false), (Value.bool false)] 35)) →
  ∃ w331, Sem.run Tryd.prog (Instr.storeAt 35 (Value.pointer (some ⟨Array.size (World.heap W323), 0, none⟩)) (Value.agg #[(Value.string y124_325), (Value.string y124_326), (Value.string y124_327), (Value.bool y124_328), (Value.bool y124_329)])) w330 = .ok () w331 ∧
  V.LoopSt w331 l321 Rc320 .ready none ∧
  ∃ n332, World.cell? (V.setLoop w331 l321 Rc320 .busy none) ⟨Array.size (World.heap (V.setLoop w316 l306 Rc305 .busy none)), 0, none⟩ = some (Value.int .i64 n332) ∧
  ∃ A333, ∃ A333l, ∃ A333c, World.cell? (V.setLoop w331 l321 Rc320 .busy none) ⟨Array.size (World.heap w19), 0, none⟩ = some (Value.slice A333 A333l A333c) ∧
  V.sel (decide (n332 ≥ ((A333l : Nat) : Int)))
  (∃ w334, Sem.run Tryd.prog (Instr.storeAt 4 (Value.pointer (some ⟨Array.size (World.heap w4), 0, none⟩)) (Value.bool false)) (World.drew (V.setLoop w331 l321 Rc320 .busy none)) = .ok () w334 ∧
  V.LoopSt w334 l321 Rc320 .busy none ∧ R324 (Ending.returned (Value.bool false)) (V.setLoop w334 l321 Rc320 .done (some Code.ret)))
  (∃ s335, ∃ s336, ∃ s337, ∃ b338, ∃ b339, V.cellsC (fun a_ x_ => World.cell? (V.setLoop w331 l321 Rc320 .busy none) a_ = some x_) ⟨Array.size (World.heap W323), 0, none⟩ [(Value.string s335), (Value.string s336), (Value.string s337), (Value.bool b338), (Value.bool b339)] ∧
  ∃ A340, ∃ A340l, ∃ A340c, World.cell? (V.setLoop w331 l321 Rc320 .busy none) ⟨Array.size (World.heap w19), 0, none⟩ = some (Value.slice A340 A340l A340c) ∧
  ∃ n341, World.cell? (V.setLoop w331 l321 Rc320 .busy none) ⟨Array.size (World.heap (V.setLoop w316 l306 Rc305 .busy none)), 0, none⟩ = some (Value.int .i64 n341) ∧
  V.when (decide ((0 : Int) ≤ n341 ∧ (n341 : Int) < ((A340l : Nat) : Int))) (V.ptr A340 fun a342 =>
  ∃ s343, ∃ s344, ∃ s345, ∃ b346, ∃ b347, V.cellsC (fun a_ x_ => World.cell? (V.setLoop w331 l321 Rc320 .busy none) a_ = some x_) (Addr.add a342 ((Int.toNat n341) * 5)) [(Value.string s343), (Value.string s344), (Value.string s345), (Value.bool b346), (Value.bool b347)] ∧
  V.sel (!((ByteArray.toList s335 == ByteArray.toList s343) && ((ByteArray.toList s336 == ByteArray.toList s344) && ((ByteArray.toList s337 == ByteArray.toList s345) && ((b338 == b346) && ((b339 == b347) && true))))))
  (∃ w348, Sem.run Tryd.prog (Instr.storeAt 4 (Value.pointer (some ⟨Array.size (World.heap w4), 0, none⟩)) (Value.bool false)) (World.drew (V.setLoop w331 l321 Rc320 .busy none)) = .ok () w348 ∧
  V.LoopSt w348 l321 Rc320 .busy none ∧ R324 (Ending.returned (Value.bool false)) (V.setLoop w348 l321 Rc320 .done (some Code.ret)))
  (∃ n349, World.cell? (World.drew (V.setLoop w331 l321 Rc320 .busy none)) ⟨Array.size (World.heap (V.setLoop w316 l306 Rc305 .busy none)), 0, none⟩ = some (Value.int .i64 n349) ∧
  ∃ n350, World.cell? (World.drew (V.setLoop w331 l321 Rc320 .busy none)) ⟨Array.size (World.heap w57), 0, none⟩ = some (Value.int .i64 n350) ∧
  V.sel (n349 == n350)
  (V.LoopSt (World.drew (V.setLoop w331 l321 Rc320 .busy none)) l321 Rc320 .busy none ∧ R324 (Ending.returned (Value.bool false)) (V.setLoop (World.drew (V.setLoop w331 l321 Rc320 .busy none)) l321 Rc320 .done (some (Code.exit 10))))
  (∃ n351, World.cell? (World.drew (V.setLoop w331 l321 Rc320 .busy none)) ⟨Array.size (World.heap (V.setLoop w316 l306 Rc305 .busy none)), 0, none⟩ = some (Value.int .i64 n351) ∧
  ∃ w352, Sem.run Tryd.prog (Instr.storeAt 3 (Value.pointer (some ⟨Array.size (World.heap (V.setLoop w316 l306 Rc305 .busy none)), 0, none⟩)) (Value.int .i64 (IntKind.wrap .i64 (n351 + 1)))) (World.drew (V.setLoop w331 l321 Rc320 .busy none)) = .ok () w352 ∧
  V.LoopSt w352 l321 Rc320 .busy none ∧ R324 (Ending.returned (Value.bool true)) (V.setLoop w352 l321 Rc320 .ready none)))))) →
  V.Yield Tryd.prog l321 [(Value.agg #[(Value.string y124_325), (Value.string y124_326), (Value.string y124_327), (Value.bool y124_328), (Value.bool y124_329)])] W323 R324) →
  Calls Tryd.prog f319 ⟨Array.toList f319a ++ [(Value.func (.yield l321) #[] #[])] ++ Array.toList f319c⟩ w322 fun e353 w355 => (∃ v354, e353 = Ending.returned v354) ∧
  ((V.LoopSt w355 l321 Rc320 .ready none ∧
  ∃ n356, World.cell? (V.setLoop w355 l321 Rc320 .exhausted none) ⟨Array.size (World.heap w57), 0, none⟩ = some (Value.int .i64 n356) ∧
  ∃ A357, ∃ A357l, ∃ A357c, World.cell? (V.setLoop w355 l321 Rc320 .exhausted none) ⟨Array.size (World.heap w19), 0, none⟩ = some (Value.slice A357 A357l A357c) ∧
  V.sel (decide (n356 ≥ ((A357l : Nat) : Int)))
  (∃ w358, Sem.run Tryd.prog (Instr.storeAt 4 (Value.pointer (some ⟨Array.size (World.heap w4), 0, none⟩)) (Value.bool false)) (World.drew (V.setLoop w355 l321 Rc320 .exhausted none)) = .ok () w358 ∧
  V.LoopSt w358 l306 Rc305 .busy none ∧ R309 (Ending.returned (Value.bool false)) (V.setLoop w358 l306 Rc305 .done (some Code.ret)))
  (∃ s359, ∃ s360, ∃ s361, ∃ b362, ∃ b363, V.cellsC (fun a_ x_ => World.cell? (V.setLoop w355 l321 Rc320 .exhausted none) a_ = some x_) ⟨Array.size (World.heap W308), 0, none⟩ [(Value.string s359), (Value.string s360), (Value.string s361), (Value.bool b362), (Value.bool b363)] ∧
  ∃ A364, ∃ A364l, ∃ A364c, World.cell? (V.setLoop w355 l321 Rc320 .exhausted none) ⟨Array.size (World.heap w19), 0, none⟩ = some (Value.slice A364 A364l A364c) ∧
  ∃ n365, World.cell? (V.setLoop w355 l321 Rc320 .exhausted none) ⟨Array.size (World.heap w57), 0, none⟩ = some (Value.int .i64 n365) ∧
  V.when (decide ((0 : Int) ≤ n365 ∧ (n365 : Int) < ((A364l : Nat) : Int))) (V.ptr A364 fun a366 =>
  ∃ s367, ∃ s368, ∃ s369, ∃ b370, ∃ b371, V.cellsC (fun a_ x_ => World.cell? (V.setLoop w355 l321 Rc320 .exhausted none) a_ = some x_) (Addr.add a366 ((Int.toNat n365) * 5)) [(Value.string s367), (Value.string s368), (Value.string s369), (Value.bool b370), (Value.bool b371)] ∧
  V.sel (!((ByteArray.toList s359 == ByteArray.toList s367) && ((ByteArray.toList s360 == ByteArray.toList s368) && ((ByteArray.toList s361 == ByteArray.toList s369) && ((b362 == b370) && ((b363 == b371) && true))))))
  (∃ w372, Sem.run Tryd.prog (Instr.storeAt 4 (Value.pointer (some ⟨Array.size (World.heap w4), 0, none⟩)) (Value.bool false)) (World.drew (V.setLoop w355 l321 Rc320 .exhausted none)) = .ok () w372 ∧
  V.LoopSt w372 l306 Rc305 .busy none ∧ R309 (Ending.returned (Value.bool false)) (V.setLoop w372 l306 Rc305 .done (some Code.ret)))
  (∃ n373, World.cell? (World.drew (V.setLoop w355 l321 Rc320 .exhausted none)) ⟨Array.size (World.heap w57), 0, none⟩ = some (Value.int .i64 n373) ∧
  ∃ w374, Sem.run Tryd.prog (Instr.storeAt 3 (Value.pointer (some ⟨Array.size (World.heap w57), 0, none⟩)) (Value.int .i64 (IntKind.wrap .i64 (n373 + 1)))) (World.drew (V.setLoop w355 l321 Rc320 .exhausted none)) = .ok () w374 ∧
  V.LoopSt w374 l306 Rc305 .busy none ∧ R309 (Ending.returned (Value.bool true)) (V.setLoop w374 l306 Rc305 .ready none))))) ∨
  (V.LoopSt w355 l321 Rc320 .done (some Code.ret) ∧
  V.LoopSt (V.setLoop w355 l321 Rc320 .exhausted (some Code.ret)) l306 Rc305 .busy none ∧ R309 (Ending.returned (Value.bool false)) (V.setLoop (V.setLoop w355 l321 Rc320 .exhausted (some Code.ret)) l306 Rc305 .done (some Code.ret))) ∨
  (V.LoopSt w355 l321 Rc320 .done (some (Code.exit 10)) ∧
  ∃ n375, World.cell? (V.setLoop w355 l321 Rc320 .exhausted (some (Code.exit 10))) ⟨Array.size (World.heap w57), 0, none⟩ = some (Value.int .i64 n375) ∧
  ∃ A376, ∃ A376l, ∃ A376c, World.cell? (V.setLoop w355 l321 Rc320 .exhausted (some (Code.exit 10))) ⟨Array.size (World.heap w19), 0, none⟩ = some (Value.slice A376 A376l A376c) ∧
  V.sel (decide (n375 ≥ ((A376l : Nat) : Int)))
  (∃ w377, Sem.run Tryd.prog (Instr.storeAt 4 (Value.pointer (some ⟨Array.size (World.heap w4), 0, none⟩)) (Value.bool false)) (World.drew (V.setLoop w355 l321 Rc320 .exhausted (some (Code.exit 10)))) = .ok () w377 ∧
  V.LoopSt w377 l306 Rc305 .busy none ∧ R309 (Ending.returned (Value.bool false)) (V.setLoop w377 l306 Rc305 .done (some Code.ret)))
  (∃ s378, ∃ s379, ∃ s380, ∃ b381, ∃ b382, V.cellsC (fun a_ x_ => World.cell? (V.setLoop w355 l321 Rc320 .exhausted (some (Code.exit 10))) a_ = some x_) ⟨Array.size (World.heap W308), 0, none⟩ [(Value.string s378), (Value.string s379), (Value.string s380), (Value.bool b381), (Value.bool b382)] ∧
  ∃ A383, ∃ A383l, ∃ A383c, World.cell? (V.setLoop w355 l321 Rc320 .exhausted (some (Code.exit 10))) ⟨Array.size (World.heap w19), 0, none⟩ = some (Value.slice A383 A383l A383c) ∧
  ∃ n384, World.cell? (V.setLoop w355 l321 Rc320 .exhausted (some (Code.exit 10))) ⟨Array.size (World.heap w57), 0, none⟩ = some (Value.int .i64 n384) ∧
  V.when (decide ((0 : Int) ≤ n384 ∧ (n384 : Int) < ((A383l : Nat) : Int))) (V.ptr A383 fun a385 =>
  ∃ s386, ∃ s387, ∃ s388, ∃ b389, ∃ b390, V.cellsC (fun a_ x_ => World.cell? (V.setLoop w355 l321 Rc320 .exhausted (some (Code.exit 10))) a_ = some x_) (Addr.add a385 ((Int.toNat n384) * 5)) [(Value.string s386), (Value.string s387), (Value.string s388), (Value.bool b389), (Value.bool b390)] ∧
  V.sel (!((ByteArray.toList s378 == ByteArray.toList s386) && ((ByteArray.toList s379 == ByteArray.toList s387) && ((ByteArray.toList s380 == ByteArray.toList s388) && ((b381 == b389) && ((b382 == b390) && true))))))
  (∃ w391, Sem.run Tryd.prog (Instr.storeAt 4 (Value.pointer (some ⟨Array.size (World.heap w4), 0, none⟩)) (Value.bool false)) (World.drew (V.setLoop w355 l321 Rc320 .exhausted (some (Code.exit 10)))) = .ok () w391 ∧
  V.LoopSt w391 l306 Rc305 .busy none ∧ R309 (Ending.returned (Value.bool false)) (V.setLoop w391 l306 Rc305 .done (some Code.ret)))
  (∃ n392, World.cell? (World.drew (V.setLoop w355 l321 Rc320 .exhausted (some (Code.exit 10)))) ⟨Array.size (World.heap w57), 0, none⟩ = some (Value.int .i64 n392) ∧
  ∃ w393, Sem.run Tryd.prog (Instr.storeAt 3 (Value.pointer (some ⟨Array.size (World.heap w57), 0, none⟩)) (Value.int .i64 (IntKind.wrap .i64 (n392 + 1)))) (World.drew (V.setLoop w355 l321 Rc320 .exhausted (some (Code.exit 10)))) = .ok () w393 ∧
  V.LoopSt w393 l306 Rc305 .busy none ∧ R309 (Ending.returned (Value.bool true)) (V.setLoop w393 l306 Rc305 .ready none))))) ∨
  False))) →
  V.Yield Tryd.prog l306 [(Value.agg #[(Value.string y122_310), (Value.string y122_311), (Value.string y122_312), (Value.bool y122_313), (Value.bool y122_314)])] W308 R309) →
  Calls Tryd.prog f304 ⟨Array.toList f304a ++ [(Value.func (.yield l306) #[] #[])] ++ Array.toList f304c⟩ w307 fun e394 w396 => (∃ v395, e394 = Ending.returned v395) ∧
  ((V.LoopSt w396 l306 Rc305 .ready none ∧
  ∃ n397, World.cell? (V.setLoop w396 l306 Rc305 .exhausted none) ⟨Array.size (World.heap w57), 0, none⟩ = some (Value.int .i64 n397) ∧
  ∃ A398, ∃ A398l, ∃ A398c, World.cell? (V.setLoop w396 l306 Rc305 .exhausted none) ⟨Array.size (World.heap w19), 0, none⟩ = some (Value.slice A398 A398l A398c) ∧
  V.sel (n397 == ((A398l : Nat) : Int))
  (Calls Tryd.prog 10 #[(Value.slice now_2 now_2l now_2c), (Value.slice was_1 was_1l was_1c)] (V.setLoop w396 l306 Rc305 .exhausted none) fun e400 w401 =>
  ∃ A399, ∃ A399l, ∃ A399c, e400 = Ending.returned (Value.slice A399 A399l A399c) ∧
  Calls Tryd.prog 15 #[(Value.slice A264 A264l A264c), (Value.slice A399 A399l A399c)] w401 fun e403 w404 =>
  ∃ b402, e403 = Ending.returned (Value.bool b402) ∧
  ∃ w405, Sem.run Tryd.prog (Instr.storeAt 4 (Value.pointer (some ⟨Array.size (World.heap w4), 0, none⟩)) (Value.bool b402)) w404 = .ok () w405 ∧
  V.closeR (Array.size (World.heap w303) :: (Array.size (World.heap w267) :: (Array.size (World.heap w61) :: []))) w405 fun w406 =>
  ∃ b407, World.cell? w406 ⟨Array.size (World.heap w4), 0, none⟩ = some (Value.bool b407) ∧
  R (Ending.returned (Value.bool b407)) w406)
  (∃ w408, Sem.run Tryd.prog (Instr.storeAt 4 (Value.pointer (some ⟨Array.size (World.heap w4), 0, none⟩)) (Value.bool false)) (V.setLoop w396 l306 Rc305 .exhausted none) = .ok () w408 ∧
  V.closeR (Array.size (World.heap w303) :: (Array.size (World.heap w267) :: (Array.size (World.heap w61) :: []))) w408 fun w409 =>
  ∃ b410, World.cell? w409 ⟨Array.size (World.heap w4), 0, none⟩ = some (Value.bool b410) ∧
  R (Ending.returned (Value.bool b410)) w409)) ∨
  (V.LoopSt w396 l306 Rc305 .done (some Code.ret) ∧
  V.closeR (Array.size (World.heap w303) :: (Array.size (World.heap w267) :: (Array.size (World.heap w61) :: []))) (V.setLoop w396 l306 Rc305 .exhausted (some Code.ret)) fun w411 =>
  ∃ b412, World.cell? w411 ⟨Array.size (World.heap w4), 0, none⟩ = some (Value.bool b412) ∧
  R (Ending.returned (Value.bool b412)) w411) ∨
  False))) ∨
  (V.LoopSt w302 l270 Rc269 .done (some Code.ret) ∧
  V.closeR (Array.size (World.heap w267) :: (Array.size (World.heap w61) :: [])) (V.setLoop w302 l270 Rc269 .exhausted (some Code.ret)) fun w413 =>
  ∃ b414, World.cell? w413 ⟨Array.size (World.heap w4), 0, none⟩ = some (Value.bool b414) ∧
  R (Ending.returned (Value.bool b414)) w413) ∨
  False))) ∨
  False))))))))))) :
  Calls Tryd.prog 3 #[(Value.slice was_1 was_1l was_1c), (Value.slice now_2 now_2l now_2c), (Value.int .i64 stop_3)] w R :=
  V.calls_of_R ⟨V.assoc [(0, [13]), (1, [14])], V.assocP [(20, V.line [0, 1, 2, 3, 4, 5, 6, 7, 8, 9, 10, 11]), (28, V.line [0, 1, 2, 3, 4, 5, 6, 7, 8, 9, 10, 11]), (37, V.line [0, 1, 2, 3, 4, 5, 6, 7, 8, 9, 10, 11]), (41, V.line [0, 1, 2, 3, 4, 5, 6, 7, 8, 9, 10, 11])], V.assocC [], V.assocS [(2, [V.Sh.agg [.str, .str, .str, .bool, .bool]]), (3, [V.Sh.agg [.str, .str, .str, .bool, .bool]]), (4, [V.Sh.agg [.str, .str, .str, .bool, .bool]]), (5, [V.Sh.agg [.str, .str, .str, .bool, .bool]])], ⟨[], true⟩⟩ Tryd.func3 rfl (Eq.mp (by kernel_rfl) h)

theorem berthlaw03_LabelsRead_nf (text_1 : ByteArray) (more_2 : ByteArray) (w : World) (R : Ending → World → Prop) (h :
  Calls Tryd.prog 8 #[] w fun e4 w5 =>
  ∃ b3, e4 = Ending.returned (Value.bool b3) ∧
  V.sel (!b3)
  (R (Ending.returned (Value.bool false)) w5)
  (Calls Tryd.prog 16 #[(Value.string text_1)] w5 fun e9 w10 =>
  ∃ A6, ∃ A6l, ∃ A6c, ∃ n7, ∃ n8, e9 = Ending.returned (Value.tuple #[(Value.slice A6 A6l A6c), (Value.int .i64 n7), (Value.int .i64 n8)]) ∧
  V.sel (n8 == 0)
  (Calls Tryd.prog 14 #[(Value.slice A6 A6l A6c)] w10 fun e12 w13 =>
  ∃ A11, ∃ A11l, ∃ A11c, e12 = Ending.returned (Value.slice A11 A11l A11c) ∧
  Calls Tryd.prog 17 #[(Value.slice A11 A11l A11c)] w13 fun e16 w17 =>
  ∃ s14, ∃ n15, e16 = Ending.returned (Value.tuple #[(Value.string s14), (Value.int .i64 n15)]) ∧
  Calls Tryd.prog 16 #[(Value.string s14)] w17 fun e21 w22 =>
  ∃ A18, ∃ A18l, ∃ A18c, ∃ n19, ∃ n20, e21 = Ending.returned (Value.tuple #[(Value.slice A18 A18l A18c), (Value.int .i64 n19), (Value.int .i64 n20)]) ∧
  V.sel (n15 == 0)
  (V.sel (n7 == 0)
  (V.sel (((ByteArray.size s14 : Nat) : Int) == ((ByteArray.size text_1 : Nat) : Int))
  (V.sel (n20 == 0)
  (Calls Tryd.prog 18 #[(Value.slice A6 A6l A6c), (Value.slice A18 A18l A18c)] w22 fun e24 w25 =>
  ∃ b23, e24 = Ending.returned (Value.bool b23) ∧
  R (Ending.returned (Value.bool b23)) w25)
  (R (Ending.returned (Value.bool false)) w22))
  (R (Ending.returned (Value.bool false)) w22))
  (R (Ending.returned (Value.bool false)) w22))
  (R (Ending.returned (Value.bool false)) w22))
  (V.sel (((A6l : Nat) : Int) != 0)
  (R (Ending.returned (Value.bool false)) w10)
  (V.sel (decide (n7 < 0))
  (R (Ending.returned (Value.bool false)) w10)
  (V.sel (decide (n7 > ((ByteArray.size text_1 : Nat) : Int)))
  (R (Ending.returned (Value.bool false)) w10)
  (V.sel (decide (n7 > 0))
  (V.when (decide ((0 : Int) ≤ (IntKind.wrap .i64 (n7 - 1)) ∧ ((IntKind.wrap .i64 (n7 - 1)) : Int) < ((ByteArray.size text_1 : Nat) : Int))) (V.sel ((V.byteAt text_1 (IntKind.wrap .i64 (n7 - 1))) != 44)
  (R (Ending.returned (Value.bool false)) w10)
  (V.sel (n8 == 39)
  (V.sel (decide (((ByteArray.size text_1 : Nat) : Int) > 8192))
  (R (Ending.returned (Value.bool (n7 == 0))) w10)
  (R (Ending.returned (Value.bool false)) w10))
  (V.sel (decide ((IntKind.wrap .i64 ((IntKind.wrap .i64 (((ByteArray.size text_1 : Nat) : Int) + 1)) + ((ByteArray.size more_2 : Nat) : Int))) > 8192))
  (R (Ending.returned (Value.bool true)) w10)
  (V.when (decide (ByteArray.size text_1 + ByteArray.size ⟨#[44]⟩ ≤ 9223372036854775807)) (V.when (decide (ByteArray.size (text_1 ++ ⟨#[44]⟩) + ByteArray.size more_2 ≤ 9223372036854775807)) (Calls Tryd.prog 16 #[(Value.string ((text_1 ++ ⟨#[44]⟩) ++ more_2))] w10 fun e29 w30 =>
  ∃ A26, ∃ A26l, ∃ A26c, ∃ n27, ∃ n28, e29 = Ending.returned (Value.tuple #[(Value.slice A26 A26l A26c), (Value.int .i64 n27), (Value.int .i64 n28)]) ∧
  V.sel (n28 == n8)
  (R (Ending.returned (Value.bool (n27 == n7))) w30)
  (R (Ending.returned (Value.bool false)) w30))))))))
  (V.sel (n8 == 39)
  (V.sel (decide (((ByteArray.size text_1 : Nat) : Int) > 8192))
  (R (Ending.returned (Value.bool (n7 == 0))) w10)
  (R (Ending.returned (Value.bool false)) w10))
  (V.sel (decide ((IntKind.wrap .i64 ((IntKind.wrap .i64 (((ByteArray.size text_1 : Nat) : Int) + 1)) + ((ByteArray.size more_2 : Nat) : Int))) > 8192))
  (R (Ending.returned (Value.bool true)) w10)
  (V.when (decide (ByteArray.size text_1 + ByteArray.size ⟨#[44]⟩ ≤ 9223372036854775807)) (V.when (decide (ByteArray.size (text_1 ++ ⟨#[44]⟩) + ByteArray.size more_2 ≤ 9223372036854775807)) (Calls Tryd.prog 16 #[(Value.string ((text_1 ++ ⟨#[44]⟩) ++ more_2))] w10 fun e34 w35 =>
  ∃ A31, ∃ A31l, ∃ A31c, ∃ n32, ∃ n33, e34 = Ending.returned (Value.tuple #[(Value.slice A31 A31l A31c), (Value.int .i64 n32), (Value.int .i64 n33)]) ∧
  V.sel (n33 == n8)
  (R (Ending.returned (Value.bool (n32 == n7))) w35)
  (R (Ending.returned (Value.bool false)) w35)))))))))))) :
  Calls Tryd.prog 4 #[(Value.string text_1), (Value.string more_2)] w R :=
  V.calls_of_R ⟨V.assoc [], V.assocP [], V.assocC [], V.assocS [], ⟨[], true⟩⟩ Tryd.func4 rfl (Eq.mp (by kernel_rfl) h)

theorem berthlaw03_LabelsWay_nf (first_1 : Option Addr) (first_1l : Nat) (first_1c : Nat) (second_2 : Option Addr) (second_2l : Nat) (second_2c : Nat) (w : World) (R : Ending → World → Prop) (h :
  ∀ w3, w3 = (World.alloc w (.cells #[(Value.string ⟨#[97]⟩), (Value.string ⟨#[49]⟩)] 27)) →
  Calls Tryd.prog 9 #[(Value.slice (some ⟨Array.size (World.heap w), 0, none⟩) 1 1), (Value.slice none 0 0)] w3 fun e5 w6 =>
  ∃ A4, ∃ A4l, ∃ A4c, e5 = Ending.returned (Value.slice A4 A4l A4c) ∧
  V.sel (((A4l : Nat) : Int) != 1)
  (R (Ending.returned (Value.bool false)) w6)
  (V.when (decide ((0 : Int) ≤ 0 ∧ (0 : Int) < ((A4l : Nat) : Int))) (V.ptr A4 fun a7 =>
  ∃ s8, ∃ s9, ∃ s10, ∃ b11, ∃ b12, V.cellsC (fun a_ x_ => World.cell? w6 a_ = some x_) (Addr.add a7 0) [(Value.string s8), (Value.string s9), (Value.string s10), (Value.bool b11), (Value.bool b12)] ∧
  V.sel (!((ByteArray.toList s8 == ByteArray.toList ⟨#[97]⟩) && ((ByteArray.toList s9 == ByteArray.toList ⟨#[49]⟩) && ((ByteArray.toList s10 == ByteArray.toList ByteArray.empty) && ((b11 == true) && ((b12 == false) && true))))))
  (R (Ending.returned (Value.bool false)) w6)
  (Calls Tryd.prog 14 #[(Value.slice first_1 first_1l first_1c)] w6 fun e14 w15 =>
  ∃ A13, ∃ A13l, ∃ A13c, e14 = Ending.returned (Value.slice A13 A13l A13c) ∧
  Calls Tryd.prog 19 #[(Value.slice A13 A13l A13c)] w15 fun e19 w20 =>
  ∃ A16, ∃ A16l, ∃ A16c, ∃ s17, ∃ n18, e19 = Ending.returned (Value.tuple #[(Value.slice A16 A16l A16c), (Value.string s17), (Value.int .i64 n18)]) ∧
  Calls Tryd.prog 14 #[(Value.slice second_2 second_2l second_2c)] w20 fun e22 w23 =>
  ∃ A21, ∃ A21l, ∃ A21c, e22 = Ending.returned (Value.slice A21 A21l A21c) ∧
  Calls Tryd.prog 19 #[(Value.slice A21 A21l A21c)] w23 fun e27 w28 =>
  ∃ A24, ∃ A24l, ∃ A24c, ∃ s25, ∃ n26, e27 = Ending.returned (Value.tuple #[(Value.slice A24 A24l A24c), (Value.string s25), (Value.int .i64 n26)]) ∧
  V.sel (n18 != 0)
  (R (Ending.returned (Value.bool true)) w28)
  (V.sel (n26 != 0)
  (R (Ending.returned (Value.bool true)) w28)
  (Calls Tryd.prog 14 #[(Value.slice A16 A16l A16c)] w28 fun e30 w31 =>
  ∃ A29, ∃ A29l, ∃ A29c, e30 = Ending.returned (Value.slice A29 A29l A29c) ∧
  Calls Tryd.prog 14 #[(Value.slice A24 A24l A24c)] w31 fun e33 w34 =>
  ∃ A32, ∃ A32l, ∃ A32c, e33 = Ending.returned (Value.slice A32 A32l A32c) ∧
  Calls Tryd.prog 9 #[(Value.slice A29 A29l A29c), (Value.slice A32 A32l A32c)] w34 fun e36 w37 =>
  ∃ A35, ∃ A35l, ∃ A35c, e36 = Ending.returned (Value.slice A35 A35l A35c) ∧
  ∃ I38 : Int → World → Prop, ∃ μ39 : Int → World → Nat, I38 0 w37 ∧
  ∀ i_40 (j41 : Nat → Value) (w42 : World), I38 i_40 w42 →
  (V.sel (decide (i_40 < ((A35l : Nat) : Int)))
  (∃ S43 : World → Prop, S43 (World.drew w42) ∧
  V.when (decide ((0 : Int) ≤ i_40 ∧ (i_40 : Int) < ((A35l : Nat) : Int))) (V.ptr A35 fun a45 =>
  ∃ s46, (∀ w44, S43 w44 → World.cell? w44 (Addr.add (Addr.add a45 ((Int.toNat i_40) * 5)) 0) = some (Value.string s46)) ∧
  Calls Tryd.prog 14 #[(Value.slice A16 A16l A16c)] (World.drew w42) fun e48 w49 =>
  ∃ A47, ∃ A47l, ∃ A47c, e48 = Ending.returned (Value.slice A47 A47l A47c) ∧
  S43 w49 ∧
  Calls Tryd.prog 20 #[(Value.slice A47 A47l A47c), (Value.string s46)] w49 fun e52 w53 =>
  ∃ s50, ∃ b51, e52 = Ending.returned (Value.tuple #[(Value.string s50), (Value.bool b51)]) ∧
  S43 w53 ∧
  ∃ S54 : World → Prop, S54 (World.drew w53) ∧
  V.when (decide ((0 : Int) ≤ i_40 ∧ (i_40 : Int) < ((A35l : Nat) : Int))) (V.ptr A35 fun a56 =>
  ∃ s57, (∀ w55, S54 w55 → World.cell? w55 (Addr.add (Addr.add a56 ((Int.toNat i_40) * 5)) 0) = some (Value.string s57)) ∧
  Calls Tryd.prog 14 #[(Value.slice A24 A24l A24c)] (World.drew w53) fun e59 w60 =>
  ∃ A58, ∃ A58l, ∃ A58c, e59 = Ending.returned (Value.slice A58 A58l A58c) ∧
  S54 w60 ∧
  Calls Tryd.prog 20 #[(Value.slice A58 A58l A58c), (Value.string s57)] w60 fun e63 w64 =>
  ∃ s61, ∃ b62, e63 = Ending.returned (Value.tuple #[(Value.string s61), (Value.bool b62)]) ∧
  S54 w64 ∧
  V.when (decide ((0 : Int) ≤ i_40 ∧ (i_40 : Int) < ((A35l : Nat) : Int))) (V.ptr A35 fun a65 =>
  ∃ s66, World.cell? w64 (Addr.add (Addr.add a65 ((Int.toNat i_40) * 5)) 1) = some (Value.string s66) ∧
  V.sel (!(ByteArray.toList s66 == ByteArray.toList s50))
  (R (Ending.returned (Value.bool false)) (World.drew w64))
  (V.when (decide ((0 : Int) ≤ i_40 ∧ (i_40 : Int) < ((A35l : Nat) : Int))) (V.ptr A35 fun a67 =>
  ∃ b68, World.cell? w64 (Addr.add (Addr.add a67 ((Int.toNat i_40) * 5)) 3) = some (Value.bool b68) ∧
  V.sel (!(b68 == b51))
  (R (Ending.returned (Value.bool false)) (World.drew w64))
  (V.when (decide ((0 : Int) ≤ i_40 ∧ (i_40 : Int) < ((A35l : Nat) : Int))) (V.ptr A35 fun a69 =>
  ∃ s70, World.cell? w64 (Addr.add (Addr.add a69 ((Int.toNat i_40) * 5)) 2) = some (Value.string s70) ∧
  V.sel (!(ByteArray.toList s70 == ByteArray.toList s61))
  (R (Ending.returned (Value.bool false)) (World.drew w64))
  (V.when (decide ((0 : Int) ≤ i_40 ∧ (i_40 : Int) < ((A35l : Nat) : Int))) (V.ptr A35 fun a71 =>
  ∃ b72, World.cell? w64 (Addr.add (Addr.add a71 ((Int.toNat i_40) * 5)) 4) = some (Value.bool b72) ∧
  V.sel (!(b72 == b62))
  (R (Ending.returned (Value.bool false)) (World.drew w64))
  (V.sel (b51 == b62)
  (V.sel (ByteArray.toList s50 == ByteArray.toList s61)
  (R (Ending.returned (Value.bool false)) (World.drew w64))
  (V.sel (decide (i_40 > 0))
  (V.when (decide ((0 : Int) ≤ i_40 ∧ (i_40 : Int) < ((A35l : Nat) : Int))) (V.ptr A35 fun a73 =>
  ∃ s74, World.cell? w64 (Addr.add (Addr.add a73 ((Int.toNat i_40) * 5)) 0) = some (Value.string s74) ∧
  V.when (decide ((0 : Int) ≤ (IntKind.wrap .i64 (i_40 - 1)) ∧ ((IntKind.wrap .i64 (i_40 - 1)) : Int) < ((A35l : Nat) : Int))) (V.ptr A35 fun a75 =>
  ∃ s76, World.cell? w64 (Addr.add (Addr.add a75 ((Int.toNat (IntKind.wrap .i64 (i_40 - 1))) * 5)) 0) = some (Value.string s76) ∧
  V.sel ((Op.bytesLess (ByteArray.toList s74) (ByteArray.toList s76)) || (ByteArray.toList s74 == ByteArray.toList s76))
  (R (Ending.returned (Value.bool false)) (World.drew w64))
  (I38 (IntKind.wrap .i64 (i_40 + 1)) (World.drew w64) ∧ μ39 (IntKind.wrap .i64 (i_40 + 1)) (World.drew w64) < μ39 i_40 w42))))
  (I38 (IntKind.wrap .i64 (i_40 + 1)) (World.drew w64) ∧ μ39 (IntKind.wrap .i64 (i_40 + 1)) (World.drew w64) < μ39 i_40 w42)))
  (V.sel (decide (i_40 > 0))
  (V.when (decide ((0 : Int) ≤ i_40 ∧ (i_40 : Int) < ((A35l : Nat) : Int))) (V.ptr A35 fun a77 =>
  ∃ s78, World.cell? w64 (Addr.add (Addr.add a77 ((Int.toNat i_40) * 5)) 0) = some (Value.string s78) ∧
  V.when (decide ((0 : Int) ≤ (IntKind.wrap .i64 (i_40 - 1)) ∧ ((IntKind.wrap .i64 (i_40 - 1)) : Int) < ((A35l : Nat) : Int))) (V.ptr A35 fun a79 =>
  ∃ s80, World.cell? w64 (Addr.add (Addr.add a79 ((Int.toNat (IntKind.wrap .i64 (i_40 - 1))) * 5)) 0) = some (Value.string s80) ∧
  V.sel ((Op.bytesLess (ByteArray.toList s78) (ByteArray.toList s80)) || (ByteArray.toList s78 == ByteArray.toList s80))
  (R (Ending.returned (Value.bool false)) (World.drew w64))
  (I38 (IntKind.wrap .i64 (i_40 + 1)) (World.drew w64) ∧ μ39 (IntKind.wrap .i64 (i_40 + 1)) (World.drew w64) < μ39 i_40 w42))))
  (I38 (IntKind.wrap .i64 (i_40 + 1)) (World.drew w64) ∧ μ39 (IntKind.wrap .i64 (i_40 + 1)) (World.drew w64) < μ39 i_40 w42)))))))))))))
  (Calls Tryd.prog 14 #[(Value.slice A16 A16l A16c)] w42 fun e82 w83 =>
  ∃ A81, ∃ A81l, ∃ A81c, e82 = Ending.returned (Value.slice A81 A81l A81c) ∧
  ∀ w84, w84 = (World.alloc w83 (.cells #[] 35)) →
  ∃ A85, ∃ A85l, ∃ A85c, ∃ w86, Sem.run Tryd.prog (Builtin.append_ #[24, 24] 24 #[(Value.slice (some ⟨Array.size (World.heap w83), 0, none⟩) 0 0), (Value.slice A35 A35l A35c)]) w84 = .ok (Value.slice A85 A85l A85c) w86 ∧
  Calls Tryd.prog 21 #[(Value.slice A81 A81l A81c), (Value.slice A85 A85l A85c)] w86 fun e89 w90 =>
  ∃ A87, ∃ A87l, ∃ A87c, ∃ n88, e89 = Ending.returned (Value.tuple #[(Value.slice A87 A87l A87c), (Value.int .i64 n88)]) ∧
  Calls Tryd.prog 14 #[(Value.slice A24 A24l A24c)] w90 fun e92 w93 =>
  ∃ A91, ∃ A91l, ∃ A91c, e92 = Ending.returned (Value.slice A91 A91l A91c) ∧
  Calls Tryd.prog 22 #[(Value.slice A35 A35l A35c)] w93 fun e95 w96 =>
  ∃ A94, ∃ A94l, ∃ A94c, e95 = Ending.returned (Value.slice A94 A94l A94c) ∧
  Calls Tryd.prog 21 #[(Value.slice A91 A91l A91c), (Value.slice A94 A94l A94c)] w96 fun e99 w100 =>
  ∃ A97, ∃ A97l, ∃ A97c, ∃ n98, e99 = Ending.returned (Value.tuple #[(Value.slice A97 A97l A97c), (Value.int .i64 n98)]) ∧
  V.sel (n88 != 0)
  (R (Ending.returned (Value.bool false)) w100)
  (V.sel (n98 != 0)
  (R (Ending.returned (Value.bool false)) w100)
  (Calls Tryd.prog 18 #[(Value.slice A87 A87l A87c), (Value.slice A24 A24l A24c)] w100 fun e102 w103 =>
  ∃ b101, e102 = Ending.returned (Value.bool b101) ∧
  V.sel (!b101)
  (R (Ending.returned (Value.bool false)) w103)
  (Calls Tryd.prog 18 #[(Value.slice A97 A97l A97c), (Value.slice A16 A16l A16c)] w103 fun e105 w106 =>
  ∃ b104, e105 = Ending.returned (Value.bool b104) ∧
  V.sel (!b104)
  (R (Ending.returned (Value.bool false)) w106)
  (Calls Tryd.prog 14 #[(Value.slice A16 A16l A16c)] w106 fun e108 w109 =>
  ∃ A107, ∃ A107l, ∃ A107c, e108 = Ending.returned (Value.slice A107 A107l A107c) ∧
  Calls Tryd.prog 14 #[(Value.slice A16 A16l A16c)] w109 fun e111 w112 =>
  ∃ A110, ∃ A110l, ∃ A110c, e111 = Ending.returned (Value.slice A110 A110l A110c) ∧
  Calls Tryd.prog 9 #[(Value.slice A107 A107l A107c), (Value.slice A110 A110l A110c)] w112 fun e114 w115 =>
  ∃ A113, ∃ A113l, ∃ A113c, e114 = Ending.returned (Value.slice A113 A113l A113c) ∧
  V.sel (((A113l : Nat) : Int) != 0)
  (R (Ending.returned (Value.bool false)) w115)
  (Calls Tryd.prog 14 #[(Value.slice A24 A24l A24c)] w115 fun e117 w118 =>
  ∃ A116, ∃ A116l, ∃ A116c, e117 = Ending.returned (Value.slice A116 A116l A116c) ∧
  ∀ w119, w119 = (World.alloc w118 (.cells #[] 35)) →
  ∃ A120, ∃ A120l, ∃ A120c, ∃ w121, Sem.run Tryd.prog (Builtin.append_ #[24, 24] 24 #[(Value.slice (some ⟨Array.size (World.heap w118), 0, none⟩) 0 0), (Value.slice A35 A35l A35c)]) w119 = .ok (Value.slice A120 A120l A120c) w121 ∧
  Calls Tryd.prog 21 #[(Value.slice A116 A116l A116c), (Value.slice A120 A120l A120c)] w121 fun e124 w125 =>
  ∃ A122, ∃ A122l, ∃ A122c, ∃ n123, e124 = Ending.returned (Value.tuple #[(Value.slice A122 A122l A122c), (Value.int .i64 n123)]) ∧
  V.sel (((A35l : Nat) : Int) == 0)
  (V.sel (n123 == 0)
  (R (Ending.returned (Value.bool true)) w125)
  (R (Ending.returned (Value.bool (n123 == 38))) w125))
  (R (Ending.returned (Value.bool (n123 == 38))) w125)))))))))))))) :
  Calls Tryd.prog 5 #[(Value.slice first_1 first_1l first_1c), (Value.slice second_2 second_2l second_2c)] w R :=
  V.calls_of_R ⟨V.assoc [(0, [12])], V.assocP [(12, V.line [0, 2, 3, 4, 5, 6, 1, 7, 8, 9, 10, 11, 12]), (13, V.line [0, 2, 3, 4, 5, 6, 1, 7, 8, 9, 10, 11, 12]), (14, V.line [0, 1, 2, 3, 4, 5, 6, 7, 8, 9, 10, 11, 12, 13, 14, 15, 16, 17, 18, 19, 20, 21, 22, 23, 24, 25, 26, 27, 28, 29, 30, 31, 32, 33, 34, 35, 36, 37, 38, 39, 40, 41, 42, 43, 44, 45, 46, 47, 48, 49, 50, 51, 52, 53, 54, 55, 56, 57, 58, 59, 60, 61])], V.assocC [], V.assocS [], ⟨[], true⟩⟩ Tryd.func5 rfl (Eq.mp (by kernel_rfl) h)

theorem berthlaw03_LabelsMap_nf (list_1 : Option Addr) (list_1l : Nat) (list_1c : Nat) (first_2 : ByteArray) (first_3 : ByteArray) (next_4 : ByteArray) (next_5 : ByteArray) (w : World) (R : Ending → World → Prop) (h :
  ∀ w6, w6 = (World.alloc w (.cells #[(Value.string first_2), (Value.string first_3)] 27)) →
  ∀ w7, w7 = (World.alloc w6 (.cells #[(Value.string next_4), (Value.string next_5)] 27)) →
  Calls Tryd.prog 8 #[] w7 fun e9 w10 =>
  ∃ b8, e9 = Ending.returned (Value.bool b8) ∧
  V.sel (!b8)
  (R (Ending.returned (Value.bool false)) w10)
  (∃ s11, World.cell? w10 (Addr.add ⟨Array.size (World.heap w), 0, none⟩ 0) = some (Value.string s11) ∧
  ∃ s12, World.cell? w10 (Addr.add ⟨Array.size (World.heap w), 0, none⟩ 1) = some (Value.string s12) ∧
  ∃ s13, World.cell? w10 (Addr.add ⟨Array.size (World.heap w6), 0, none⟩ 0) = some (Value.string s13) ∧
  ∃ s14, World.cell? w10 (Addr.add ⟨Array.size (World.heap w6), 0, none⟩ 1) = some (Value.string s14) ∧
  Calls Tryd.prog 14 #[(Value.slice list_1 list_1l list_1c)] (World.drew w10) fun e16 w17 =>
  ∃ A15, ∃ A15l, ∃ A15c, e16 = Ending.returned (Value.slice A15 A15l A15c) ∧
  Calls Tryd.prog 19 #[(Value.slice A15 A15l A15c)] w17 fun e21 w22 =>
  ∃ A18, ∃ A18l, ∃ A18c, ∃ s19, ∃ n20, e21 = Ending.returned (Value.tuple #[(Value.slice A18 A18l A18c), (Value.string s19), (Value.int .i64 n20)]) ∧
  V.sel (n20 != 0)
  (R (Ending.returned (Value.bool (((A18l : Nat) : Int) == 0))) w22)
  (Calls Tryd.prog 14 #[(Value.slice A18 A18l A18c)] w22 fun e24 w25 =>
  ∃ A23, ∃ A23l, ∃ A23c, e24 = Ending.returned (Value.slice A23 A23l A23c) ∧
  Calls Tryd.prog 20 #[(Value.slice A23 A23l A23c), (Value.string s13)] w25 fun e28 w29 =>
  ∃ s26, ∃ b27, e28 = Ending.returned (Value.tuple #[(Value.string s26), (Value.bool b27)]) ∧
  Calls Tryd.prog 14 #[(Value.slice A18 A18l A18c)] w29 fun e31 w32 =>
  ∃ A30, ∃ A30l, ∃ A30c, e31 = Ending.returned (Value.slice A30 A30l A30c) ∧
  Calls Tryd.prog 23 #[(Value.slice A30 A30l A30c), (Value.string s11), (Value.string s12)] w32 fun e35 w36 =>
  ∃ A33, ∃ A33l, ∃ A33c, ∃ n34, e35 = Ending.returned (Value.tuple #[(Value.slice A33 A33l A33c), (Value.int .i64 n34)]) ∧
  V.sel (n34 != 0)
  (Calls Tryd.prog 14 #[(Value.slice A18 A18l A18c)] w36 fun e38 w39 =>
  ∃ A37, ∃ A37l, ∃ A37c, e38 = Ending.returned (Value.slice A37 A37l A37c) ∧
  Calls Tryd.prog 20 #[(Value.slice A37 A37l A37c), (Value.string s11)] w39 fun e42 w43 =>
  ∃ s40, ∃ b41, e42 = Ending.returned (Value.tuple #[(Value.string s40), (Value.bool b41)]) ∧
  V.sel (((A33l : Nat) : Int) == 0)
  (Calls Tryd.prog 24 #[(Value.string s11)] w43 fun e45 w46 =>
  ∃ b44, e45 = Ending.returned (Value.bool b44) ∧
  V.sel (!b44)
  (R (Ending.returned (Value.bool true)) w46)
  (Calls Tryd.prog 25 #[(Value.string s12)] w46 fun e48 w49 =>
  ∃ b47, e48 = Ending.returned (Value.bool b47) ∧
  V.sel (!b47)
  (R (Ending.returned (Value.bool true)) w49)
  (V.sel (!b41)
  (R (Ending.returned (Value.bool (((A18l : Nat) : Int) == 32))) w49)
  (R (Ending.returned (Value.bool false)) w49))))
  (R (Ending.returned (Value.bool false)) w43))
  (Calls Tryd.prog 14 #[(Value.slice A33 A33l A33c)] w36 fun e51 w52 =>
  ∃ A50, ∃ A50l, ∃ A50c, e51 = Ending.returned (Value.slice A50 A50l A50c) ∧
  Calls Tryd.prog 20 #[(Value.slice A50 A50l A50c), (Value.string s11)] w52 fun e55 w56 =>
  ∃ s53, ∃ b54, e55 = Ending.returned (Value.tuple #[(Value.string s53), (Value.bool b54)]) ∧
  Calls Tryd.prog 14 #[(Value.slice A33 A33l A33c)] w56 fun e58 w59 =>
  ∃ A57, ∃ A57l, ∃ A57c, e58 = Ending.returned (Value.slice A57 A57l A57c) ∧
  Calls Tryd.prog 20 #[(Value.slice A57 A57l A57c), (Value.string s13)] w59 fun e62 w63 =>
  ∃ s60, ∃ b61, e62 = Ending.returned (Value.tuple #[(Value.string s60), (Value.bool b61)]) ∧
  Calls Tryd.prog 14 #[(Value.slice A33 A33l A33c)] w63 fun e65 w66 =>
  ∃ A64, ∃ A64l, ∃ A64c, e65 = Ending.returned (Value.slice A64 A64l A64c) ∧
  Calls Tryd.prog 23 #[(Value.slice A64 A64l A64c), (Value.string s11), (Value.string s12)] w66 fun e69 w70 =>
  ∃ A67, ∃ A67l, ∃ A67c, ∃ n68, e69 = Ending.returned (Value.tuple #[(Value.slice A67 A67l A67c), (Value.int .i64 n68)]) ∧
  V.sel (!(ByteArray.toList s53 == ByteArray.toList s12))
  (R (Ending.returned (Value.bool false)) w70)
  (V.sel (!b54)
  (R (Ending.returned (Value.bool false)) w70)
  (V.sel (!(ByteArray.toList s13 == ByteArray.toList s11))
  (V.sel (!(ByteArray.toList s60 == ByteArray.toList s26))
  (R (Ending.returned (Value.bool false)) w70)
  (V.sel (!(b61 == b27))
  (R (Ending.returned (Value.bool false)) w70)
  (V.sel (n68 != 0)
  (R (Ending.returned (Value.bool false)) w70)
  (Calls Tryd.prog 18 #[(Value.slice A67 A67l A67c), (Value.slice A33 A33l A33c)] w70 fun e72 w73 =>
  ∃ b71, e72 = Ending.returned (Value.bool b71) ∧
  V.sel (!b71)
  (R (Ending.returned (Value.bool false)) w73)
  (Calls Tryd.prog 14 #[(Value.slice A33 A33l A33c)] w73 fun e75 w76 =>
  ∃ A74, ∃ A74l, ∃ A74c, e75 = Ending.returned (Value.slice A74 A74l A74c) ∧
  Calls Tryd.prog 26 #[(Value.slice A74 A74l A74c), (Value.string s11)] w76 fun e79 w80 =>
  ∃ A77, ∃ A77l, ∃ A77c, ∃ b78, e79 = Ending.returned (Value.tuple #[(Value.slice A77 A77l A77c), (Value.bool b78)]) ∧
  Calls Tryd.prog 14 #[(Value.slice A77 A77l A77c)] w80 fun e82 w83 =>
  ∃ A81, ∃ A81l, ∃ A81c, e82 = Ending.returned (Value.slice A81 A81l A81c) ∧
  Calls Tryd.prog 20 #[(Value.slice A81 A81l A81c), (Value.string s11)] w83 fun e86 w87 =>
  ∃ s84, ∃ b85, e86 = Ending.returned (Value.tuple #[(Value.string s84), (Value.bool b85)]) ∧
  V.sel (!b78)
  (R (Ending.returned (Value.bool false)) w87)
  (V.sel b85
  (R (Ending.returned (Value.bool false)) w87)
  (V.sel (((A77l : Nat) : Int) != (IntKind.wrap .i64 (((A33l : Nat) : Int) - 1)))
  (R (Ending.returned (Value.bool false)) w87)
  (Calls Tryd.prog 14 #[(Value.slice A33 A33l A33c)] w87 fun e89 w90 =>
  ∃ A88, ∃ A88l, ∃ A88c, e89 = Ending.returned (Value.slice A88 A88l A88c) ∧
  Calls Tryd.prog 23 #[(Value.slice A88 A88l A88c), (Value.string s13), (Value.string s14)] w90 fun e93 w94 =>
  ∃ A91, ∃ A91l, ∃ A91c, ∃ n92, e93 = Ending.returned (Value.tuple #[(Value.slice A91 A91l A91c), (Value.int .i64 n92)]) ∧
  Calls Tryd.prog 14 #[(Value.slice A18 A18l A18c)] w94 fun e96 w97 =>
  ∃ A95, ∃ A95l, ∃ A95c, e96 = Ending.returned (Value.slice A95 A95l A95c) ∧
  Calls Tryd.prog 23 #[(Value.slice A95 A95l A95c), (Value.string s13), (Value.string s14)] w97 fun e100 w101 =>
  ∃ A98, ∃ A98l, ∃ A98c, ∃ n99, e100 = Ending.returned (Value.tuple #[(Value.slice A98 A98l A98c), (Value.int .i64 n99)]) ∧
  V.sel (n92 != 0)
  (R (Ending.returned (Value.bool true)) w101)
  (V.sel (n99 != 0)
  (R (Ending.returned (Value.bool true)) w101)
  (V.sel (ByteArray.toList s13 == ByteArray.toList s11)
  (R (Ending.returned (Value.bool true)) w101)
  (Calls Tryd.prog 14 #[(Value.slice A98 A98l A98c)] w101 fun e103 w104 =>
  ∃ A102, ∃ A102l, ∃ A102c, e103 = Ending.returned (Value.slice A102 A102l A102c) ∧
  Calls Tryd.prog 23 #[(Value.slice A102 A102l A102c), (Value.string s11), (Value.string s12)] w104 fun e107 w108 =>
  ∃ A105, ∃ A105l, ∃ A105c, ∃ n106, e107 = Ending.returned (Value.tuple #[(Value.slice A105 A105l A105c), (Value.int .i64 n106)]) ∧
  V.sel (n106 == 0)
  (Calls Tryd.prog 18 #[(Value.slice A91 A91l A91c), (Value.slice A105 A105l A105c)] w108 fun e110 w111 =>
  ∃ b109, e110 = Ending.returned (Value.bool b109) ∧
  R (Ending.returned (Value.bool b109)) w111)
  (R (Ending.returned (Value.bool false)) w108))))))))))))
  (V.sel (n68 != 0)
  (R (Ending.returned (Value.bool false)) w70)
  (Calls Tryd.prog 18 #[(Value.slice A67 A67l A67c), (Value.slice A33 A33l A33c)] w70 fun e113 w114 =>
  ∃ b112, e113 = Ending.returned (Value.bool b112) ∧
  V.sel (!b112)
  (R (Ending.returned (Value.bool false)) w114)
  (Calls Tryd.prog 14 #[(Value.slice A33 A33l A33c)] w114 fun e116 w117 =>
  ∃ A115, ∃ A115l, ∃ A115c, e116 = Ending.returned (Value.slice A115 A115l A115c) ∧
  Calls Tryd.prog 26 #[(Value.slice A115 A115l A115c), (Value.string s11)] w117 fun e120 w121 =>
  ∃ A118, ∃ A118l, ∃ A118c, ∃ b119, e120 = Ending.returned (Value.tuple #[(Value.slice A118 A118l A118c), (Value.bool b119)]) ∧
  Calls Tryd.prog 14 #[(Value.slice A118 A118l A118c)] w121 fun e123 w124 =>
  ∃ A122, ∃ A122l, ∃ A122c, e123 = Ending.returned (Value.slice A122 A122l A122c) ∧
  Calls Tryd.prog 20 #[(Value.slice A122 A122l A122c), (Value.string s11)] w124 fun e127 w128 =>
  ∃ s125, ∃ b126, e127 = Ending.returned (Value.tuple #[(Value.string s125), (Value.bool b126)]) ∧
  V.sel (!b119)
  (R (Ending.returned (Value.bool false)) w128)
  (V.sel b126
  (R (Ending.returned (Value.bool false)) w128)
  (V.sel (((A118l : Nat) : Int) != (IntKind.wrap .i64 (((A33l : Nat) : Int) - 1)))
  (R (Ending.returned (Value.bool false)) w128)
  (Calls Tryd.prog 14 #[(Value.slice A33 A33l A33c)] w128 fun e130 w131 =>
  ∃ A129, ∃ A129l, ∃ A129c, e130 = Ending.returned (Value.slice A129 A129l A129c) ∧
  Calls Tryd.prog 23 #[(Value.slice A129 A129l A129c), (Value.string s13), (Value.string s14)] w131 fun e134 w135 =>
  ∃ A132, ∃ A132l, ∃ A132c, ∃ n133, e134 = Ending.returned (Value.tuple #[(Value.slice A132 A132l A132c), (Value.int .i64 n133)]) ∧
  Calls Tryd.prog 14 #[(Value.slice A18 A18l A18c)] w135 fun e137 w138 =>
  ∃ A136, ∃ A136l, ∃ A136c, e137 = Ending.returned (Value.slice A136 A136l A136c) ∧
  Calls Tryd.prog 23 #[(Value.slice A136 A136l A136c), (Value.string s13), (Value.string s14)] w138 fun e141 w142 =>
  ∃ A139, ∃ A139l, ∃ A139c, ∃ n140, e141 = Ending.returned (Value.tuple #[(Value.slice A139 A139l A139c), (Value.int .i64 n140)]) ∧
  V.sel (n133 != 0)
  (R (Ending.returned (Value.bool true)) w142)
  (V.sel (n140 != 0)
  (R (Ending.returned (Value.bool true)) w142)
  (V.sel (ByteArray.toList s13 == ByteArray.toList s11)
  (R (Ending.returned (Value.bool true)) w142)
  (Calls Tryd.prog 14 #[(Value.slice A139 A139l A139c)] w142 fun e144 w145 =>
  ∃ A143, ∃ A143l, ∃ A143c, e144 = Ending.returned (Value.slice A143 A143l A143c) ∧
  Calls Tryd.prog 23 #[(Value.slice A143 A143l A143c), (Value.string s11), (Value.string s12)] w145 fun e148 w149 =>
  ∃ A146, ∃ A146l, ∃ A146c, ∃ n147, e148 = Ending.returned (Value.tuple #[(Value.slice A146 A146l A146c), (Value.int .i64 n147)]) ∧
  V.sel (n147 == 0)
  (Calls Tryd.prog 18 #[(Value.slice A132 A132l A132c), (Value.slice A146 A146l A146c)] w149 fun e151 w152 =>
  ∃ b150, e151 = Ending.returned (Value.bool b150) ∧
  R (Ending.returned (Value.bool b150)) w152)
  (R (Ending.returned (Value.bool false)) w149)))))))))))))))) :
  Calls Tryd.prog 6 #[(Value.slice list_1 list_1l list_1c), (Value.agg #[(Value.string first_2), (Value.string first_3)]), (Value.agg #[(Value.string next_4), (Value.string next_5)])] w R :=
  V.calls_of_R ⟨V.assoc [], V.assocP [(3, V.line [0, 1, 2, 3, 4, 5, 6, 7, 8, 9, 10, 11])], V.assocC [], V.assocS [], ⟨[], true⟩⟩ Tryd.func6 rfl (Eq.mp (by kernel_rfl) h)

theorem berthlaw03_LabelsOrder_nf (list_1 : Option Addr) (list_1l : Nat) (list_1c : Nat) (w : World) (R : Ending → World → Prop) (h :
  Calls Tryd.prog 8 #[] w fun e3 w4 =>
  ∃ b2, e3 = Ending.returned (Value.bool b2) ∧
  V.sel (!b2)
  (R (Ending.returned (Value.bool false)) w4)
  (Calls Tryd.prog 14 #[(Value.slice list_1 list_1l list_1c)] w4 fun e6 w7 =>
  ∃ A5, ∃ A5l, ∃ A5c, e6 = Ending.returned (Value.slice A5 A5l A5c) ∧
  Calls Tryd.prog 19 #[(Value.slice A5 A5l A5c)] w7 fun e11 w12 =>
  ∃ A8, ∃ A8l, ∃ A8c, ∃ s9, ∃ n10, e11 = Ending.returned (Value.tuple #[(Value.slice A8 A8l A8c), (Value.string s9), (Value.int .i64 n10)]) ∧
  V.sel (n10 != 0)
  (V.sel (((A8l : Nat) : Int) == 0)
  (V.sel (ByteArray.toList s9 == ByteArray.toList ByteArray.empty)
  (R (Ending.returned (Value.bool true)) w12)
  (R (Ending.returned (Value.bool (decide (((list_1l : Nat) : Int) ≤ 32)))) w12))
  (R (Ending.returned (Value.bool false)) w12))
  (Calls Tryd.prog 14 #[(Value.slice A8 A8l A8c)] w12 fun e14 w15 =>
  ∃ A13, ∃ A13l, ∃ A13c, e14 = Ending.returned (Value.slice A13 A13l A13c) ∧
  Calls Tryd.prog 27 #[(Value.slice A13 A13l A13c)] w15 fun e18 w19 =>
  ∃ n16, ∃ n17, e18 = Ending.returned (Value.tuple #[(Value.int .i64 n16), (Value.int .i64 n17)]) ∧
  V.sel (((A8l : Nat) : Int) != ((list_1l : Nat) : Int))
  (R (Ending.returned (Value.bool false)) w19)
  (V.sel (decide (((A8l : Nat) : Int) > 32))
  (R (Ending.returned (Value.bool false)) w19)
  (V.sel (n17 != 0)
  (R (Ending.returned (Value.bool false)) w19)
  (V.sel (n16 != 0)
  (R (Ending.returned (Value.bool false)) w19)
  (V.sel (!(ByteArray.toList s9 == ByteArray.toList ByteArray.empty))
  (R (Ending.returned (Value.bool false)) w19)
  (∃ I20 : Option Addr → Nat → Nat → Int → World → Prop, ∃ μ21 : Option Addr → Nat → Nat → Int → World → Nat, I20 none 0 0 0 w19 ∧
  ∀ turned_22 turned_22l turned_22c i_23 (j24 : Nat → Value) (w25 : World), I20 turned_22 turned_22l turned_22c i_23 w25 →
  (V.sel (decide (i_23 < ((A8l : Nat) : Int)))
  (∃ S26 : World → Prop, S26 (World.drew w25) ∧
  V.sel (decide (i_23 > 0))
  (V.when (decide ((0 : Int) ≤ i_23 ∧ (i_23 : Int) < ((A8l : Nat) : Int))) (V.ptr A8 fun a28 =>
  ∃ s29, (∀ w27, S26 w27 → World.cell? w27 (Addr.add (Addr.add a28 ((Int.toNat i_23) * 2)) 0) = some (Value.string s29)) ∧
  V.when (decide ((0 : Int) ≤ (IntKind.wrap .i64 (i_23 - 1)) ∧ ((IntKind.wrap .i64 (i_23 - 1)) : Int) < ((A8l : Nat) : Int))) (V.ptr A8 fun a30 =>
  ∃ s31, (∀ w27, S26 w27 → World.cell? w27 (Addr.add (Addr.add a30 ((Int.toNat (IntKind.wrap .i64 (i_23 - 1))) * 2)) 0) = some (Value.string s31)) ∧
  V.sel ((Op.bytesLess (ByteArray.toList s29) (ByteArray.toList s31)) || (ByteArray.toList s29 == ByteArray.toList s31))
  (R (Ending.returned (Value.bool false)) (World.drew w25))
  (V.when (decide ((0 : Int) ≤ i_23 ∧ (i_23 : Int) < ((A8l : Nat) : Int))) (V.ptr A8 fun a32 =>
  ∃ s33, (∀ w27, S26 w27 → World.cell? w27 (Addr.add (Addr.add a32 ((Int.toNat i_23) * 2)) 0) = some (Value.string s33)) ∧
  Calls Tryd.prog 24 #[(Value.string s33)] (World.drew w25) fun e35 w36 =>
  ∃ b34, e35 = Ending.returned (Value.bool b34) ∧
  S26 w36 ∧
  V.sel (!b34)
  (R (Ending.returned (Value.bool false)) w36)
  (V.when (decide ((0 : Int) ≤ i_23 ∧ (i_23 : Int) < ((A8l : Nat) : Int))) (V.ptr A8 fun a37 =>
  ∃ s38, (∀ w27, S26 w27 → World.cell? w27 (Addr.add (Addr.add a37 ((Int.toNat i_23) * 2)) 1) = some (Value.string s38)) ∧
  Calls Tryd.prog 25 #[(Value.string s38)] w36 fun e40 w41 =>
  ∃ b39, e40 = Ending.returned (Value.bool b39) ∧
  S26 w41 ∧
  V.sel (!b39)
  (R (Ending.returned (Value.bool false)) w41)
  (∃ S42 : World → Prop, S42 (World.drew w41) ∧
  V.when (decide ((0 : Int) ≤ i_23 ∧ (i_23 : Int) < ((list_1l : Nat) : Int))) (V.ptr list_1 fun a44 =>
  ∃ s45, (∀ w43, S42 w43 → World.cell? w43 (Addr.add (Addr.add a44 ((Int.toNat i_23) * 2)) 0) = some (Value.string s45)) ∧
  Calls Tryd.prog 14 #[(Value.slice A8 A8l A8c)] (World.drew w41) fun e47 w48 =>
  ∃ A46, ∃ A46l, ∃ A46c, e47 = Ending.returned (Value.slice A46 A46l A46c) ∧
  S42 w48 ∧
  Calls Tryd.prog 20 #[(Value.slice A46 A46l A46c), (Value.string s45)] w48 fun e51 w52 =>
  ∃ s49, ∃ b50, e51 = Ending.returned (Value.tuple #[(Value.string s49), (Value.bool b50)]) ∧
  S42 w52 ∧
  V.sel (!b50)
  (R (Ending.returned (Value.bool false)) w52)
  (V.when (decide ((0 : Int) ≤ i_23 ∧ (i_23 : Int) < ((list_1l : Nat) : Int))) (V.ptr list_1 fun a53 =>
  ∃ s54, World.cell? w52 (Addr.add (Addr.add a53 ((Int.toNat i_23) * 2)) 1) = some (Value.string s54) ∧
  V.sel (!(ByteArray.toList s49 == ByteArray.toList s54))
  (R (Ending.returned (Value.bool false)) w52)
  (V.when (decide ((0 : Int) ≤ (IntKind.wrap .i64 ((IntKind.wrap .i64 (((A8l : Nat) : Int) - 1)) - i_23)) ∧ ((IntKind.wrap .i64 ((IntKind.wrap .i64 (((A8l : Nat) : Int) - 1)) - i_23)) : Int) < ((A8l : Nat) : Int))) (V.ptr A8 fun a55 =>
  ∃ s56, ∃ s57, V.cellsC (fun a_ x_ => World.cell? w52 a_ = some x_) (Addr.add a55 ((Int.toNat (IntKind.wrap .i64 ((IntKind.wrap .i64 (((A8l : Nat) : Int) - 1)) - i_23))) * 2)) [(Value.string s56), (Value.string s57)] ∧
  ∀ w58, w58 = (World.alloc w52 (.cells #[(Value.string s56), (Value.string s57)] 27)) →
  ∃ A59, ∃ A59l, ∃ A59c, ∃ w60, Sem.run Tryd.prog (Builtin.append_ #[22, 22] 22 #[(Value.slice turned_22 turned_22l turned_22c), (Value.slice (some ⟨Array.size (World.heap w52), 0, none⟩) 1 1)]) w58 = .ok (Value.slice A59 A59l A59c) w60 ∧
  I20 A59 A59l A59c (IntKind.wrap .i64 (i_23 + 1)) w60 ∧ μ21 A59 A59l A59c (IntKind.wrap .i64 (i_23 + 1)) w60 < μ21 turned_22 turned_22l turned_22c i_23 w25)))))))))))))
  (V.when (decide ((0 : Int) ≤ i_23 ∧ (i_23 : Int) < ((A8l : Nat) : Int))) (V.ptr A8 fun a61 =>
  ∃ s62, (∀ w27, S26 w27 → World.cell? w27 (Addr.add (Addr.add a61 ((Int.toNat i_23) * 2)) 0) = some (Value.string s62)) ∧
  Calls Tryd.prog 24 #[(Value.string s62)] (World.drew w25) fun e64 w65 =>
  ∃ b63, e64 = Ending.returned (Value.bool b63) ∧
  S26 w65 ∧
  V.sel (!b63)
  (R (Ending.returned (Value.bool false)) w65)
  (V.when (decide ((0 : Int) ≤ i_23 ∧ (i_23 : Int) < ((A8l : Nat) : Int))) (V.ptr A8 fun a66 =>
  ∃ s67, (∀ w27, S26 w27 → World.cell? w27 (Addr.add (Addr.add a66 ((Int.toNat i_23) * 2)) 1) = some (Value.string s67)) ∧
  Calls Tryd.prog 25 #[(Value.string s67)] w65 fun e69 w70 =>
  ∃ b68, e69 = Ending.returned (Value.bool b68) ∧
  S26 w70 ∧
  V.sel (!b68)
  (R (Ending.returned (Value.bool false)) w70)
  (∃ S71 : World → Prop, S71 (World.drew w70) ∧
  V.when (decide ((0 : Int) ≤ i_23 ∧ (i_23 : Int) < ((list_1l : Nat) : Int))) (V.ptr list_1 fun a73 =>
  ∃ s74, (∀ w72, S71 w72 → World.cell? w72 (Addr.add (Addr.add a73 ((Int.toNat i_23) * 2)) 0) = some (Value.string s74)) ∧
  Calls Tryd.prog 14 #[(Value.slice A8 A8l A8c)] (World.drew w70) fun e76 w77 =>
  ∃ A75, ∃ A75l, ∃ A75c, e76 = Ending.returned (Value.slice A75 A75l A75c) ∧
  S71 w77 ∧
  Calls Tryd.prog 20 #[(Value.slice A75 A75l A75c), (Value.string s74)] w77 fun e80 w81 =>
  ∃ s78, ∃ b79, e80 = Ending.returned (Value.tuple #[(Value.string s78), (Value.bool b79)]) ∧
  S71 w81 ∧
  V.sel (!b79)
  (R (Ending.returned (Value.bool false)) w81)
  (V.when (decide ((0 : Int) ≤ i_23 ∧ (i_23 : Int) < ((list_1l : Nat) : Int))) (V.ptr list_1 fun a82 =>
  ∃ s83, World.cell? w81 (Addr.add (Addr.add a82 ((Int.toNat i_23) * 2)) 1) = some (Value.string s83) ∧
  V.sel (!(ByteArray.toList s78 == ByteArray.toList s83))
  (R (Ending.returned (Value.bool false)) w81)
  (V.when (decide ((0 : Int) ≤ (IntKind.wrap .i64 ((IntKind.wrap .i64 (((A8l : Nat) : Int) - 1)) - i_23)) ∧ ((IntKind.wrap .i64 ((IntKind.wrap .i64 (((A8l : Nat) : Int) - 1)) - i_23)) : Int) < ((A8l : Nat) : Int))) (V.ptr A8 fun a84 =>
  ∃ s85, ∃ s86, V.cellsC (fun a_ x_ => World.cell? w81 a_ = some x_) (Addr.add a84 ((Int.toNat (IntKind.wrap .i64 ((IntKind.wrap .i64 (((A8l : Nat) : Int) - 1)) - i_23))) * 2)) [(Value.string s85), (Value.string s86)] ∧
  ∀ w87, w87 = (World.alloc w81 (.cells #[(Value.string s85), (Value.string s86)] 27)) →
  ∃ A88, ∃ A88l, ∃ A88c, ∃ w89, Sem.run Tryd.prog (Builtin.append_ #[22, 22] 22 #[(Value.slice turned_22 turned_22l turned_22c), (Value.slice (some ⟨Array.size (World.heap w81), 0, none⟩) 1 1)]) w87 = .ok (Value.slice A88 A88l A88c) w89 ∧
  I20 A88 A88l A88c (IntKind.wrap .i64 (i_23 + 1)) w89 ∧ μ21 A88 A88l A88c (IntKind.wrap .i64 (i_23 + 1)) w89 < μ21 turned_22 turned_22l turned_22c i_23 w25)))))))))))
  (Calls Tryd.prog 19 #[(Value.slice turned_22 turned_22l turned_22c)] w25 fun e93 w94 =>
  ∃ A90, ∃ A90l, ∃ A90c, ∃ s91, ∃ n92, e93 = Ending.returned (Value.tuple #[(Value.slice A90 A90l A90c), (Value.string s91), (Value.int .i64 n92)]) ∧
  Calls Tryd.prog 14 #[(Value.slice A8 A8l A8c)] w94 fun e96 w97 =>
  ∃ A95, ∃ A95l, ∃ A95c, e96 = Ending.returned (Value.slice A95 A95l A95c) ∧
  Calls Tryd.prog 17 #[(Value.slice A95 A95l A95c)] w97 fun e100 w101 =>
  ∃ s98, ∃ n99, e100 = Ending.returned (Value.tuple #[(Value.string s98), (Value.int .i64 n99)]) ∧
  Calls Tryd.prog 16 #[(Value.string s98)] w101 fun e105 w106 =>
  ∃ A102, ∃ A102l, ∃ A102c, ∃ n103, ∃ n104, e105 = Ending.returned (Value.tuple #[(Value.slice A102 A102l A102c), (Value.int .i64 n103), (Value.int .i64 n104)]) ∧
  V.sel (n92 == 0)
  (Calls Tryd.prog 18 #[(Value.slice A90 A90l A90c), (Value.slice A8 A8l A8c)] w106 fun e108 w109 =>
  ∃ b107, e108 = Ending.returned (Value.bool b107) ∧
  V.sel b107
  (V.sel (n99 == 0)
  (Calls Tryd.prog 28 #[(Value.slice A8 A8l A8c)] w109 fun e111 w112 =>
  ∃ s110, e111 = Ending.returned (Value.string s110) ∧
  V.sel (ByteArray.toList s98 == ByteArray.toList s110)
  (V.sel (n104 == 0)
  (V.sel (n103 == 0)
  (Calls Tryd.prog 18 #[(Value.slice A102 A102l A102c), (Value.slice A8 A8l A8c)] w112 fun e114 w115 =>
  ∃ b113, e114 = Ending.returned (Value.bool b113) ∧
  R (Ending.returned (Value.bool b113)) w115)
  (R (Ending.returned (Value.bool false)) w112))
  (R (Ending.returned (Value.bool false)) w112))
  (R (Ending.returned (Value.bool false)) w112))
  (R (Ending.returned (Value.bool false)) w109))
  (R (Ending.returned (Value.bool false)) w109))
  (R (Ending.returned (Value.bool false)) w106))))))))))) :
  Calls Tryd.prog 7 #[(Value.slice list_1 list_1l list_1c)] w R :=
  V.calls_of_R ⟨V.assoc [(0, [8, 9])], V.assocP [(13, V.line [0, 1, 2, 3, 4, 5, 6, 7, 8, 9, 10, 11, 12, 13, 14, 15, 16, 17, 18, 19, 20, 21, 22, 23, 24, 25, 26, 27, 28, 29, 30, 31, 32, 33]), (15, V.line [0, 2, 3, 4, 5, 6, 1, 7, 8, 9, 10, 11, 12])], V.assocC [], V.assocS [], ⟨[], true⟩⟩ Tryd.func7 rfl (Eq.mp (by kernel_rfl) h)

theorem berthlaw03_wakes_nf  (w : World) (R : Ending → World → Prop) (h :
  Calls Tryd.prog 16 #[(Value.string ⟨#[98, 61, 50, 44, 97, 61, 49]⟩)] w fun e4 w5 =>
  ∃ A1, ∃ A1l, ∃ A1c, ∃ n2, ∃ n3, e4 = Ending.returned (Value.tuple #[(Value.slice A1 A1l A1c), (Value.int .i64 n2), (Value.int .i64 n3)]) ∧
  Calls Tryd.prog 12 #[(Value.slice none 0 0), (Value.slice none 0 0)] w5 fun e7 w8 =>
  ∃ f6, ∃ f6a, ∃ f6c, e7 = Ending.returned (Value.func (.func f6) f6a f6c) ∧
  Calls Tryd.prog 12 #[(Value.slice A1 A1l A1c), (Value.slice none 0 0)] w8 fun e10 w11 =>
  ∃ f9, ∃ f9a, ∃ f9c, e10 = Ending.returned (Value.func (.func f9) f9a f9c) ∧
  V.sel (n3 == 0)
  (V.sel (n2 == 0)
  (V.sel (((A1l : Nat) : Int) == 2)
  (V.when (decide ((0 : Int) ≤ 0 ∧ (0 : Int) < ((A1l : Nat) : Int))) (V.ptr A1 fun a12 =>
  ∃ s13, ∃ s14, V.cellsC (fun a_ x_ => World.cell? w11 a_ = some x_) (Addr.add a12 0) [(Value.string s13), (Value.string s14)] ∧
  V.sel ((ByteArray.toList s13 == ByteArray.toList ⟨#[97]⟩) && ((ByteArray.toList s14 == ByteArray.toList ⟨#[49]⟩) && true))
  (V.when (decide ((0 : Int) ≤ 1 ∧ (1 : Int) < ((A1l : Nat) : Int))) (V.ptr A1 fun a15 =>
  ∃ s16, ∃ s17, V.cellsC (fun a_ x_ => World.cell? w11 a_ = some x_) (Addr.add a15 2) [(Value.string s16), (Value.string s17)] ∧
  R (Ending.returned (Value.bool ((ByteArray.toList s16 == ByteArray.toList ⟨#[98]⟩) && ((ByteArray.toList s17 == ByteArray.toList ⟨#[50]⟩) && true)))) w11))
  (R (Ending.returned (Value.bool false)) w11)))
  (R (Ending.returned (Value.bool false)) w11))
  (R (Ending.returned (Value.bool false)) w11))
  (R (Ending.returned (Value.bool false)) w11)) :
  Calls Tryd.prog 8 #[] w R :=
  V.calls_of_R ⟨V.assoc [], V.assocP [], V.assocC [], V.assocS [], ⟨[], true⟩⟩ Tryd.func8 rfl (Eq.mp (by kernel_rfl) h)

end Go.Proofs.YtcohengppaighaaDoor
