/- Normal forms of the program's functions, printed by a program of mine; the kernel checks each. -/
import Derived.Test.YtbaglnffgbnekaaProg
import Derived.Test.YtbaglnffgbnekaaV2
set_option linter.unusedVariables false
set_option maxRecDepth 100000
namespace Go.Proofs.Ytbaglnffgbnekaa
open Go

theorem berthlaw01_BitsetSnaps_nf (x_1 : Int) (x_2 : Option Addr) (x_2l : Nat) (x_2c : Nat) (x_3 : Option Addr) (x_3l : Nat) (x_3c : Nat) (x_4 : Option Addr) (x_4l : Nat) (x_4c : Nat) (w : World) (R : Ending → World → Prop) (h :
  ∀ w5, w5 = (World.alloc w (.cells #[(Value.int .i64 x_1), (Value.slice x_2 x_2l x_2c), (Value.slice x_3 x_3l x_3c), (Value.slice x_4 x_4l x_4c)] 27)) →
  ∀ w6, w6 = (World.alloc w5 (.cells #[(Value.bool false)] 4)) →
  Calls Try.prog 12 #[] w6 fun e8 w9 =>
  ∃ b7, e8 = Ending.returned (Value.bool b7) ∧
  V.sel (!b7)
  (∃ w10, Sem.run Try.prog (Instr.storeAt 4 (Value.pointer (some ⟨Array.size (World.heap w5), 0, none⟩)) (Value.bool false)) w9 = .ok () w10 ∧
  ∃ b11, World.cell? w10 ⟨Array.size (World.heap w5), 0, none⟩ = some (Value.bool b11) ∧
  R (Ending.returned (Value.bool b11)) w10)
  (∃ n12, World.cell? w9 (Addr.add ⟨Array.size (World.heap w), 0, none⟩ 0) = some (Value.int .i64 n12) ∧
  Calls Try.prog 13 #[(Value.int .i64 n12)] w9 fun e14 w15 =>
  ∃ b13, e14 = Ending.returned (Value.bool b13) ∧
  V.sel (!b13)
  (∃ w16, Sem.run Try.prog (Instr.storeAt 4 (Value.pointer (some ⟨Array.size (World.heap w5), 0, none⟩)) (Value.bool true)) w15 = .ok () w16 ∧
  ∃ b17, World.cell? w16 ⟨Array.size (World.heap w5), 0, none⟩ = some (Value.bool b17) ∧
  R (Ending.returned (Value.bool b17)) w16)
  (∃ n18, World.cell? w15 (Addr.add ⟨Array.size (World.heap w), 0, none⟩ 0) = some (Value.int .i64 n18) ∧
  ∃ A19, ∃ A19l, ∃ A19c, World.cell? w15 (Addr.add ⟨Array.size (World.heap w), 0, none⟩ 1) = some (Value.slice A19 A19l A19c) ∧
  Calls Try.prog 16 #[(Value.int .i64 n18), (Value.slice A19 A19l A19c)] w15 fun e21 w22 =>
  ∃ p20, e21 = Ending.returned (Value.pointer p20) ∧
  ∀ w23, w23 = (World.alloc w22 (.cells #[(Value.pointer none)] 30)) →
  ∃ w24, Sem.run Try.prog (Instr.storeAt 30 (Value.pointer (some ⟨Array.size (World.heap w22), 0, none⟩)) (Value.pointer p20)) w23 = .ok () w24 ∧
  ∃ p25, World.cell? w24 ⟨Array.size (World.heap w22), 0, none⟩ = some (Value.pointer p25) ∧
  V.sel (Option.isNone p25)
  (∃ w26, Sem.run Try.prog (Instr.storeAt 4 (Value.pointer (some ⟨Array.size (World.heap w5), 0, none⟩)) (Value.bool false)) w24 = .ok () w26 ∧
  ∃ b27, World.cell? w26 ⟨Array.size (World.heap w5), 0, none⟩ = some (Value.bool b27) ∧
  R (Ending.returned (Value.bool b27)) w26)
  (∃ p28, World.cell? w24 ⟨Array.size (World.heap w22), 0, none⟩ = some (Value.pointer p28) ∧
  Calls Try.prog 21 #[(Value.pointer p28)] w24 fun e30 w31 =>
  ∃ A29, ∃ A29l, ∃ A29c, e30 = Ending.returned (Value.slice A29 A29l A29c) ∧
  ∀ w32, w32 = (World.alloc w31 (.cells #[(Value.slice none 0 0)] 25)) →
  ∃ w33, Sem.run Try.prog (Instr.storeAt 25 (Value.pointer (some ⟨Array.size (World.heap w31), 0, none⟩)) (Value.slice A29 A29l A29c)) w32 = .ok () w33 ∧
  ∃ p34, World.cell? w33 ⟨Array.size (World.heap w22), 0, none⟩ = some (Value.pointer p34) ∧
  Calls Try.prog 40 #[(Value.pointer p34)] w33 fun e36 w37 =>
  ∃ f35, ∃ f35a, ∃ f35c, e36 = Ending.returned (Value.func (.func f35) f35a f35c) ∧
  ∀ w38, w38 = (World.alloc w37 (.cells #[(Value.int .i64 0)] 3)) →
  ∃ w39, Sem.run Try.prog (Instr.storeAt 3 (Value.pointer (some ⟨Array.size (World.heap w37), 0, none⟩)) (Value.int .i64 0)) w38 = .ok () w39 ∧
  V.when (V.hasB Try.prog f35 && true) (∀ (Rc40 : Loop) (l41 : Nat) (w42 : World), l41 = Array.size (World.heap w39) + 1 → w42 = World.alloc (World.alloc w39 (.deferred (some []))) (.loop { Rc40 with state := .ready, pending := none }) →
  (∀ y28_45 (W43 : World) (R44 : Ending → World → Prop), V.LoopSt W43 l41 Rc40 .ready none →
  (V.LoopSt W43 l41 Rc40 .ready none ∧
  ∃ n46, World.cell? (V.setLoop W43 l41 Rc40 .busy none) ⟨Array.size (World.heap w37), 0, none⟩ = some (Value.int .i64 n46) ∧
  ∃ A47, ∃ A47l, ∃ A47c, World.cell? (V.setLoop W43 l41 Rc40 .busy none) ⟨Array.size (World.heap w31), 0, none⟩ = some (Value.slice A47 A47l A47c) ∧
  V.sel (decide (n46 ≥ ((A47l : Nat) : Int)))
  (∃ w48, Sem.run Try.prog (Instr.storeAt 4 (Value.pointer (some ⟨Array.size (World.heap w5), 0, none⟩)) (Value.bool false)) (V.setLoop W43 l41 Rc40 .busy none) = .ok () w48 ∧
  V.LoopSt w48 l41 Rc40 .busy none ∧ R44 (Ending.returned (Value.bool false)) (V.setLoop w48 l41 Rc40 .done (some Code.ret)))
  (∃ A49, ∃ A49l, ∃ A49c, World.cell? (V.setLoop W43 l41 Rc40 .busy none) ⟨Array.size (World.heap w31), 0, none⟩ = some (Value.slice A49 A49l A49c) ∧
  ∃ n50, World.cell? (V.setLoop W43 l41 Rc40 .busy none) ⟨Array.size (World.heap w37), 0, none⟩ = some (Value.int .i64 n50) ∧
  V.when (decide ((0 : Int) ≤ n50 ∧ (n50 : Int) < ((A49l : Nat) : Int))) (V.ptr A49 fun a51 =>
  ∃ n52, World.cell? (V.setLoop W43 l41 Rc40 .busy none) (Addr.add a51 ((Int.toNat n50) * 1)) = some (Value.int .i64 n52) ∧
  V.sel (n52 != y28_45)
  (∃ w53, Sem.run Try.prog (Instr.storeAt 4 (Value.pointer (some ⟨Array.size (World.heap w5), 0, none⟩)) (Value.bool false)) (V.setLoop W43 l41 Rc40 .busy none) = .ok () w53 ∧
  V.LoopSt w53 l41 Rc40 .busy none ∧ R44 (Ending.returned (Value.bool false)) (V.setLoop w53 l41 Rc40 .done (some Code.ret)))
  (∃ n54, World.cell? (V.setLoop W43 l41 Rc40 .busy none) ⟨Array.size (World.heap w37), 0, none⟩ = some (Value.int .i64 n54) ∧
  ∃ A55, ∃ A55l, ∃ A55c, World.cell? (V.setLoop W43 l41 Rc40 .busy none) (Addr.add ⟨Array.size (World.heap w), 0, none⟩ 2) = some (Value.slice A55 A55l A55c) ∧
  V.sel (decide (n54 < ((A55l : Nat) : Int)))
  (∃ S56 : World → Prop, S56 (World.drew (V.setLoop W43 l41 Rc40 .busy none)) ∧
  ∃ p58, (∀ w57, S56 w57 → World.cell? w57 ⟨Array.size (World.heap w22), 0, none⟩ = some (Value.pointer p58)) ∧
  ∃ A59, ∃ A59l, ∃ A59c, (∀ w57, S56 w57 → World.cell? w57 (Addr.add ⟨Array.size (World.heap w), 0, none⟩ 2) = some (Value.slice A59 A59l A59c)) ∧
  ∃ n60, (∀ w57, S56 w57 → World.cell? w57 ⟨Array.size (World.heap w37), 0, none⟩ = some (Value.int .i64 n60)) ∧
  V.when (decide ((0 : Int) ≤ n60 ∧ (n60 : Int) < ((A59l : Nat) : Int))) (V.ptr A59 fun a61 =>
  ∃ n62, (∀ w57, S56 w57 → World.cell? w57 (Addr.add a61 ((Int.toNat n60) * 1)) = some (Value.int .i64 n62)) ∧
  Calls Try.prog 41 #[(Value.pointer p58), (Value.int .i64 n62)] (World.drew (V.setLoop W43 l41 Rc40 .busy none)) fun e64 w65 =>
  ∃ b63, e64 = Ending.returned (Value.bool b63) ∧
  S56 w65 ∧
  ∃ S66 : World → Prop, S66 (World.drew w65) ∧
  ∃ p68, (∀ w67, S66 w67 → World.cell? w67 ⟨Array.size (World.heap w22), 0, none⟩ = some (Value.pointer p68)) ∧
  ∃ A69, ∃ A69l, ∃ A69c, (∀ w67, S66 w67 → World.cell? w67 ⟨Array.size (World.heap w31), 0, none⟩ = some (Value.slice A69 A69l A69c)) ∧
  ∃ A70, ∃ A70l, ∃ A70c, (∀ w67, S66 w67 → World.cell? w67 ⟨Array.size (World.heap w31), 0, none⟩ = some (Value.slice A70 A70l A70c)) ∧
  V.when (decide ((0 : Int) ≤ (IntKind.wrap .i64 (((A70l : Nat) : Int) - 1)) ∧ ((IntKind.wrap .i64 (((A70l : Nat) : Int) - 1)) : Int) < ((A69l : Nat) : Int))) (V.ptr A69 fun a71 =>
  ∃ n72, (∀ w67, S66 w67 → World.cell? w67 (Addr.add a71 ((Int.toNat (IntKind.wrap .i64 (((A70l : Nat) : Int) - 1))) * 1)) = some (Value.int .i64 n72)) ∧
  Calls Try.prog 42 #[(Value.pointer p68), (Value.int .i64 n72)] (World.drew w65) fun e74 w75 =>
  ∃ b73, e74 = Ending.returned (Value.bool b73) ∧
  S66 w75 ∧
  ∃ n76, World.cell? w75 ⟨Array.size (World.heap w37), 0, none⟩ = some (Value.int .i64 n76) ∧
  ∃ w77, Sem.run Try.prog (Instr.storeAt 3 (Value.pointer (some ⟨Array.size (World.heap w37), 0, none⟩)) (Value.int .i64 (IntKind.wrap .i64 (n76 + 1)))) w75 = .ok () w77 ∧
  ∃ n78, World.cell? w77 ⟨Array.size (World.heap w37), 0, none⟩ = some (Value.int .i64 n78) ∧
  ∃ A79, ∃ A79l, ∃ A79c, World.cell? w77 (Addr.add ⟨Array.size (World.heap w), 0, none⟩ 3) = some (Value.slice A79 A79l A79c) ∧
  V.sel (n78 == ((A79l : Nat) : Int))
  (V.LoopSt w77 l41 Rc40 .busy none ∧ R44 (Ending.returned (Value.bool false)) (V.setLoop w77 l41 Rc40 .done (some (Code.exit 0))))
  (V.LoopSt w77 l41 Rc40 .busy none ∧ R44 (Ending.returned (Value.bool true)) (V.setLoop w77 l41 Rc40 .ready none)))))
  (∃ n80, World.cell? (V.setLoop W43 l41 Rc40 .busy none) ⟨Array.size (World.heap w37), 0, none⟩ = some (Value.int .i64 n80) ∧
  ∃ w81, Sem.run Try.prog (Instr.storeAt 3 (Value.pointer (some ⟨Array.size (World.heap w37), 0, none⟩)) (Value.int .i64 (IntKind.wrap .i64 (n80 + 1)))) (V.setLoop W43 l41 Rc40 .busy none) = .ok () w81 ∧
  ∃ n82, World.cell? w81 ⟨Array.size (World.heap w37), 0, none⟩ = some (Value.int .i64 n82) ∧
  ∃ A83, ∃ A83l, ∃ A83c, World.cell? w81 (Addr.add ⟨Array.size (World.heap w), 0, none⟩ 3) = some (Value.slice A83 A83l A83c) ∧
  V.sel (n82 == ((A83l : Nat) : Int))
  (V.LoopSt w81 l41 Rc40 .busy none ∧ R44 (Ending.returned (Value.bool false)) (V.setLoop w81 l41 Rc40 .done (some (Code.exit 0))))
  (V.LoopSt w81 l41 Rc40 .busy none ∧ R44 (Ending.returned (Value.bool true)) (V.setLoop w81 l41 Rc40 .ready none))))))) →
  V.Yield Try.prog l41 [(Value.int .i64 y28_45)] W43 R44) →
  Calls Try.prog f35 ⟨Array.toList f35a ++ [(Value.func (.yield l41) #[] #[])] ++ Array.toList f35c⟩ w42 fun e84 w86 => (∃ v85, e84 = Ending.returned v85) ∧
  ((V.LoopSt w86 l41 Rc40 .ready none ∧
  ∃ n87, World.cell? (V.setLoop w86 l41 Rc40 .exhausted none) ⟨Array.size (World.heap w37), 0, none⟩ = some (Value.int .i64 n87) ∧
  ∃ A88, ∃ A88l, ∃ A88c, World.cell? (V.setLoop w86 l41 Rc40 .exhausted none) ⟨Array.size (World.heap w31), 0, none⟩ = some (Value.slice A88 A88l A88c) ∧
  V.sel (n87 != ((A88l : Nat) : Int))
  (∃ n89, World.cell? (V.setLoop w86 l41 Rc40 .exhausted none) ⟨Array.size (World.heap w37), 0, none⟩ = some (Value.int .i64 n89) ∧
  ∃ A90, ∃ A90l, ∃ A90c, World.cell? (V.setLoop w86 l41 Rc40 .exhausted none) (Addr.add ⟨Array.size (World.heap w), 0, none⟩ 3) = some (Value.slice A90 A90l A90c) ∧
  V.sel (n89 != ((A90l : Nat) : Int))
  (∃ w91, Sem.run Try.prog (Instr.storeAt 4 (Value.pointer (some ⟨Array.size (World.heap w5), 0, none⟩)) (Value.bool false)) (V.setLoop w86 l41 Rc40 .exhausted none) = .ok () w91 ∧
  V.closeR (Array.size (World.heap w39) :: []) w91 fun w92 =>
  ∃ b93, World.cell? w92 ⟨Array.size (World.heap w5), 0, none⟩ = some (Value.bool b93) ∧
  R (Ending.returned (Value.bool b93)) w92)
  (∃ S94 : World → Prop, S94 (World.drew (V.setLoop w86 l41 Rc40 .exhausted none)) ∧
  ∃ p96, (∀ w95, S94 w95 → World.cell? w95 ⟨Array.size (World.heap w22), 0, none⟩ = some (Value.pointer p96)) ∧
  ∃ p97, (∀ w95, S94 w95 → World.cell? w95 ⟨Array.size (World.heap w22), 0, none⟩ = some (Value.pointer p97)) ∧
  Calls Try.prog 44 #[(Value.pointer p97)] (World.drew (V.setLoop w86 l41 Rc40 .exhausted none)) fun e99 w100 =>
  ∃ p98, e99 = Ending.returned (Value.pointer p98) ∧
  S94 w100 ∧
  Calls Try.prog 43 #[(Value.pointer p96), (Value.pointer p98)] w100 fun e101 w102 =>
  e101 = Ending.returned undef ∧
  ∃ p103, World.cell? w102 ⟨Array.size (World.heap w22), 0, none⟩ = some (Value.pointer p103) ∧
  Calls Try.prog 45 #[(Value.pointer p103), (Value.int .i64 65536)] w102 fun e105 w106 =>
  ∃ n104, e105 = Ending.returned (Value.int .i64 n104) ∧
  ∃ p107, World.cell? w106 ⟨Array.size (World.heap w22), 0, none⟩ = some (Value.pointer p107) ∧
  Calls Try.prog 41 #[(Value.pointer p107), (Value.int .i64 65535)] w106 fun e109 w110 =>
  ∃ b108, e109 = Ending.returned (Value.bool b108) ∧
  ∃ A111, ∃ A111l, ∃ A111c, World.cell? w110 ⟨Array.size (World.heap w31), 0, none⟩ = some (Value.slice A111 A111l A111c) ∧
  Calls Try.prog 46 #[(Value.func (.func f35) f35a f35c), (Value.slice A111 A111l A111c)] w110 fun e113 w114 =>
  ∃ b112, e113 = Ending.returned (Value.bool b112) ∧
  V.sel b112
  (∃ p115, World.cell? w114 ⟨Array.size (World.heap w22), 0, none⟩ = some (Value.pointer p115) ∧
  Calls Try.prog 29 #[(Value.pointer p115)] w114 fun e117 w118 =>
  ∃ n116, e117 = Ending.returned (Value.int .i64 n116) ∧
  V.sel (n116 == 1)
  (∃ p119, World.cell? w118 ⟨Array.size (World.heap w22), 0, none⟩ = some (Value.pointer p119) ∧
  Calls Try.prog 47 #[(Value.pointer p119), (Value.int .i64 65535)] w118 fun e121 w122 =>
  ∃ b120, e121 = Ending.returned (Value.bool b120) ∧
  ∃ w123, Sem.run Try.prog (Instr.storeAt 4 (Value.pointer (some ⟨Array.size (World.heap w5), 0, none⟩)) (Value.bool b120)) w122 = .ok () w123 ∧
  V.closeR (Array.size (World.heap w39) :: []) w123 fun w124 =>
  ∃ b125, World.cell? w124 ⟨Array.size (World.heap w5), 0, none⟩ = some (Value.bool b125) ∧
  R (Ending.returned (Value.bool b125)) w124)
  (∃ w126, Sem.run Try.prog (Instr.storeAt 4 (Value.pointer (some ⟨Array.size (World.heap w5), 0, none⟩)) (Value.bool false)) w118 = .ok () w126 ∧
  V.closeR (Array.size (World.heap w39) :: []) w126 fun w127 =>
  ∃ b128, World.cell? w127 ⟨Array.size (World.heap w5), 0, none⟩ = some (Value.bool b128) ∧
  R (Ending.returned (Value.bool b128)) w127))
  (∃ w129, Sem.run Try.prog (Instr.storeAt 4 (Value.pointer (some ⟨Array.size (World.heap w5), 0, none⟩)) (Value.bool false)) w114 = .ok () w129 ∧
  V.closeR (Array.size (World.heap w39) :: []) w129 fun w130 =>
  ∃ b131, World.cell? w130 ⟨Array.size (World.heap w5), 0, none⟩ = some (Value.bool b131) ∧
  R (Ending.returned (Value.bool b131)) w130)))
  (∃ S132 : World → Prop, S132 (World.drew (V.setLoop w86 l41 Rc40 .exhausted none)) ∧
  ∃ p134, (∀ w133, S132 w133 → World.cell? w133 ⟨Array.size (World.heap w22), 0, none⟩ = some (Value.pointer p134)) ∧
  ∃ p135, (∀ w133, S132 w133 → World.cell? w133 ⟨Array.size (World.heap w22), 0, none⟩ = some (Value.pointer p135)) ∧
  Calls Try.prog 44 #[(Value.pointer p135)] (World.drew (V.setLoop w86 l41 Rc40 .exhausted none)) fun e137 w138 =>
  ∃ p136, e137 = Ending.returned (Value.pointer p136) ∧
  S132 w138 ∧
  Calls Try.prog 43 #[(Value.pointer p134), (Value.pointer p136)] w138 fun e139 w140 =>
  e139 = Ending.returned undef ∧
  ∃ p141, World.cell? w140 ⟨Array.size (World.heap w22), 0, none⟩ = some (Value.pointer p141) ∧
  Calls Try.prog 45 #[(Value.pointer p141), (Value.int .i64 65536)] w140 fun e143 w144 =>
  ∃ n142, e143 = Ending.returned (Value.int .i64 n142) ∧
  ∃ p145, World.cell? w144 ⟨Array.size (World.heap w22), 0, none⟩ = some (Value.pointer p145) ∧
  Calls Try.prog 41 #[(Value.pointer p145), (Value.int .i64 65535)] w144 fun e147 w148 =>
  ∃ b146, e147 = Ending.returned (Value.bool b146) ∧
  ∃ A149, ∃ A149l, ∃ A149c, World.cell? w148 ⟨Array.size (World.heap w31), 0, none⟩ = some (Value.slice A149 A149l A149c) ∧
  Calls Try.prog 46 #[(Value.func (.func f35) f35a f35c), (Value.slice A149 A149l A149c)] w148 fun e151 w152 =>
  ∃ b150, e151 = Ending.returned (Value.bool b150) ∧
  V.sel b150
  (∃ p153, World.cell? w152 ⟨Array.size (World.heap w22), 0, none⟩ = some (Value.pointer p153) ∧
  Calls Try.prog 29 #[(Value.pointer p153)] w152 fun e155 w156 =>
  ∃ n154, e155 = Ending.returned (Value.int .i64 n154) ∧
  V.sel (n154 == 1)
  (∃ p157, World.cell? w156 ⟨Array.size (World.heap w22), 0, none⟩ = some (Value.pointer p157) ∧
  Calls Try.prog 47 #[(Value.pointer p157), (Value.int .i64 65535)] w156 fun e159 w160 =>
  ∃ b158, e159 = Ending.returned (Value.bool b158) ∧
  ∃ w161, Sem.run Try.prog (Instr.storeAt 4 (Value.pointer (some ⟨Array.size (World.heap w5), 0, none⟩)) (Value.bool b158)) w160 = .ok () w161 ∧
  V.closeR (Array.size (World.heap w39) :: []) w161 fun w162 =>
  ∃ b163, World.cell? w162 ⟨Array.size (World.heap w5), 0, none⟩ = some (Value.bool b163) ∧
  R (Ending.returned (Value.bool b163)) w162)
  (∃ w164, Sem.run Try.prog (Instr.storeAt 4 (Value.pointer (some ⟨Array.size (World.heap w5), 0, none⟩)) (Value.bool false)) w156 = .ok () w164 ∧
  V.closeR (Array.size (World.heap w39) :: []) w164 fun w165 =>
  ∃ b166, World.cell? w165 ⟨Array.size (World.heap w5), 0, none⟩ = some (Value.bool b166) ∧
  R (Ending.returned (Value.bool b166)) w165))
  (∃ w167, Sem.run Try.prog (Instr.storeAt 4 (Value.pointer (some ⟨Array.size (World.heap w5), 0, none⟩)) (Value.bool false)) w152 = .ok () w167 ∧
  V.closeR (Array.size (World.heap w39) :: []) w167 fun w168 =>
  ∃ b169, World.cell? w168 ⟨Array.size (World.heap w5), 0, none⟩ = some (Value.bool b169) ∧
  R (Ending.returned (Value.bool b169)) w168))) ∨
  (V.LoopSt w86 l41 Rc40 .done (some Code.ret) ∧
  V.closeR (Array.size (World.heap w39) :: []) (V.setLoop w86 l41 Rc40 .exhausted (some Code.ret)) fun w170 =>
  ∃ b171, World.cell? w170 ⟨Array.size (World.heap w5), 0, none⟩ = some (Value.bool b171) ∧
  R (Ending.returned (Value.bool b171)) w170) ∨
  (V.LoopSt w86 l41 Rc40 .done (some (Code.exit 0)) ∧
  ∃ n172, World.cell? (V.setLoop w86 l41 Rc40 .exhausted (some (Code.exit 0))) ⟨Array.size (World.heap w37), 0, none⟩ = some (Value.int .i64 n172) ∧
  ∃ A173, ∃ A173l, ∃ A173c, World.cell? (V.setLoop w86 l41 Rc40 .exhausted (some (Code.exit 0))) ⟨Array.size (World.heap w31), 0, none⟩ = some (Value.slice A173 A173l A173c) ∧
  V.sel (n172 != ((A173l : Nat) : Int))
  (∃ n174, World.cell? (V.setLoop w86 l41 Rc40 .exhausted (some (Code.exit 0))) ⟨Array.size (World.heap w37), 0, none⟩ = some (Value.int .i64 n174) ∧
  ∃ A175, ∃ A175l, ∃ A175c, World.cell? (V.setLoop w86 l41 Rc40 .exhausted (some (Code.exit 0))) (Addr.add ⟨Array.size (World.heap w), 0, none⟩ 3) = some (Value.slice A175 A175l A175c) ∧
  V.sel (n174 != ((A175l : Nat) : Int))
  (∃ w176, Sem.run Try.prog (Instr.storeAt 4 (Value.pointer (some ⟨Array.size (World.heap w5), 0, none⟩)) (Value.bool false)) (V.setLoop w86 l41 Rc40 .exhausted (some (Code.exit 0))) = .ok () w176 ∧
  V.closeR (Array.size (World.heap w39) :: []) w176 fun w177 =>
  ∃ b178, World.cell? w177 ⟨Array.size (World.heap w5), 0, none⟩ = some (Value.bool b178) ∧
  R (Ending.returned (Value.bool b178)) w177)
  (∃ S179 : World → Prop, S179 (World.drew (V.setLoop w86 l41 Rc40 .exhausted (some (Code.exit 0)))) ∧
  ∃ p181, (∀ w180, S179 w180 → World.cell? w180 ⟨Array.size (World.heap w22), 0, none⟩ = some (Value.pointer p181)) ∧
  ∃ p182, (∀ w180, S179 w180 → World.cell? w180 ⟨Array.size (World.heap w22), 0, none⟩ = some (Value.pointer p182)) ∧
  Calls Try.prog 44 #[(Value.pointer p182)] (World.drew (V.setLoop w86 l41 Rc40 .exhausted (some (Code.exit 0)))) fun e184 w185 =>
  ∃ p183, e184 = Ending.returned (Value.pointer p183) ∧
  S179 w185 ∧
  Calls Try.prog 43 #[(Value.pointer p181), (Value.pointer p183)] w185 fun e186 w187 =>
  e186 = Ending.returned undef ∧
  ∃ p188, World.cell? w187 ⟨Array.size (World.heap w22), 0, none⟩ = some (Value.pointer p188) ∧
  Calls Try.prog 45 #[(Value.pointer p188), (Value.int .i64 65536)] w187 fun e190 w191 =>
  ∃ n189, e190 = Ending.returned (Value.int .i64 n189) ∧
  ∃ p192, World.cell? w191 ⟨Array.size (World.heap w22), 0, none⟩ = some (Value.pointer p192) ∧
  Calls Try.prog 41 #[(Value.pointer p192), (Value.int .i64 65535)] w191 fun e194 w195 =>
  ∃ b193, e194 = Ending.returned (Value.bool b193) ∧
  ∃ A196, ∃ A196l, ∃ A196c, World.cell? w195 ⟨Array.size (World.heap w31), 0, none⟩ = some (Value.slice A196 A196l A196c) ∧
  Calls Try.prog 46 #[(Value.func (.func f35) f35a f35c), (Value.slice A196 A196l A196c)] w195 fun e198 w199 =>
  ∃ b197, e198 = Ending.returned (Value.bool b197) ∧
  V.sel b197
  (∃ p200, World.cell? w199 ⟨Array.size (World.heap w22), 0, none⟩ = some (Value.pointer p200) ∧
  Calls Try.prog 29 #[(Value.pointer p200)] w199 fun e202 w203 =>
  ∃ n201, e202 = Ending.returned (Value.int .i64 n201) ∧
  V.sel (n201 == 1)
  (∃ p204, World.cell? w203 ⟨Array.size (World.heap w22), 0, none⟩ = some (Value.pointer p204) ∧
  Calls Try.prog 47 #[(Value.pointer p204), (Value.int .i64 65535)] w203 fun e206 w207 =>
  ∃ b205, e206 = Ending.returned (Value.bool b205) ∧
  ∃ w208, Sem.run Try.prog (Instr.storeAt 4 (Value.pointer (some ⟨Array.size (World.heap w5), 0, none⟩)) (Value.bool b205)) w207 = .ok () w208 ∧
  V.closeR (Array.size (World.heap w39) :: []) w208 fun w209 =>
  ∃ b210, World.cell? w209 ⟨Array.size (World.heap w5), 0, none⟩ = some (Value.bool b210) ∧
  R (Ending.returned (Value.bool b210)) w209)
  (∃ w211, Sem.run Try.prog (Instr.storeAt 4 (Value.pointer (some ⟨Array.size (World.heap w5), 0, none⟩)) (Value.bool false)) w203 = .ok () w211 ∧
  V.closeR (Array.size (World.heap w39) :: []) w211 fun w212 =>
  ∃ b213, World.cell? w212 ⟨Array.size (World.heap w5), 0, none⟩ = some (Value.bool b213) ∧
  R (Ending.returned (Value.bool b213)) w212))
  (∃ w214, Sem.run Try.prog (Instr.storeAt 4 (Value.pointer (some ⟨Array.size (World.heap w5), 0, none⟩)) (Value.bool false)) w199 = .ok () w214 ∧
  V.closeR (Array.size (World.heap w39) :: []) w214 fun w215 =>
  ∃ b216, World.cell? w215 ⟨Array.size (World.heap w5), 0, none⟩ = some (Value.bool b216) ∧
  R (Ending.returned (Value.bool b216)) w215)))
  (∃ S217 : World → Prop, S217 (World.drew (V.setLoop w86 l41 Rc40 .exhausted (some (Code.exit 0)))) ∧
  ∃ p219, (∀ w218, S217 w218 → World.cell? w218 ⟨Array.size (World.heap w22), 0, none⟩ = some (Value.pointer p219)) ∧
  ∃ p220, (∀ w218, S217 w218 → World.cell? w218 ⟨Array.size (World.heap w22), 0, none⟩ = some (Value.pointer p220)) ∧
  Calls Try.prog 44 #[(Value.pointer p220)] (World.drew (V.setLoop w86 l41 Rc40 .exhausted (some (Code.exit 0)))) fun e222 w223 =>
  ∃ p221, e222 = Ending.returned (Value.pointer p221) ∧
  S217 w223 ∧
  Calls Try.prog 43 #[(Value.pointer p219), (Value.pointer p221)] w223 fun e224 w225 =>
  e224 = Ending.returned undef ∧
  ∃ p226, World.cell? w225 ⟨Array.size (World.heap w22), 0, none⟩ = some (Value.pointer p226) ∧
  Calls Try.prog 45 #[(Value.pointer p226), (Value.int .i64 65536)] w225 fun e228 w229 =>
  ∃ n227, e228 = Ending.returned (Value.int .i64 n227) ∧
  ∃ p230, World.cell? w229 ⟨Array.size (World.heap w22), 0, none⟩ = some (Value.pointer p230) ∧
  Calls Try.prog 41 #[(Value.pointer p230), (Value.int .i64 65535)] w229 fun e232 w233 =>
  ∃ b231, e232 = Ending.returned (Value.bool b231) ∧
  ∃ A234, ∃ A234l, ∃ A234c, World.cell? w233 ⟨Array.size (World.heap w31), 0, none⟩ = some (Value.slice A234 A234l A234c) ∧
  Calls Try.prog 46 #[(Value.func (.func f35) f35a f35c), (Value.slice A234 A234l A234c)] w233 fun e236 w237 =>
  ∃ b235, e236 = Ending.returned (Value.bool b235) ∧
  V.sel b235
  (∃ p238, World.cell? w237 ⟨Array.size (World.heap w22), 0, none⟩ = some (Value.pointer p238) ∧
  Calls Try.prog 29 #[(Value.pointer p238)] w237 fun e240 w241 =>
  ∃ n239, e240 = Ending.returned (Value.int .i64 n239) ∧
  V.sel (n239 == 1)
  (∃ p242, World.cell? w241 ⟨Array.size (World.heap w22), 0, none⟩ = some (Value.pointer p242) ∧
  Calls Try.prog 47 #[(Value.pointer p242), (Value.int .i64 65535)] w241 fun e244 w245 =>
  ∃ b243, e244 = Ending.returned (Value.bool b243) ∧
  ∃ w246, Sem.run Try.prog (Instr.storeAt 4 (Value.pointer (some ⟨Array.size (World.heap w5), 0, none⟩)) (Value.bool b243)) w245 = .ok () w246 ∧
  V.closeR (Array.size (World.heap w39) :: []) w246 fun w247 =>
  ∃ b248, World.cell? w247 ⟨Array.size (World.heap w5), 0, none⟩ = some (Value.bool b248) ∧
  R (Ending.returned (Value.bool b248)) w247)
  (∃ w249, Sem.run Try.prog (Instr.storeAt 4 (Value.pointer (some ⟨Array.size (World.heap w5), 0, none⟩)) (Value.bool false)) w241 = .ok () w249 ∧
  V.closeR (Array.size (World.heap w39) :: []) w249 fun w250 =>
  ∃ b251, World.cell? w250 ⟨Array.size (World.heap w5), 0, none⟩ = some (Value.bool b251) ∧
  R (Ending.returned (Value.bool b251)) w250))
  (∃ w252, Sem.run Try.prog (Instr.storeAt 4 (Value.pointer (some ⟨Array.size (World.heap w5), 0, none⟩)) (Value.bool false)) w237 = .ok () w252 ∧
  V.closeR (Array.size (World.heap w39) :: []) w252 fun w253 =>
  ∃ b254, World.cell? w253 ⟨Array.size (World.heap w5), 0, none⟩ = some (Value.bool b254) ∧
  R (Ending.returned (Value.bool b254)) w253))) ∨
  False)))))) :
  Calls Try.prog 7 #[(Value.agg #[(Value.int .i64 x_1), (Value.slice x_2 x_2l x_2c), (Value.slice x_3 x_3l x_3c), (Value.slice x_4 x_4l x_4c)])] w R :=
  V.calls_of_R ⟨V.assoc [], V.assocP [(18, V.line [0, 1, 2, 3, 4, 5, 6]), (19, V.line [0, 1, 2, 3, 4, 5, 6, 7]), (24, V.line [0, 1, 2, 3])], V.assocC [], V.assocS [(0, [V.Sh.one (.int .i64)])], ⟨[], true⟩⟩ Try.func7 rfl (Eq.mp (by kernel_rfl) h)

theorem bitset_Set_All_nf (s_1 : Option Addr) (w : World) (R : Ending → World → Prop) (h :
  Calls Try.prog 21 #[(Value.pointer s_1)] w fun e3 w4 =>
  ∃ A2, ∃ A2l, ∃ A2c, e3 = Ending.returned (Value.slice A2 A2l A2c) ∧
  ∀ w5, w5 = (World.alloc w4 (.cells #[(Value.slice none 0 0)] 25)) →
  ∃ w6, Sem.run Try.prog (Instr.storeAt 25 (Value.pointer (some ⟨Array.size (World.heap w4), 0, none⟩)) (Value.slice A2 A2l A2c)) w5 = .ok () w6 ∧
  R (Ending.returned (Value.func (.func 67) #[] #[(Value.pointer (some ⟨Array.size (World.heap w4), 0, none⟩))])) w6) :
  Calls Try.prog 40 #[(Value.pointer s_1)] w R :=
  V.calls_of_R ⟨V.assoc [], V.assocP [], V.assocC [], V.assocS [], ⟨[], true⟩⟩ Try.func40 rfl (Eq.mp (by kernel_rfl) h)

theorem berthlaw01_pairs_nf (it_f1 : Nat) (it_a2 : Array Value) (it_c3 : Array Value) (was_4 : Option Addr) (was_4l : Nat) (was_4c : Nat) (w : World) (R : Ending → World → Prop) (h :
  ∀ w5, w5 = (World.alloc w (.cells #[(Value.func (.func it_f1) it_a2 it_c3)] 57)) →
  ∀ w6, w6 = (World.alloc w5 (.cells #[(Value.slice was_4 was_4l was_4c)] 25)) →
  ∀ w7, w7 = (World.alloc w6 (.cells #[(Value.bool false)] 4)) →
  ∀ w8, w8 = (World.alloc w7 (.cells #[(Value.int .i64 0)] 3)) →
  ∃ w9, Sem.run Try.prog (Instr.storeAt 3 (Value.pointer (some ⟨Array.size (World.heap w7), 0, none⟩)) (Value.int .i64 0)) w8 = .ok () w9 ∧
  ∃ f10, ∃ f10a, ∃ f10c, World.cell? w9 ⟨Array.size (World.heap w), 0, none⟩ = some (Value.func (.func f10) f10a f10c) ∧
  V.when (V.hasB Try.prog f10 && true) (∀ (Rc11 : Loop) (l12 : Nat) (w13 : World), l12 = Array.size (World.heap w9) + 1 → w13 = World.alloc (World.alloc w9 (.deferred (some []))) (.loop { Rc11 with state := .ready, pending := none }) →
  (∀ y10_16 (W14 : World) (R15 : Ending → World → Prop), V.LoopSt W14 l12 Rc11 .ready none →
  (∀ w17, w17 = (World.alloc W14 (.cells #[(Value.int .i64 0)] 3)) →
  ∃ w18, Sem.run Try.prog (Instr.storeAt 3 (Value.pointer (some ⟨Array.size (World.heap W14), 0, none⟩)) (Value.int .i64 y10_16)) w17 = .ok () w18 ∧
  V.LoopSt w18 l12 Rc11 .ready none ∧
  ∃ n19, World.cell? (V.setLoop w18 l12 Rc11 .busy none) ⟨Array.size (World.heap w7), 0, none⟩ = some (Value.int .i64 n19) ∧
  ∃ A20, ∃ A20l, ∃ A20c, World.cell? (V.setLoop w18 l12 Rc11 .busy none) ⟨Array.size (World.heap w5), 0, none⟩ = some (Value.slice A20 A20l A20c) ∧
  V.sel (decide (n19 ≥ ((A20l : Nat) : Int)))
  (∃ w21, Sem.run Try.prog (Instr.storeAt 4 (Value.pointer (some ⟨Array.size (World.heap w6), 0, none⟩)) (Value.bool false)) (World.drew (V.setLoop w18 l12 Rc11 .busy none)) = .ok () w21 ∧
  V.LoopSt w21 l12 Rc11 .busy none ∧ R15 (Ending.returned (Value.bool false)) (V.setLoop w21 l12 Rc11 .done (some Code.ret)))
  (∃ A22, ∃ A22l, ∃ A22c, World.cell? (V.setLoop w18 l12 Rc11 .busy none) ⟨Array.size (World.heap w5), 0, none⟩ = some (Value.slice A22 A22l A22c) ∧
  ∃ n23, World.cell? (V.setLoop w18 l12 Rc11 .busy none) ⟨Array.size (World.heap w7), 0, none⟩ = some (Value.int .i64 n23) ∧
  V.when (decide ((0 : Int) ≤ n23 ∧ (n23 : Int) < ((A22l : Nat) : Int))) (V.ptr A22 fun a24 =>
  ∃ n25, World.cell? (V.setLoop w18 l12 Rc11 .busy none) (Addr.add a24 ((Int.toNat n23) * 1)) = some (Value.int .i64 n25) ∧
  ∃ n26, World.cell? (V.setLoop w18 l12 Rc11 .busy none) ⟨Array.size (World.heap W14), 0, none⟩ = some (Value.int .i64 n26) ∧
  V.sel (n25 != n26)
  (∃ w27, Sem.run Try.prog (Instr.storeAt 4 (Value.pointer (some ⟨Array.size (World.heap w6), 0, none⟩)) (Value.bool false)) (World.drew (V.setLoop w18 l12 Rc11 .busy none)) = .ok () w27 ∧
  V.LoopSt w27 l12 Rc11 .busy none ∧ R15 (Ending.returned (Value.bool false)) (V.setLoop w27 l12 Rc11 .done (some Code.ret)))
  (∀ w28, w28 = (World.alloc (World.drew (V.setLoop w18 l12 Rc11 .busy none)) (.cells #[(Value.int .i64 0)] 3)) →
  ∃ w29, Sem.run Try.prog (Instr.storeAt 3 (Value.pointer (some ⟨Array.size (World.heap (World.drew (V.setLoop w18 l12 Rc11 .busy none))), 0, none⟩)) (Value.int .i64 0)) w28 = .ok () w29 ∧
  ∃ f30, ∃ f30a, ∃ f30c, World.cell? w29 ⟨Array.size (World.heap w), 0, none⟩ = some (Value.func (.func f30) f30a f30c) ∧
  V.when (V.hasB Try.prog f30 && true) ((∃ r0, (World.heap w29)[l12]? = some (.loop r0)) ∧
  ∀ (Rc31 : Loop) (l32 : Nat) (w33 : World), l32 = Array.size (World.heap w29) → w33 = World.alloc w29 (.loop { Rc31 with state := .ready, pending := none }) →
  (∀ y24_36 (W34 : World) (R35 : Ending → World → Prop), V.LoopSt W34 l32 Rc31 .ready none →
  (V.LoopSt W34 l32 Rc31 .ready none ∧
  ∃ n37, World.cell? (V.setLoop W34 l32 Rc31 .busy none) ⟨Array.size (World.heap (World.drew (V.setLoop w18 l12 Rc11 .busy none))), 0, none⟩ = some (Value.int .i64 n37) ∧
  ∃ A38, ∃ A38l, ∃ A38c, World.cell? (V.setLoop W34 l32 Rc31 .busy none) ⟨Array.size (World.heap w5), 0, none⟩ = some (Value.slice A38 A38l A38c) ∧
  V.sel (decide (n37 ≥ ((A38l : Nat) : Int)))
  (∃ w39, Sem.run Try.prog (Instr.storeAt 4 (Value.pointer (some ⟨Array.size (World.heap w6), 0, none⟩)) (Value.bool false)) (V.setLoop W34 l32 Rc31 .busy none) = .ok () w39 ∧
  V.LoopSt w39 l32 Rc31 .busy none ∧ R35 (Ending.returned (Value.bool false)) (V.setLoop w39 l32 Rc31 .done (some Code.ret)))
  (∃ A40, ∃ A40l, ∃ A40c, World.cell? (V.setLoop W34 l32 Rc31 .busy none) ⟨Array.size (World.heap w5), 0, none⟩ = some (Value.slice A40 A40l A40c) ∧
  ∃ n41, World.cell? (V.setLoop W34 l32 Rc31 .busy none) ⟨Array.size (World.heap (World.drew (V.setLoop w18 l12 Rc11 .busy none))), 0, none⟩ = some (Value.int .i64 n41) ∧
  V.when (decide ((0 : Int) ≤ n41 ∧ (n41 : Int) < ((A40l : Nat) : Int))) (V.ptr A40 fun a42 =>
  ∃ n43, World.cell? (V.setLoop W34 l32 Rc31 .busy none) (Addr.add a42 ((Int.toNat n41) * 1)) = some (Value.int .i64 n43) ∧
  V.sel (n43 != y24_36)
  (∃ w44, Sem.run Try.prog (Instr.storeAt 4 (Value.pointer (some ⟨Array.size (World.heap w6), 0, none⟩)) (Value.bool false)) (V.setLoop W34 l32 Rc31 .busy none) = .ok () w44 ∧
  V.LoopSt w44 l32 Rc31 .busy none ∧ R35 (Ending.returned (Value.bool false)) (V.setLoop w44 l32 Rc31 .done (some Code.ret)))
  (∃ n45, World.cell? (V.setLoop W34 l32 Rc31 .busy none) ⟨Array.size (World.heap (World.drew (V.setLoop w18 l12 Rc11 .busy none))), 0, none⟩ = some (Value.int .i64 n45) ∧
  ∃ w46, Sem.run Try.prog (Instr.storeAt 3 (Value.pointer (some ⟨Array.size (World.heap (World.drew (V.setLoop w18 l12 Rc11 .busy none))), 0, none⟩)) (Value.int .i64 (IntKind.wrap .i64 (n45 + 1)))) (V.setLoop W34 l32 Rc31 .busy none) = .ok () w46 ∧
  ∃ n47, World.cell? w46 ⟨Array.size (World.heap W14), 0, none⟩ = some (Value.int .i64 n47) ∧
  V.sel (decide (y24_36 ≥ n47))
  (V.LoopSt w46 l32 Rc31 .busy none ∧ R35 (Ending.returned (Value.bool false)) (V.setLoop w46 l32 Rc31 .done (some (Code.exit 2))))
  (∃ n48, World.cell? w46 ⟨Array.size (World.heap (World.drew (V.setLoop w18 l12 Rc11 .busy none))), 0, none⟩ = some (Value.int .i64 n48) ∧
  V.sel (decide (n48 > 20))
  (V.LoopSt w46 l32 Rc31 .busy none ∧ R35 (Ending.returned (Value.bool false)) (V.setLoop w46 l32 Rc31 .done (some (Code.exit 2))))
  (V.LoopSt w46 l32 Rc31 .busy none ∧ R35 (Ending.returned (Value.bool true)) (V.setLoop w46 l32 Rc31 .ready none))))))) →
  V.Yield Try.prog l32 [(Value.int .i64 y24_36)] W34 R35) →
  Calls Try.prog f30 ⟨Array.toList f30a ++ [(Value.func (.yield l32) #[] #[])] ++ Array.toList f30c⟩ w33 fun e49 w51 => (∃ v50, e49 = Ending.returned v50) ∧
  ((V.LoopSt w51 l32 Rc31 .ready none ∧
  ∃ n52, World.cell? (V.setLoop w51 l32 Rc31 .exhausted none) ⟨Array.size (World.heap w7), 0, none⟩ = some (Value.int .i64 n52) ∧
  ∃ w53, Sem.run Try.prog (Instr.storeAt 3 (Value.pointer (some ⟨Array.size (World.heap w7), 0, none⟩)) (Value.int .i64 (IntKind.wrap .i64 (n52 + 1)))) (V.setLoop w51 l32 Rc31 .exhausted none) = .ok () w53 ∧
  V.LoopSt w53 l12 Rc11 .busy none ∧ R15 (Ending.returned (Value.bool true)) (V.setLoop w53 l12 Rc11 .ready none)) ∨
  (V.LoopSt w51 l32 Rc31 .done (some Code.ret) ∧
  V.LoopSt (V.setLoop w51 l32 Rc31 .exhausted (some Code.ret)) l12 Rc11 .busy none ∧ R15 (Ending.returned (Value.bool false)) (V.setLoop (V.setLoop w51 l32 Rc31 .exhausted (some Code.ret)) l12 Rc11 .done (some Code.ret))) ∨
  (V.LoopSt w51 l32 Rc31 .done (some (Code.exit 2)) ∧
  ∃ n54, World.cell? (V.setLoop w51 l32 Rc31 .exhausted (some (Code.exit 2))) ⟨Array.size (World.heap w7), 0, none⟩ = some (Value.int .i64 n54) ∧
  ∃ w55, Sem.run Try.prog (Instr.storeAt 3 (Value.pointer (some ⟨Array.size (World.heap w7), 0, none⟩)) (Value.int .i64 (IntKind.wrap .i64 (n54 + 1)))) (V.setLoop w51 l32 Rc31 .exhausted (some (Code.exit 2))) = .ok () w55 ∧
  V.LoopSt w55 l12 Rc11 .busy none ∧ R15 (Ending.returned (Value.bool true)) (V.setLoop w55 l12 Rc11 .ready none)) ∨
  False)))))) →
  V.Yield Try.prog l12 [(Value.int .i64 y10_16)] W14 R15) →
  Calls Try.prog f10 ⟨Array.toList f10a ++ [(Value.func (.yield l12) #[] #[])] ++ Array.toList f10c⟩ w13 fun e56 w58 => (∃ v57, e56 = Ending.returned v57) ∧
  ((V.LoopSt w58 l12 Rc11 .ready none ∧
  ∃ n59, World.cell? (V.setLoop w58 l12 Rc11 .exhausted none) ⟨Array.size (World.heap w7), 0, none⟩ = some (Value.int .i64 n59) ∧
  ∃ A60, ∃ A60l, ∃ A60c, World.cell? (V.setLoop w58 l12 Rc11 .exhausted none) ⟨Array.size (World.heap w5), 0, none⟩ = some (Value.slice A60 A60l A60c) ∧
  ∃ w61, Sem.run Try.prog (Instr.storeAt 4 (Value.pointer (some ⟨Array.size (World.heap w6), 0, none⟩)) (Value.bool (n59 == ((A60l : Nat) : Int)))) (V.setLoop w58 l12 Rc11 .exhausted none) = .ok () w61 ∧
  V.closeR (Array.size (World.heap w9) :: []) w61 fun w62 =>
  ∃ b63, World.cell? w62 ⟨Array.size (World.heap w6), 0, none⟩ = some (Value.bool b63) ∧
  R (Ending.returned (Value.bool b63)) w62) ∨
  (V.LoopSt w58 l12 Rc11 .done (some Code.ret) ∧
  V.closeR (Array.size (World.heap w9) :: []) (V.setLoop w58 l12 Rc11 .exhausted (some Code.ret)) fun w64 =>
  ∃ b65, World.cell? w64 ⟨Array.size (World.heap w6), 0, none⟩ = some (Value.bool b65) ∧
  R (Ending.returned (Value.bool b65)) w64) ∨
  False))) :
  Calls Try.prog 46 #[(Value.func (.func it_f1) it_a2 it_c3), (Value.slice was_4 was_4l was_4c)] w R :=
  V.calls_of_R ⟨V.assoc [], V.assocP [(4, V.line [0, 1, 2, 3, 4, 5, 6, 7, 8, 9, 10, 11])], V.assocC [], V.assocS [(0, [V.Sh.one (.int .i64)]), (1, [V.Sh.one (.int .i64)])], ⟨[], true⟩⟩ Try.func46 rfl (Eq.mp (by kernel_rfl) h)

theorem bitset_Set_All_l1_nf (yl : Nat) (free0_1 : Option Addr) (w : World) (R : Ending → World → Prop) (h :
  V.ptr free0_1 fun a2 =>
  ∃ A3, ∃ A3l, ∃ A3c, World.cell? w a2 = some (Value.slice A3 A3l A3c) ∧
  ∃ I4 : Int → World → Prop, ∃ μ5 : Int → World → Nat, I4 0 w ∧
  ∀ t7_6 (j7 : Nat → Value) (w8 : World), I4 t7_6 w8 →
  (V.sel (decide (t7_6 < ((A3l : Nat) : Int)))
  (V.when (decide ((0 : Int) ≤ t7_6 ∧ (t7_6 : Int) < ((A3l : Nat) : Int))) (V.ptr A3 fun a9 =>
  ∃ n10, World.cell? w8 (Addr.add a9 ((Int.toNat t7_6) * 1)) = some (Value.int .i64 n10) ∧
  V.Yield Try.prog yl [(Value.int .i64 n10)] w8 fun e12 w13 =>
  ∃ b11, e12 = Ending.returned (Value.bool b11) ∧
  V.sel (!b11)
  (R (Ending.returned undef) w13)
  (I4 (IntKind.wrap .i64 (t7_6 + 1)) w13 ∧ μ5 (IntKind.wrap .i64 (t7_6 + 1)) w13 < μ5 t7_6 w8)))
  (R (Ending.returned undef) w8))) :
  Calls Try.prog 67 #[(Value.func (.yield yl) #[] #[]), (Value.pointer free0_1)] w R :=
  V.calls_of_R ⟨V.assoc [(0, [7])], V.assocP [], V.assocC [], V.assocS [], ⟨[], true⟩⟩ Try.func67 rfl (Eq.mp (by kernel_rfl) h)

end Go.Proofs.Ytbaglnffgbnekaa
