/- Normal forms of the program's functions, printed by a program of mine; the kernel checks each. -/
import Derived.Test.YtcampkaenlohbaaProg
import Derived.Test.YtcampkaenlohbaaV2
set_option linter.unusedVariables false
set_option maxRecDepth 100000
namespace Go.Proofs.Ytcampkaenlohbaa
open Go

theorem berthlaw05_SlotsWalk_nf (before_1 : Option Addr) (before_1l : Nat) (before_1c : Nat) (after_2 : Option Addr) (after_2l : Nat) (after_2c : Nat) (early_3 : Int) (w : World) (R : Ending → World → Prop) (h :
  ∀ w4, w4 = (World.alloc w (.cells #[(Value.slice after_2 after_2l after_2c)] 23)) →
  ∀ w5, w5 = (World.alloc w4 (.cells #[(Value.int .i64 early_3)] 3)) →
  ∀ w6, w6 = (World.alloc w5 (.cells #[(Value.bool false)] 4)) →
  Calls Try.prog 9 #[] w6 fun e8 w9 =>
  ∃ b7, e8 = Ending.returned (Value.bool b7) ∧
  V.sel (!b7)
  (∃ w10, Sem.run Try.prog (Instr.storeAt 4 (Value.pointer (some ⟨Array.size (World.heap w5), 0, none⟩)) (Value.bool false)) w9 = .ok () w10 ∧
  ∃ b11, World.cell? w10 ⟨Array.size (World.heap w5), 0, none⟩ = some (Value.bool b11) ∧
  R (Ending.returned (Value.bool b11)) w10)
  (Calls Try.prog 19 #[] w9 fun e14 w15 =>
  ∃ p12, ∃ b13, e14 = Ending.returned (Value.tuple #[(Value.pointer p12), (Value.bool b13)]) ∧
  ∀ w16, w16 = (World.alloc w15 (.cells #[(Value.pointer none)] 46)) →
  ∃ w17, Sem.run Try.prog (Instr.storeAt 46 (Value.pointer (some ⟨Array.size (World.heap w15), 0, none⟩)) (Value.pointer p12)) w16 = .ok () w17 ∧
  V.sel (!b13)
  (∃ w18, Sem.run Try.prog (Instr.storeAt 4 (Value.pointer (some ⟨Array.size (World.heap w5), 0, none⟩)) (Value.bool false)) w17 = .ok () w18 ∧
  ∃ b19, World.cell? w18 ⟨Array.size (World.heap w5), 0, none⟩ = some (Value.bool b19) ∧
  R (Ending.returned (Value.bool b19)) w18)
  (∃ I20 : Int → World → Prop, ∃ μ21 : Int → World → Nat, I20 0 w17 ∧
  ∀ t42_22 (j23 : Nat → Value) (w24 : World), I20 t42_22 w24 →
  (V.sel (decide (t42_22 < ((before_1l : Nat) : Int)))
  (V.when (decide ((0 : Int) ≤ t42_22 ∧ (t42_22 : Int) < ((before_1l : Nat) : Int))) (V.ptr before_1 fun a25 =>
  ∃ n26, ∃ n27, ∃ n28, ∃ s29, ∃ n30, V.cellsC (fun a_ x_ => World.cell? w24 a_ = some x_) (Addr.add a25 ((Int.toNat t42_22) * 5)) [(Value.int .i64 n26), (Value.int .i64 n27), (Value.int .i64 n28), (Value.string s29), (Value.int .i64 n30)] ∧
  ∀ w31, w31 = (World.alloc w24 (.cells #[(Value.int .i64 0), (Value.int .i64 0), (Value.int .i64 0), (Value.string ByteArray.empty), (Value.int .i64 0)] 31)) →
  ∃ w32, Sem.run Try.prog (Instr.storeAt 31 (Value.pointer (some ⟨Array.size (World.heap w24), 0, none⟩)) (Value.agg #[(Value.int .i64 n26), (Value.int .i64 n27), (Value.int .i64 n28), (Value.string s29), (Value.int .i64 n30)])) w31 = .ok () w32 ∧
  ∃ w33, Sem.run Try.prog (Instr.storeAt 3 (Value.pointer (some (Addr.add ⟨Array.size (World.heap w24), 0, none⟩ 1))) (Value.int .i64 1)) w32 = .ok () w33 ∧
  ∃ n34, World.cell? w33 (Addr.add ⟨Array.size (World.heap w24), 0, none⟩ 0) = some (Value.int .i64 n34) ∧
  V.sel (decide (n34 ≥ 2))
  (∃ n35, World.cell? w33 (Addr.add ⟨Array.size (World.heap w24), 0, none⟩ 0) = some (Value.int .i64 n35) ∧
  V.sel (decide (n35 ≤ 4))
  (∃ p36, World.cell? w33 ⟨Array.size (World.heap w15), 0, none⟩ = some (Value.pointer p36) ∧
  ∃ n37, ∃ n38, ∃ n39, ∃ s40, ∃ n41, V.cellsC (fun a_ x_ => World.cell? w33 a_ = some x_) ⟨Array.size (World.heap w24), 0, none⟩ [(Value.int .i64 n37), (Value.int .i64 n38), (Value.int .i64 n39), (Value.string s40), (Value.int .i64 n41)] ∧
  Calls Try.prog 20 #[(Value.pointer p36), (Value.agg #[(Value.int .i64 n37), (Value.int .i64 n38), (Value.int .i64 n39), (Value.string s40), (Value.int .i64 n41)])] w33 fun e43 w44 =>
  ∃ b42, e43 = Ending.returned (Value.bool b42) ∧
  V.sel (!b42)
  (∃ w45, Sem.run Try.prog (Instr.storeAt 4 (Value.pointer (some ⟨Array.size (World.heap w5), 0, none⟩)) (Value.bool false)) w44 = .ok () w45 ∧
  ∃ b46, World.cell? w45 ⟨Array.size (World.heap w5), 0, none⟩ = some (Value.bool b46) ∧
  R (Ending.returned (Value.bool b46)) w45)
  (I20 (IntKind.wrap .i64 (t42_22 + 1)) w44 ∧ μ21 (IntKind.wrap .i64 (t42_22 + 1)) w44 < μ21 t42_22 w24))
  (I20 (IntKind.wrap .i64 (t42_22 + 1)) w33 ∧ μ21 (IntKind.wrap .i64 (t42_22 + 1)) w33 < μ21 t42_22 w24))
  (I20 (IntKind.wrap .i64 (t42_22 + 1)) w33 ∧ μ21 (IntKind.wrap .i64 (t42_22 + 1)) w33 < μ21 t42_22 w24)))
  (∃ J47 : Option Addr → Option Addr → World → Prop, (∃ S48 : World → Prop, S48 (World.drew w24) ∧
  ∃ p50, (∀ w49, S48 w49 → World.cell? w49 ⟨Array.size (World.heap w15), 0, none⟩ = some (Value.pointer p50)) ∧
  V.ptr p50 fun a51 =>
  ∃ p52, (∀ w49, S48 w49 → World.cell? w49 (Addr.add (Addr.add a51 0) 1) = some (Value.pointer p52)) ∧
  ∃ p53, (∀ w49, S48 w49 → World.cell? w49 ⟨Array.size (World.heap w15), 0, none⟩ = some (Value.pointer p53)) ∧
  V.ptr p53 fun a54 =>
  ∃ n55, ∃ A56, ∃ A56l, ∃ A56c, V.cellsC (fun a_ x_ => ∀ w49, S48 w49 → World.cell? w49 a_ = some x_) (Addr.add (Addr.add a54 4) 2) [(Value.int .i64 n55), (Value.slice A56 A56l A56c)] ∧
  (Calls Try.prog 22 #[(Value.pointer p52)] (World.drew w24) fun e58 w59 =>
  ∃ f57, ∃ f57a, ∃ f57c, e58 = Ending.returned (Value.func (.func f57) f57a f57c) ∧
  S48 w59 ∧
  (Calls Try.prog 23 #[(Value.agg #[(Value.int .i64 n55), (Value.slice A56 A56l A56c)])] w59 fun e61 w62 =>
  ∃ A60, ∃ A60l, ∃ A60c, e61 = Ending.returned (Value.slice A60 A60l A60c) ∧
  S48 w62 ∧
  (∀ w63, w63 = (World.alloc w62 (.cells #[Value.nilFunc] 59)) →
  S48 w63 ∧
  ∀ w64, w64 = (World.alloc w63 (.cells #[(Value.slice none 0 0)] 52)) →
  S48 w64 ∧
  ∃ w65, Sem.run Try.prog (Instr.storeAt 59 (Value.pointer (some ⟨Array.size (World.heap w62), 0, none⟩)) (Value.func (.func f57) f57a f57c)) w64 = .ok () w65 ∧
  S48 w65 ∧
  ∃ w66, Sem.run Try.prog (Instr.storeAt 52 (Value.pointer (some ⟨Array.size (World.heap w63), 0, none⟩)) (Value.slice A60 A60l A60c)) w65 = .ok () w66 ∧
  J47 (some ⟨Array.size (World.heap w62), 0, none⟩) (some ⟨Array.size (World.heap w63), 0, none⟩) w66) ∧
  (∀ w67, w67 = (World.alloc w62 (.cells #[(Value.slice none 0 0)] 52)) →
  S48 w67 ∧
  ∀ w68, w68 = (World.alloc w67 (.cells #[Value.nilFunc] 59)) →
  S48 w68 ∧
  ∃ w69, Sem.run Try.prog (Instr.storeAt 59 (Value.pointer (some ⟨Array.size (World.heap w67), 0, none⟩)) (Value.func (.func f57) f57a f57c)) w68 = .ok () w69 ∧
  S48 w69 ∧
  ∃ w70, Sem.run Try.prog (Instr.storeAt 52 (Value.pointer (some ⟨Array.size (World.heap w62), 0, none⟩)) (Value.slice A60 A60l A60c)) w69 = .ok () w70 ∧
  J47 (some ⟨Array.size (World.heap w67), 0, none⟩) (some ⟨Array.size (World.heap w62), 0, none⟩) w70) ∧ True) ∧
  (∀ w71, w71 = (World.alloc w59 (.cells #[Value.nilFunc] 59)) →
  S48 w71 ∧
  (Calls Try.prog 23 #[(Value.agg #[(Value.int .i64 n55), (Value.slice A56 A56l A56c)])] w71 fun e73 w74 =>
  ∃ A72, ∃ A72l, ∃ A72c, e73 = Ending.returned (Value.slice A72 A72l A72c) ∧
  S48 w74 ∧
  ∀ w75, w75 = (World.alloc w74 (.cells #[(Value.slice none 0 0)] 52)) →
  S48 w75 ∧
  ∃ w76, Sem.run Try.prog (Instr.storeAt 59 (Value.pointer (some ⟨Array.size (World.heap w59), 0, none⟩)) (Value.func (.func f57) f57a f57c)) w75 = .ok () w76 ∧
  S48 w76 ∧
  ∃ w77, Sem.run Try.prog (Instr.storeAt 52 (Value.pointer (some ⟨Array.size (World.heap w74), 0, none⟩)) (Value.slice A72 A72l A72c)) w76 = .ok () w77 ∧
  J47 (some ⟨Array.size (World.heap w59), 0, none⟩) (some ⟨Array.size (World.heap w74), 0, none⟩) w77) ∧
  (∀ w78, w78 = (World.alloc w71 (.cells #[(Value.slice none 0 0)] 52)) →
  S48 w78 ∧
  Calls Try.prog 23 #[(Value.agg #[(Value.int .i64 n55), (Value.slice A56 A56l A56c)])] w78 fun e80 w81 =>
  ∃ A79, ∃ A79l, ∃ A79c, e80 = Ending.returned (Value.slice A79 A79l A79c) ∧
  S48 w81 ∧
  ∃ w82, Sem.run Try.prog (Instr.storeAt 59 (Value.pointer (some ⟨Array.size (World.heap w59), 0, none⟩)) (Value.func (.func f57) f57a f57c)) w81 = .ok () w82 ∧
  S48 w82 ∧
  ∃ w83, Sem.run Try.prog (Instr.storeAt 52 (Value.pointer (some ⟨Array.size (World.heap w71), 0, none⟩)) (Value.slice A79 A79l A79c)) w82 = .ok () w83 ∧
  J47 (some ⟨Array.size (World.heap w59), 0, none⟩) (some ⟨Array.size (World.heap w71), 0, none⟩) w83) ∧ True) ∧
  (∀ w84, w84 = (World.alloc w59 (.cells #[(Value.slice none 0 0)] 52)) →
  S48 w84 ∧
  (Calls Try.prog 23 #[(Value.agg #[(Value.int .i64 n55), (Value.slice A56 A56l A56c)])] w84 fun e86 w87 =>
  ∃ A85, ∃ A85l, ∃ A85c, e86 = Ending.returned (Value.slice A85 A85l A85c) ∧
  S48 w87 ∧
  ∀ w88, w88 = (World.alloc w87 (.cells #[Value.nilFunc] 59)) →
  S48 w88 ∧
  ∃ w89, Sem.run Try.prog (Instr.storeAt 59 (Value.pointer (some ⟨Array.size (World.heap w87), 0, none⟩)) (Value.func (.func f57) f57a f57c)) w88 = .ok () w89 ∧
  S48 w89 ∧
  ∃ w90, Sem.run Try.prog (Instr.storeAt 52 (Value.pointer (some ⟨Array.size (World.heap w59), 0, none⟩)) (Value.slice A85 A85l A85c)) w89 = .ok () w90 ∧
  J47 (some ⟨Array.size (World.heap w87), 0, none⟩) (some ⟨Array.size (World.heap w59), 0, none⟩) w90) ∧
  (∀ w91, w91 = (World.alloc w84 (.cells #[Value.nilFunc] 59)) →
  S48 w91 ∧
  Calls Try.prog 23 #[(Value.agg #[(Value.int .i64 n55), (Value.slice A56 A56l A56c)])] w91 fun e93 w94 =>
  ∃ A92, ∃ A92l, ∃ A92c, e93 = Ending.returned (Value.slice A92 A92l A92c) ∧
  S48 w94 ∧
  ∃ w95, Sem.run Try.prog (Instr.storeAt 59 (Value.pointer (some ⟨Array.size (World.heap w84), 0, none⟩)) (Value.func (.func f57) f57a f57c)) w94 = .ok () w95 ∧
  S48 w95 ∧
  ∃ w96, Sem.run Try.prog (Instr.storeAt 52 (Value.pointer (some ⟨Array.size (World.heap w59), 0, none⟩)) (Value.slice A92 A92l A92c)) w95 = .ok () w96 ∧
  J47 (some ⟨Array.size (World.heap w84), 0, none⟩) (some ⟨Array.size (World.heap w59), 0, none⟩) w96) ∧ True) ∧ True) ∧
  (∀ w97, w97 = (World.alloc (World.drew w24) (.cells #[Value.nilFunc] 59)) →
  S48 w97 ∧
  (Calls Try.prog 22 #[(Value.pointer p52)] w97 fun e99 w100 =>
  ∃ f98, ∃ f98a, ∃ f98c, e99 = Ending.returned (Value.func (.func f98) f98a f98c) ∧
  S48 w100 ∧
  (Calls Try.prog 23 #[(Value.agg #[(Value.int .i64 n55), (Value.slice A56 A56l A56c)])] w100 fun e102 w103 =>
  ∃ A101, ∃ A101l, ∃ A101c, e102 = Ending.returned (Value.slice A101 A101l A101c) ∧
  S48 w103 ∧
  ∀ w104, w104 = (World.alloc w103 (.cells #[(Value.slice none 0 0)] 52)) →
  S48 w104 ∧
  ∃ w105, Sem.run Try.prog (Instr.storeAt 59 (Value.pointer (some ⟨Array.size (World.heap (World.drew w24)), 0, none⟩)) (Value.func (.func f98) f98a f98c)) w104 = .ok () w105 ∧
  S48 w105 ∧
  ∃ w106, Sem.run Try.prog (Instr.storeAt 52 (Value.pointer (some ⟨Array.size (World.heap w103), 0, none⟩)) (Value.slice A101 A101l A101c)) w105 = .ok () w106 ∧
  J47 (some ⟨Array.size (World.heap (World.drew w24)), 0, none⟩) (some ⟨Array.size (World.heap w103), 0, none⟩) w106) ∧
  (∀ w107, w107 = (World.alloc w100 (.cells #[(Value.slice none 0 0)] 52)) →
  S48 w107 ∧
  Calls Try.prog 23 #[(Value.agg #[(Value.int .i64 n55), (Value.slice A56 A56l A56c)])] w107 fun e109 w110 =>
  ∃ A108, ∃ A108l, ∃ A108c, e109 = Ending.returned (Value.slice A108 A108l A108c) ∧
  S48 w110 ∧
  ∃ w111, Sem.run Try.prog (Instr.storeAt 59 (Value.pointer (some ⟨Array.size (World.heap (World.drew w24)), 0, none⟩)) (Value.func (.func f98) f98a f98c)) w110 = .ok () w111 ∧
  S48 w111 ∧
  ∃ w112, Sem.run Try.prog (Instr.storeAt 52 (Value.pointer (some ⟨Array.size (World.heap w100), 0, none⟩)) (Value.slice A108 A108l A108c)) w111 = .ok () w112 ∧
  J47 (some ⟨Array.size (World.heap (World.drew w24)), 0, none⟩) (some ⟨Array.size (World.heap w100), 0, none⟩) w112) ∧ True) ∧
  (∀ w113, w113 = (World.alloc w97 (.cells #[(Value.slice none 0 0)] 52)) →
  S48 w113 ∧
  Calls Try.prog 22 #[(Value.pointer p52)] w113 fun e115 w116 =>
  ∃ f114, ∃ f114a, ∃ f114c, e115 = Ending.returned (Value.func (.func f114) f114a f114c) ∧
  S48 w116 ∧
  Calls Try.prog 23 #[(Value.agg #[(Value.int .i64 n55), (Value.slice A56 A56l A56c)])] w116 fun e118 w119 =>
  ∃ A117, ∃ A117l, ∃ A117c, e118 = Ending.returned (Value.slice A117 A117l A117c) ∧
  S48 w119 ∧
  ∃ w120, Sem.run Try.prog (Instr.storeAt 59 (Value.pointer (some ⟨Array.size (World.heap (World.drew w24)), 0, none⟩)) (Value.func (.func f114) f114a f114c)) w119 = .ok () w120 ∧
  S48 w120 ∧
  ∃ w121, Sem.run Try.prog (Instr.storeAt 52 (Value.pointer (some ⟨Array.size (World.heap w97), 0, none⟩)) (Value.slice A117 A117l A117c)) w120 = .ok () w121 ∧
  J47 (some ⟨Array.size (World.heap (World.drew w24)), 0, none⟩) (some ⟨Array.size (World.heap w97), 0, none⟩) w121) ∧ True) ∧
  (∀ w122, w122 = (World.alloc (World.drew w24) (.cells #[(Value.slice none 0 0)] 52)) →
  S48 w122 ∧
  (Calls Try.prog 22 #[(Value.pointer p52)] w122 fun e124 w125 =>
  ∃ f123, ∃ f123a, ∃ f123c, e124 = Ending.returned (Value.func (.func f123) f123a f123c) ∧
  S48 w125 ∧
  (Calls Try.prog 23 #[(Value.agg #[(Value.int .i64 n55), (Value.slice A56 A56l A56c)])] w125 fun e127 w128 =>
  ∃ A126, ∃ A126l, ∃ A126c, e127 = Ending.returned (Value.slice A126 A126l A126c) ∧
  S48 w128 ∧
  ∀ w129, w129 = (World.alloc w128 (.cells #[Value.nilFunc] 59)) →
  S48 w129 ∧
  ∃ w130, Sem.run Try.prog (Instr.storeAt 59 (Value.pointer (some ⟨Array.size (World.heap w128), 0, none⟩)) (Value.func (.func f123) f123a f123c)) w129 = .ok () w130 ∧
  S48 w130 ∧
  ∃ w131, Sem.run Try.prog (Instr.storeAt 52 (Value.pointer (some ⟨Array.size (World.heap (World.drew w24)), 0, none⟩)) (Value.slice A126 A126l A126c)) w130 = .ok () w131 ∧
  J47 (some ⟨Array.size (World.heap w128), 0, none⟩) (some ⟨Array.size (World.heap (World.drew w24)), 0, none⟩) w131) ∧
  (∀ w132, w132 = (World.alloc w125 (.cells #[Value.nilFunc] 59)) →
  S48 w132 ∧
  Calls Try.prog 23 #[(Value.agg #[(Value.int .i64 n55), (Value.slice A56 A56l A56c)])] w132 fun e134 w135 =>
  ∃ A133, ∃ A133l, ∃ A133c, e134 = Ending.returned (Value.slice A133 A133l A133c) ∧
  S48 w135 ∧
  ∃ w136, Sem.run Try.prog (Instr.storeAt 59 (Value.pointer (some ⟨Array.size (World.heap w125), 0, none⟩)) (Value.func (.func f123) f123a f123c)) w135 = .ok () w136 ∧
  S48 w136 ∧
  ∃ w137, Sem.run Try.prog (Instr.storeAt 52 (Value.pointer (some ⟨Array.size (World.heap (World.drew w24)), 0, none⟩)) (Value.slice A133 A133l A133c)) w136 = .ok () w137 ∧
  J47 (some ⟨Array.size (World.heap w125), 0, none⟩) (some ⟨Array.size (World.heap (World.drew w24)), 0, none⟩) w137) ∧ True) ∧
  (∀ w138, w138 = (World.alloc w122 (.cells #[Value.nilFunc] 59)) →
  S48 w138 ∧
  Calls Try.prog 22 #[(Value.pointer p52)] w138 fun e140 w141 =>
  ∃ f139, ∃ f139a, ∃ f139c, e140 = Ending.returned (Value.func (.func f139) f139a f139c) ∧
  S48 w141 ∧
  Calls Try.prog 23 #[(Value.agg #[(Value.int .i64 n55), (Value.slice A56 A56l A56c)])] w141 fun e143 w144 =>
  ∃ A142, ∃ A142l, ∃ A142c, e143 = Ending.returned (Value.slice A142 A142l A142c) ∧
  S48 w144 ∧
  ∃ w145, Sem.run Try.prog (Instr.storeAt 59 (Value.pointer (some ⟨Array.size (World.heap w122), 0, none⟩)) (Value.func (.func f139) f139a f139c)) w144 = .ok () w145 ∧
  S48 w145 ∧
  ∃ w146, Sem.run Try.prog (Instr.storeAt 52 (Value.pointer (some ⟨Array.size (World.heap (World.drew w24)), 0, none⟩)) (Value.slice A142 A142l A142c)) w145 = .ok () w146 ∧
  J47 (some ⟨Array.size (World.heap w122), 0, none⟩) (some ⟨Array.size (World.heap (World.drew w24)), 0, none⟩) w146) ∧ True) ∧ True) ∧
  ∀ walk_147 want_148 (j149 : Nat → Value) (w150 : World), J47 walk_147 want_148 w150 →
  V.ptr walk_147 fun a151 =>
  ∃ f152, ∃ f152a, ∃ f152c, World.cell? w150 a151 = some (Value.func (.func f152) f152a f152c) ∧
  ∀ w153, w153 = (World.alloc w150 (.cells #[(Value.slice none 0 0)] 62)) →
  ∀ w154, w154 = (World.alloc w153 (.cells #[(Value.slice none 0 0)] 62)) →
  ∀ w155, w155 = (World.alloc w154 (.cells #[(Value.slice none 0 0)] 62)) →
  ∀ w156, w156 = (World.alloc w155 (.cells #[(Value.int .i64 0)] 3)) →
  ∃ w157, Sem.run Try.prog (Instr.storeAt 3 (Value.pointer (some ⟨Array.size (World.heap w155), 0, none⟩)) (Value.int .i64 0)) w156 = .ok () w157 ∧
  V.ptr walk_147 fun a158 =>
  ∃ f159, ∃ f159a, ∃ f159c, World.cell? w157 a158 = some (Value.func (.func f159) f159a f159c) ∧
  V.when (V.hasB Try.prog f159 && true) (∀ (Rc160 : Loop) (l161 : Nat) (w162 : World), l161 = Array.size (World.heap w157) + 1 → w162 = World.alloc (World.alloc w157 (.deferred (some []))) (.loop { Rc160 with state := .ready, pending := none }) →
  (∀ y77_165 y78_166 (W163 : World) (R164 : Ending → World → Prop), V.LoopSt W163 l161 Rc160 .ready none →
  (V.LoopSt W163 l161 Rc160 .ready none ∧
  ∃ A167, ∃ A167l, ∃ A167c, World.cell? (V.setLoop W163 l161 Rc160 .busy none) ⟨Array.size (World.heap w150), 0, none⟩ = some (Value.slice A167 A167l A167c) ∧
  ∀ w168, w168 = (World.alloc (V.setLoop W163 l161 Rc160 .busy none) (.cells #[(Value.int .i64 y77_165), (Value.string y78_166)] 64)) →
  ∃ A169, ∃ A169l, ∃ A169c, ∃ w170, Sem.run Try.prog (Builtin.append_ #[62, 62] 62 #[(Value.slice A167 A167l A167c), (Value.slice (some ⟨Array.size (World.heap (V.setLoop W163 l161 Rc160 .busy none)), 0, none⟩) 1 1)]) w168 = .ok (Value.slice A169 A169l A169c) w170 ∧
  ∃ w171, Sem.run Try.prog (Instr.storeAt 62 (Value.pointer (some ⟨Array.size (World.heap w150), 0, none⟩)) (Value.slice A169 A169l A169c)) w170 = .ok () w171 ∧
  ∃ I172 : Int → World → Prop, ∃ μ173 : Int → World → Nat, I172 0 w171 ∧
  ∀ k_174 (j175 : Nat → Value) (w176 : World), I172 k_174 w176 →
  (V.sel (decide (k_174 < 2))
  (∃ n177, World.cell? w176 ⟨Array.size (World.heap w155), 0, none⟩ = some (Value.int .i64 n177) ∧
  ∃ A178, ∃ A178l, ∃ A178c, World.cell? w176 ⟨Array.size (World.heap w), 0, none⟩ = some (Value.slice A178 A178l A178c) ∧
  V.sel (decide (n177 < ((A178l : Nat) : Int)))
  (∃ A179, ∃ A179l, ∃ A179c, World.cell? w176 ⟨Array.size (World.heap w), 0, none⟩ = some (Value.slice A179 A179l A179c) ∧
  ∃ n180, World.cell? w176 ⟨Array.size (World.heap w155), 0, none⟩ = some (Value.int .i64 n180) ∧
  V.when (decide ((0 : Int) ≤ n180 ∧ (n180 : Int) < ((A179l : Nat) : Int))) (V.ptr A179 fun a181 =>
  ∃ n182, ∃ n183, ∃ n184, ∃ s185, ∃ n186, V.cellsC (fun a_ x_ => World.cell? w176 a_ = some x_) (Addr.add a181 ((Int.toNat n180) * 5)) [(Value.int .i64 n182), (Value.int .i64 n183), (Value.int .i64 n184), (Value.string s185), (Value.int .i64 n186)] ∧
  ∀ w187, w187 = (World.alloc w176 (.cells #[(Value.int .i64 0), (Value.int .i64 0), (Value.int .i64 0), (Value.string ByteArray.empty), (Value.int .i64 0)] 31)) →
  ∃ w188, Sem.run Try.prog (Instr.storeAt 31 (Value.pointer (some ⟨Array.size (World.heap w176), 0, none⟩)) (Value.agg #[(Value.int .i64 n182), (Value.int .i64 n183), (Value.int .i64 n184), (Value.string s185), (Value.int .i64 n186)])) w187 = .ok () w188 ∧
  ∃ n189, World.cell? w188 ⟨Array.size (World.heap w155), 0, none⟩ = some (Value.int .i64 n189) ∧
  ∃ w190, Sem.run Try.prog (Instr.storeAt 3 (Value.pointer (some ⟨Array.size (World.heap w155), 0, none⟩)) (Value.int .i64 (IntKind.wrap .i64 (n189 + 1)))) w188 = .ok () w190 ∧
  ∃ w191, Sem.run Try.prog (Instr.storeAt 3 (Value.pointer (some (Addr.add ⟨Array.size (World.heap w176), 0, none⟩ 1))) (Value.int .i64 1)) w190 = .ok () w191 ∧
  ∃ n192, World.cell? w191 (Addr.add ⟨Array.size (World.heap w176), 0, none⟩ 0) = some (Value.int .i64 n192) ∧
  V.sel (decide (n192 ≥ 2))
  (∃ n193, World.cell? w191 (Addr.add ⟨Array.size (World.heap w176), 0, none⟩ 0) = some (Value.int .i64 n193) ∧
  V.sel (decide (n193 ≤ 4))
  (∃ p194, World.cell? w191 ⟨Array.size (World.heap w15), 0, none⟩ = some (Value.pointer p194) ∧
  ∃ n195, ∃ n196, ∃ n197, ∃ s198, ∃ n199, V.cellsC (fun a_ x_ => World.cell? w191 a_ = some x_) ⟨Array.size (World.heap w176), 0, none⟩ [(Value.int .i64 n195), (Value.int .i64 n196), (Value.int .i64 n197), (Value.string s198), (Value.int .i64 n199)] ∧
  Calls Try.prog 20 #[(Value.pointer p194), (Value.agg #[(Value.int .i64 n195), (Value.int .i64 n196), (Value.int .i64 n197), (Value.string s198), (Value.int .i64 n199)])] w191 fun e201 w202 =>
  ∃ b200, e201 = Ending.returned (Value.bool b200) ∧
  V.sel (!b200)
  (∃ w203, Sem.run Try.prog (Instr.storeAt 4 (Value.pointer (some ⟨Array.size (World.heap w5), 0, none⟩)) (Value.bool false)) w202 = .ok () w203 ∧
  V.LoopSt w203 l161 Rc160 .busy none ∧ R164 (Ending.returned (Value.bool false)) (V.setLoop w203 l161 Rc160 .done (some Code.ret)))
  (I172 (IntKind.wrap .i64 (k_174 + 1)) w202 ∧ μ173 (IntKind.wrap .i64 (k_174 + 1)) w202 < μ173 k_174 w176))
  (I172 (IntKind.wrap .i64 (k_174 + 1)) w191 ∧ μ173 (IntKind.wrap .i64 (k_174 + 1)) w191 < μ173 k_174 w176))
  (I172 (IntKind.wrap .i64 (k_174 + 1)) w191 ∧ μ173 (IntKind.wrap .i64 (k_174 + 1)) w191 < μ173 k_174 w176)))
  (∃ A204, ∃ A204l, ∃ A204c, World.cell? w176 ⟨Array.size (World.heap w150), 0, none⟩ = some (Value.slice A204 A204l A204c) ∧
  V.ptr want_148 fun a205 =>
  ∃ A206, ∃ A206l, ∃ A206c, World.cell? w176 a205 = some (Value.slice A206 A206l A206c) ∧
  V.sel (decide (((A204l : Nat) : Int) > ((A206l : Nat) : Int)))
  (∃ w207, Sem.run Try.prog (Instr.storeAt 4 (Value.pointer (some ⟨Array.size (World.heap w5), 0, none⟩)) (Value.bool false)) w176 = .ok () w207 ∧
  V.LoopSt w207 l161 Rc160 .busy none ∧ R164 (Ending.returned (Value.bool false)) (V.setLoop w207 l161 Rc160 .done (some Code.ret)))
  (V.LoopSt w176 l161 Rc160 .busy none ∧ R164 (Ending.returned (Value.bool true)) (V.setLoop w176 l161 Rc160 .ready none))))
  (∃ A208, ∃ A208l, ∃ A208c, World.cell? w176 ⟨Array.size (World.heap w150), 0, none⟩ = some (Value.slice A208 A208l A208c) ∧
  V.ptr want_148 fun a209 =>
  ∃ A210, ∃ A210l, ∃ A210c, World.cell? w176 a209 = some (Value.slice A210 A210l A210c) ∧
  V.sel (decide (((A208l : Nat) : Int) > ((A210l : Nat) : Int)))
  (∃ w211, Sem.run Try.prog (Instr.storeAt 4 (Value.pointer (some ⟨Array.size (World.heap w5), 0, none⟩)) (Value.bool false)) w176 = .ok () w211 ∧
  V.LoopSt w211 l161 Rc160 .busy none ∧ R164 (Ending.returned (Value.bool false)) (V.setLoop w211 l161 Rc160 .done (some Code.ret)))
  (V.LoopSt w176 l161 Rc160 .busy none ∧ R164 (Ending.returned (Value.bool true)) (V.setLoop w176 l161 Rc160 .ready none))))) →
  V.Yield Try.prog l161 [(Value.int .i64 y77_165), (Value.string y78_166)] W163 R164) →
  Calls Try.prog f159 ⟨Array.toList f159a ++ [(Value.func (.yield l161) #[] #[])] ++ Array.toList f159c⟩ w162 fun e212 w214 => (∃ v213, e212 = Ending.returned v213) ∧
  ((V.LoopSt w214 l161 Rc160 .ready none ∧
  V.ptr walk_147 fun a215 =>
  ∃ f216, ∃ f216a, ∃ f216c, World.cell? (V.setLoop w214 l161 Rc160 .exhausted none) a215 = some (Value.func (.func f216) f216a f216c) ∧
  V.when (V.hasB Try.prog f216 && true) (∀ (Rc217 : Loop) (l218 : Nat) (w219 : World), l218 = Array.size (World.heap (V.setLoop w214 l161 Rc160 .exhausted none)) + 1 → w219 = World.alloc (World.alloc (V.setLoop w214 l161 Rc160 .exhausted none) (.deferred (some []))) (.loop { Rc217 with state := .ready, pending := none }) →
  (∀ y122_222 y123_223 (W220 : World) (R221 : Ending → World → Prop), V.LoopSt W220 l218 Rc217 .ready none →
  (V.LoopSt W220 l218 Rc217 .ready none ∧
  ∃ A224, ∃ A224l, ∃ A224c, World.cell? (V.setLoop W220 l218 Rc217 .busy none) ⟨Array.size (World.heap w153), 0, none⟩ = some (Value.slice A224 A224l A224c) ∧
  ∀ w225, w225 = (World.alloc (V.setLoop W220 l218 Rc217 .busy none) (.cells #[(Value.int .i64 y122_222), (Value.string y123_223)] 64)) →
  ∃ A226, ∃ A226l, ∃ A226c, ∃ w227, Sem.run Try.prog (Builtin.append_ #[62, 62] 62 #[(Value.slice A224 A224l A224c), (Value.slice (some ⟨Array.size (World.heap (V.setLoop W220 l218 Rc217 .busy none)), 0, none⟩) 1 1)]) w225 = .ok (Value.slice A226 A226l A226c) w227 ∧
  ∃ w228, Sem.run Try.prog (Instr.storeAt 62 (Value.pointer (some ⟨Array.size (World.heap w153), 0, none⟩)) (Value.slice A226 A226l A226c)) w227 = .ok () w228 ∧
  ∃ A229, ∃ A229l, ∃ A229c, World.cell? w228 ⟨Array.size (World.heap w153), 0, none⟩ = some (Value.slice A229 A229l A229c) ∧
  ∃ n230, World.cell? w228 ⟨Array.size (World.heap w4), 0, none⟩ = some (Value.int .i64 n230) ∧
  V.sel (decide (((A229l : Nat) : Int) ≥ n230))
  (V.LoopSt w228 l218 Rc217 .busy none ∧ R221 (Ending.returned (Value.bool false)) (V.setLoop w228 l218 Rc217 .done (some (Code.exit 6))))
  (∃ A231, ∃ A231l, ∃ A231c, World.cell? w228 ⟨Array.size (World.heap w153), 0, none⟩ = some (Value.slice A231 A231l A231c) ∧
  V.ptr want_148 fun a232 =>
  ∃ A233, ∃ A233l, ∃ A233c, World.cell? w228 a232 = some (Value.slice A233 A233l A233c) ∧
  V.sel (decide (((A231l : Nat) : Int) > ((A233l : Nat) : Int)))
  (V.LoopSt w228 l218 Rc217 .busy none ∧ R221 (Ending.returned (Value.bool false)) (V.setLoop w228 l218 Rc217 .done (some (Code.exit 6))))
  (V.LoopSt w228 l218 Rc217 .busy none ∧ R221 (Ending.returned (Value.bool true)) (V.setLoop w228 l218 Rc217 .ready none)))) →
  V.Yield Try.prog l218 [(Value.int .i64 y122_222), (Value.string y123_223)] W220 R221) →
  Calls Try.prog f216 ⟨Array.toList f216a ++ [(Value.func (.yield l218) #[] #[])] ++ Array.toList f216c⟩ w219 fun e234 w236 => (∃ v235, e234 = Ending.returned v235) ∧
  ((V.LoopSt w236 l218 Rc217 .ready none ∧
  ∃ I237 : World → Prop, ∃ μ238 : World → Nat, I237 (V.setLoop w236 l218 Rc217 .exhausted none) ∧
  ∀ (j239 : Nat → Value) (w240 : World), I237 w240 →
  (∃ n241, World.cell? w240 ⟨Array.size (World.heap w155), 0, none⟩ = some (Value.int .i64 n241) ∧
  ∃ A242, ∃ A242l, ∃ A242c, World.cell? w240 ⟨Array.size (World.heap w), 0, none⟩ = some (Value.slice A242 A242l A242c) ∧
  V.sel (decide (n241 < ((A242l : Nat) : Int)))
  (∃ A243, ∃ A243l, ∃ A243c, World.cell? w240 ⟨Array.size (World.heap w), 0, none⟩ = some (Value.slice A243 A243l A243c) ∧
  ∃ n244, World.cell? w240 ⟨Array.size (World.heap w155), 0, none⟩ = some (Value.int .i64 n244) ∧
  V.when (decide ((0 : Int) ≤ n244 ∧ (n244 : Int) < ((A243l : Nat) : Int))) (V.ptr A243 fun a245 =>
  ∃ n246, ∃ n247, ∃ n248, ∃ s249, ∃ n250, V.cellsC (fun a_ x_ => World.cell? w240 a_ = some x_) (Addr.add a245 ((Int.toNat n244) * 5)) [(Value.int .i64 n246), (Value.int .i64 n247), (Value.int .i64 n248), (Value.string s249), (Value.int .i64 n250)] ∧
  ∀ w251, w251 = (World.alloc w240 (.cells #[(Value.int .i64 0), (Value.int .i64 0), (Value.int .i64 0), (Value.string ByteArray.empty), (Value.int .i64 0)] 31)) →
  ∃ w252, Sem.run Try.prog (Instr.storeAt 31 (Value.pointer (some ⟨Array.size (World.heap w240), 0, none⟩)) (Value.agg #[(Value.int .i64 n246), (Value.int .i64 n247), (Value.int .i64 n248), (Value.string s249), (Value.int .i64 n250)])) w251 = .ok () w252 ∧
  ∃ w253, Sem.run Try.prog (Instr.storeAt 3 (Value.pointer (some (Addr.add ⟨Array.size (World.heap w240), 0, none⟩ 1))) (Value.int .i64 1)) w252 = .ok () w253 ∧
  ∃ n254, World.cell? w253 (Addr.add ⟨Array.size (World.heap w240), 0, none⟩ 0) = some (Value.int .i64 n254) ∧
  V.sel (decide (n254 ≥ 2))
  (∃ n255, World.cell? w253 (Addr.add ⟨Array.size (World.heap w240), 0, none⟩ 0) = some (Value.int .i64 n255) ∧
  V.sel (decide (n255 ≤ 4))
  (∃ p256, World.cell? w253 ⟨Array.size (World.heap w15), 0, none⟩ = some (Value.pointer p256) ∧
  ∃ n257, ∃ n258, ∃ n259, ∃ s260, ∃ n261, V.cellsC (fun a_ x_ => World.cell? w253 a_ = some x_) ⟨Array.size (World.heap w240), 0, none⟩ [(Value.int .i64 n257), (Value.int .i64 n258), (Value.int .i64 n259), (Value.string s260), (Value.int .i64 n261)] ∧
  Calls Try.prog 20 #[(Value.pointer p256), (Value.agg #[(Value.int .i64 n257), (Value.int .i64 n258), (Value.int .i64 n259), (Value.string s260), (Value.int .i64 n261)])] w253 fun e263 w264 =>
  ∃ b262, e263 = Ending.returned (Value.bool b262) ∧
  V.sel (!b262)
  (∃ w265, Sem.run Try.prog (Instr.storeAt 4 (Value.pointer (some ⟨Array.size (World.heap w5), 0, none⟩)) (Value.bool false)) w264 = .ok () w265 ∧
  V.closeR (Array.size (World.heap (V.setLoop w214 l161 Rc160 .exhausted none)) :: (Array.size (World.heap w157) :: [])) w265 fun w266 =>
  ∃ b267, World.cell? w266 ⟨Array.size (World.heap w5), 0, none⟩ = some (Value.bool b267) ∧
  R (Ending.returned (Value.bool b267)) w266)
  (∃ n268, World.cell? w264 ⟨Array.size (World.heap w155), 0, none⟩ = some (Value.int .i64 n268) ∧
  ∃ w269, Sem.run Try.prog (Instr.storeAt 3 (Value.pointer (some ⟨Array.size (World.heap w155), 0, none⟩)) (Value.int .i64 (IntKind.wrap .i64 (n268 + 1)))) w264 = .ok () w269 ∧
  I237 w269 ∧ μ238 w269 < μ238 w240))
  (∃ n270, World.cell? w253 ⟨Array.size (World.heap w155), 0, none⟩ = some (Value.int .i64 n270) ∧
  ∃ w271, Sem.run Try.prog (Instr.storeAt 3 (Value.pointer (some ⟨Array.size (World.heap w155), 0, none⟩)) (Value.int .i64 (IntKind.wrap .i64 (n270 + 1)))) w253 = .ok () w271 ∧
  I237 w271 ∧ μ238 w271 < μ238 w240))
  (∃ n272, World.cell? w253 ⟨Array.size (World.heap w155), 0, none⟩ = some (Value.int .i64 n272) ∧
  ∃ w273, Sem.run Try.prog (Instr.storeAt 3 (Value.pointer (some ⟨Array.size (World.heap w155), 0, none⟩)) (Value.int .i64 (IntKind.wrap .i64 (n272 + 1)))) w253 = .ok () w273 ∧
  I237 w273 ∧ μ238 w273 < μ238 w240)))
  (V.ptr walk_147 fun a274 =>
  ∃ f275, ∃ f275a, ∃ f275c, World.cell? w240 a274 = some (Value.func (.func f275) f275a f275c) ∧
  V.when (V.hasB Try.prog f275 && true) (∀ (Rc276 : Loop) (l277 : Nat) (w278 : World), l277 = Array.size (World.heap w240) + 1 → w278 = World.alloc (World.alloc w240 (.deferred (some []))) (.loop { Rc276 with state := .ready, pending := none }) →
  (∀ y167_281 y168_282 (W279 : World) (R280 : Ending → World → Prop), V.LoopSt W279 l277 Rc276 .ready none →
  (V.LoopSt W279 l277 Rc276 .ready none ∧
  ∃ A283, ∃ A283l, ∃ A283c, World.cell? (V.setLoop W279 l277 Rc276 .busy none) ⟨Array.size (World.heap w154), 0, none⟩ = some (Value.slice A283 A283l A283c) ∧
  ∀ w284, w284 = (World.alloc (V.setLoop W279 l277 Rc276 .busy none) (.cells #[(Value.int .i64 y167_281), (Value.string y168_282)] 64)) →
  ∃ A285, ∃ A285l, ∃ A285c, ∃ w286, Sem.run Try.prog (Builtin.append_ #[62, 62] 62 #[(Value.slice A283 A283l A283c), (Value.slice (some ⟨Array.size (World.heap (V.setLoop W279 l277 Rc276 .busy none)), 0, none⟩) 1 1)]) w284 = .ok (Value.slice A285 A285l A285c) w286 ∧
  ∃ w287, Sem.run Try.prog (Instr.storeAt 62 (Value.pointer (some ⟨Array.size (World.heap w154), 0, none⟩)) (Value.slice A285 A285l A285c)) w286 = .ok () w287 ∧
  ∃ A288, ∃ A288l, ∃ A288c, World.cell? w287 ⟨Array.size (World.heap w154), 0, none⟩ = some (Value.slice A288 A288l A288c) ∧
  V.ptr want_148 fun a289 =>
  ∃ A290, ∃ A290l, ∃ A290c, World.cell? w287 a289 = some (Value.slice A290 A290l A290c) ∧
  V.sel (decide (((A288l : Nat) : Int) > ((A290l : Nat) : Int)))
  (∃ w291, Sem.run Try.prog (Instr.storeAt 4 (Value.pointer (some ⟨Array.size (World.heap w5), 0, none⟩)) (Value.bool false)) w287 = .ok () w291 ∧
  V.LoopSt w291 l277 Rc276 .busy none ∧ R280 (Ending.returned (Value.bool false)) (V.setLoop w291 l277 Rc276 .done (some Code.ret)))
  (V.LoopSt w287 l277 Rc276 .busy none ∧ R280 (Ending.returned (Value.bool true)) (V.setLoop w287 l277 Rc276 .ready none))) →
  V.Yield Try.prog l277 [(Value.int .i64 y167_281), (Value.string y168_282)] W279 R280) →
  Calls Try.prog f275 ⟨Array.toList f275a ++ [(Value.func (.yield l277) #[] #[])] ++ Array.toList f275c⟩ w278 fun e292 w294 => (∃ v293, e292 = Ending.returned v293) ∧
  ((V.LoopSt w294 l277 Rc276 .ready none ∧
  ∀ w295, w295 = (World.alloc (V.setLoop w294 l277 Rc276 .exhausted none) (.cells #[(Value.int .i64 0)] 3)) →
  ∃ w296, Sem.run Try.prog (Instr.storeAt 3 (Value.pointer (some ⟨Array.size (World.heap (V.setLoop w294 l277 Rc276 .exhausted none)), 0, none⟩)) (Value.int .i64 0)) w295 = .ok () w296 ∧
  V.ptr walk_147 fun a297 =>
  ∃ f298, ∃ f298a, ∃ f298c, World.cell? w296 a297 = some (Value.func (.func f298) f298a f298c) ∧
  V.when (V.hasB Try.prog f298 && true) (∀ (Rc299 : Loop) (l300 : Nat) (w301 : World), l300 = Array.size (World.heap w296) + 1 → w301 = World.alloc (World.alloc w296 (.deferred (some []))) (.loop { Rc299 with state := .ready, pending := none }) →
  (∀ y181_304 y182_305 (W302 : World) (R303 : Ending → World → Prop), V.LoopSt W302 l300 Rc299 .ready none →
  (V.LoopSt W302 l300 Rc299 .ready none ∧
  ∃ n306, World.cell? (V.setLoop W302 l300 Rc299 .busy none) ⟨Array.size (World.heap (V.setLoop w294 l277 Rc276 .exhausted none)), 0, none⟩ = some (Value.int .i64 n306) ∧
  V.ptr want_148 fun a307 =>
  ∃ A308, ∃ A308l, ∃ A308c, World.cell? (V.setLoop W302 l300 Rc299 .busy none) a307 = some (Value.slice A308 A308l A308c) ∧
  V.sel (decide (n306 ≥ ((A308l : Nat) : Int)))
  (∃ w309, Sem.run Try.prog (Instr.storeAt 4 (Value.pointer (some ⟨Array.size (World.heap w5), 0, none⟩)) (Value.bool false)) (V.setLoop W302 l300 Rc299 .busy none) = .ok () w309 ∧
  V.LoopSt w309 l300 Rc299 .busy none ∧ R303 (Ending.returned (Value.bool false)) (V.setLoop w309 l300 Rc299 .done (some Code.ret)))
  (V.ptr want_148 fun a310 =>
  ∃ A311, ∃ A311l, ∃ A311c, World.cell? (V.setLoop W302 l300 Rc299 .busy none) a310 = some (Value.slice A311 A311l A311c) ∧
  ∃ n312, World.cell? (V.setLoop W302 l300 Rc299 .busy none) ⟨Array.size (World.heap (V.setLoop w294 l277 Rc276 .exhausted none)), 0, none⟩ = some (Value.int .i64 n312) ∧
  V.when (decide ((0 : Int) ≤ n312 ∧ (n312 : Int) < ((A311l : Nat) : Int))) (V.ptr A311 fun a313 =>
  ∃ n314, World.cell? (V.setLoop W302 l300 Rc299 .busy none) (Addr.add (Addr.add a313 ((Int.toNat n312) * 3)) 0) = some (Value.int .i64 n314) ∧
  V.sel (y181_304 != n314)
  (∃ w315, Sem.run Try.prog (Instr.storeAt 4 (Value.pointer (some ⟨Array.size (World.heap w5), 0, none⟩)) (Value.bool false)) (V.setLoop W302 l300 Rc299 .busy none) = .ok () w315 ∧
  V.LoopSt w315 l300 Rc299 .busy none ∧ R303 (Ending.returned (Value.bool false)) (V.setLoop w315 l300 Rc299 .done (some Code.ret)))
  (V.ptr want_148 fun a316 =>
  ∃ A317, ∃ A317l, ∃ A317c, World.cell? (V.setLoop W302 l300 Rc299 .busy none) a316 = some (Value.slice A317 A317l A317c) ∧
  ∃ n318, World.cell? (V.setLoop W302 l300 Rc299 .busy none) ⟨Array.size (World.heap (V.setLoop w294 l277 Rc276 .exhausted none)), 0, none⟩ = some (Value.int .i64 n318) ∧
  V.when (decide ((0 : Int) ≤ n318 ∧ (n318 : Int) < ((A317l : Nat) : Int))) (V.ptr A317 fun a319 =>
  ∃ s320, World.cell? (V.setLoop W302 l300 Rc299 .busy none) (Addr.add (Addr.add a319 ((Int.toNat n318) * 3)) 1) = some (Value.string s320) ∧
  V.sel (!(ByteArray.toList y182_305 == ByteArray.toList s320))
  (∃ w321, Sem.run Try.prog (Instr.storeAt 4 (Value.pointer (some ⟨Array.size (World.heap w5), 0, none⟩)) (Value.bool false)) (V.setLoop W302 l300 Rc299 .busy none) = .ok () w321 ∧
  V.LoopSt w321 l300 Rc299 .busy none ∧ R303 (Ending.returned (Value.bool false)) (V.setLoop w321 l300 Rc299 .done (some Code.ret)))
  (∀ w322, w322 = (World.alloc (V.setLoop W302 l300 Rc299 .busy none) (.cells #[(Value.int .i64 0)] 3)) →
  ∃ w323, Sem.run Try.prog (Instr.storeAt 3 (Value.pointer (some ⟨Array.size (World.heap (V.setLoop W302 l300 Rc299 .busy none)), 0, none⟩)) (Value.int .i64 0)) w322 = .ok () w323 ∧
  V.ptr walk_147 fun a324 =>
  ∃ f325, ∃ f325a, ∃ f325c, World.cell? w323 a324 = some (Value.func (.func f325) f325a f325c) ∧
  V.when (V.hasB Try.prog f325 && true) ((∃ r0, (World.heap w323)[l300]? = some (.loop r0)) ∧
  ∀ (Rc326 : Loop) (l327 : Nat) (w328 : World), l327 = Array.size (World.heap w323) → w328 = World.alloc w323 (.loop { Rc326 with state := .ready, pending := none }) →
  (∀ y206_331 y207_332 (W329 : World) (R330 : Ending → World → Prop), V.LoopSt W329 l327 Rc326 .ready none →
  (V.LoopSt W329 l327 Rc326 .ready none ∧
  ∃ n333, World.cell? (V.setLoop W329 l327 Rc326 .busy none) ⟨Array.size (World.heap (V.setLoop W302 l300 Rc299 .busy none)), 0, none⟩ = some (Value.int .i64 n333) ∧
  V.ptr want_148 fun a334 =>
  ∃ A335, ∃ A335l, ∃ A335c, World.cell? (V.setLoop W329 l327 Rc326 .busy none) a334 = some (Value.slice A335 A335l A335c) ∧
  V.sel (decide (n333 ≥ ((A335l : Nat) : Int)))
  (∃ w336, Sem.run Try.prog (Instr.storeAt 4 (Value.pointer (some ⟨Array.size (World.heap w5), 0, none⟩)) (Value.bool false)) (V.setLoop W329 l327 Rc326 .busy none) = .ok () w336 ∧
  V.LoopSt w336 l327 Rc326 .busy none ∧ R330 (Ending.returned (Value.bool false)) (V.setLoop w336 l327 Rc326 .done (some Code.ret)))
  (V.ptr want_148 fun a337 =>
  ∃ A338, ∃ A338l, ∃ A338c, World.cell? (V.setLoop W329 l327 Rc326 .busy none) a337 = some (Value.slice A338 A338l A338c) ∧
  ∃ n339, World.cell? (V.setLoop W329 l327 Rc326 .busy none) ⟨Array.size (World.heap (V.setLoop W302 l300 Rc299 .busy none)), 0, none⟩ = some (Value.int .i64 n339) ∧
  V.when (decide ((0 : Int) ≤ n339 ∧ (n339 : Int) < ((A338l : Nat) : Int))) (V.ptr A338 fun a340 =>
  ∃ n341, World.cell? (V.setLoop W329 l327 Rc326 .busy none) (Addr.add (Addr.add a340 ((Int.toNat n339) * 3)) 0) = some (Value.int .i64 n341) ∧
  V.sel (y206_331 != n341)
  (∃ w342, Sem.run Try.prog (Instr.storeAt 4 (Value.pointer (some ⟨Array.size (World.heap w5), 0, none⟩)) (Value.bool false)) (V.setLoop W329 l327 Rc326 .busy none) = .ok () w342 ∧
  V.LoopSt w342 l327 Rc326 .busy none ∧ R330 (Ending.returned (Value.bool false)) (V.setLoop w342 l327 Rc326 .done (some Code.ret)))
  (V.ptr want_148 fun a343 =>
  ∃ A344, ∃ A344l, ∃ A344c, World.cell? (V.setLoop W329 l327 Rc326 .busy none) a343 = some (Value.slice A344 A344l A344c) ∧
  ∃ n345, World.cell? (V.setLoop W329 l327 Rc326 .busy none) ⟨Array.size (World.heap (V.setLoop W302 l300 Rc299 .busy none)), 0, none⟩ = some (Value.int .i64 n345) ∧
  V.when (decide ((0 : Int) ≤ n345 ∧ (n345 : Int) < ((A344l : Nat) : Int))) (V.ptr A344 fun a346 =>
  ∃ s347, World.cell? (V.setLoop W329 l327 Rc326 .busy none) (Addr.add (Addr.add a346 ((Int.toNat n345) * 3)) 1) = some (Value.string s347) ∧
  V.sel (!(ByteArray.toList y207_332 == ByteArray.toList s347))
  (∃ w348, Sem.run Try.prog (Instr.storeAt 4 (Value.pointer (some ⟨Array.size (World.heap w5), 0, none⟩)) (Value.bool false)) (V.setLoop W329 l327 Rc326 .busy none) = .ok () w348 ∧
  V.LoopSt w348 l327 Rc326 .busy none ∧ R330 (Ending.returned (Value.bool false)) (V.setLoop w348 l327 Rc326 .done (some Code.ret)))
  (∃ n349, World.cell? (V.setLoop W329 l327 Rc326 .busy none) ⟨Array.size (World.heap (V.setLoop W302 l300 Rc299 .busy none)), 0, none⟩ = some (Value.int .i64 n349) ∧
  ∃ w350, Sem.run Try.prog (Instr.storeAt 3 (Value.pointer (some ⟨Array.size (World.heap (V.setLoop W302 l300 Rc299 .busy none)), 0, none⟩)) (Value.int .i64 (IntKind.wrap .i64 (n349 + 1)))) (V.setLoop W329 l327 Rc326 .busy none) = .ok () w350 ∧
  ∃ n351, World.cell? w350 ⟨Array.size (World.heap (V.setLoop W302 l300 Rc299 .busy none)), 0, none⟩ = some (Value.int .i64 n351) ∧
  ∃ n352, World.cell? w350 ⟨Array.size (World.heap (V.setLoop w294 l277 Rc276 .exhausted none)), 0, none⟩ = some (Value.int .i64 n352) ∧
  V.sel (decide (n351 > n352))
  (V.LoopSt w350 l327 Rc326 .busy none ∧ R330 (Ending.returned (Value.bool false)) (V.setLoop w350 l327 Rc326 .done (some (Code.exit 14))))
  (V.LoopSt w350 l327 Rc326 .busy none ∧ R330 (Ending.returned (Value.bool true)) (V.setLoop w350 l327 Rc326 .ready none)))))))) →
  V.Yield Try.prog l327 [(Value.int .i64 y206_331), (Value.string y207_332)] W329 R330) →
  Calls Try.prog f325 ⟨Array.toList f325a ++ [(Value.func (.yield l327) #[] #[])] ++ Array.toList f325c⟩ w328 fun e353 w355 => (∃ v354, e353 = Ending.returned v354) ∧
  ((V.LoopSt w355 l327 Rc326 .ready none ∧
  ∃ n356, World.cell? (V.setLoop w355 l327 Rc326 .exhausted none) ⟨Array.size (World.heap (V.setLoop w294 l277 Rc276 .exhausted none)), 0, none⟩ = some (Value.int .i64 n356) ∧
  ∃ w357, Sem.run Try.prog (Instr.storeAt 3 (Value.pointer (some ⟨Array.size (World.heap (V.setLoop w294 l277 Rc276 .exhausted none)), 0, none⟩)) (Value.int .i64 (IntKind.wrap .i64 (n356 + 1)))) (V.setLoop w355 l327 Rc326 .exhausted none) = .ok () w357 ∧
  V.LoopSt w357 l300 Rc299 .busy none ∧ R303 (Ending.returned (Value.bool true)) (V.setLoop w357 l300 Rc299 .ready none)) ∨
  (V.LoopSt w355 l327 Rc326 .done (some Code.ret) ∧
  V.LoopSt (V.setLoop w355 l327 Rc326 .exhausted (some Code.ret)) l300 Rc299 .busy none ∧ R303 (Ending.returned (Value.bool false)) (V.setLoop (V.setLoop w355 l327 Rc326 .exhausted (some Code.ret)) l300 Rc299 .done (some Code.ret))) ∨
  (V.LoopSt w355 l327 Rc326 .done (some (Code.exit 14)) ∧
  ∃ n358, World.cell? (V.setLoop w355 l327 Rc326 .exhausted (some (Code.exit 14))) ⟨Array.size (World.heap (V.setLoop w294 l277 Rc276 .exhausted none)), 0, none⟩ = some (Value.int .i64 n358) ∧
  ∃ w359, Sem.run Try.prog (Instr.storeAt 3 (Value.pointer (some ⟨Array.size (World.heap (V.setLoop w294 l277 Rc276 .exhausted none)), 0, none⟩)) (Value.int .i64 (IntKind.wrap .i64 (n358 + 1)))) (V.setLoop w355 l327 Rc326 .exhausted (some (Code.exit 14))) = .ok () w359 ∧
  V.LoopSt w359 l300 Rc299 .busy none ∧ R303 (Ending.returned (Value.bool true)) (V.setLoop w359 l300 Rc299 .ready none)) ∨
  False)))))))) →
  V.Yield Try.prog l300 [(Value.int .i64 y181_304), (Value.string y182_305)] W302 R303) →
  Calls Try.prog f298 ⟨Array.toList f298a ++ [(Value.func (.yield l300) #[] #[])] ++ Array.toList f298c⟩ w301 fun e360 w362 => (∃ v361, e360 = Ending.returned v361) ∧
  ((V.LoopSt w362 l300 Rc299 .ready none ∧
  ∃ S363 : World → Prop, S363 (World.drew (V.setLoop w362 l300 Rc299 .exhausted none)) ∧
  ∃ n365, (∀ w364, S363 w364 → World.cell? w364 ⟨Array.size (World.heap (V.setLoop w294 l277 Rc276 .exhausted none)), 0, none⟩ = some (Value.int .i64 n365)) ∧
  V.ptr want_148 fun a366 =>
  ∃ A367, ∃ A367l, ∃ A367c, (∀ w364, S363 w364 → World.cell? w364 a366 = some (Value.slice A367 A367l A367c)) ∧
  V.sel (n365 == ((A367l : Nat) : Int))
  (∃ A368, ∃ A368l, ∃ A368c, (∀ w364, S363 w364 → World.cell? w364 ⟨Array.size (World.heap w150), 0, none⟩ = some (Value.slice A368 A368l A368c)) ∧
  V.ptr want_148 fun a369 =>
  ∃ A370, ∃ A370l, ∃ A370c, (∀ w364, S363 w364 → World.cell? w364 a369 = some (Value.slice A370 A370l A370c)) ∧
  V.ptr want_148 fun a371 =>
  ∃ A372, ∃ A372l, ∃ A372c, (∀ w364, S363 w364 → World.cell? w364 a371 = some (Value.slice A372 A372l A372c)) ∧
  Calls Try.prog 24 #[(Value.slice A368 A368l A368c), (Value.slice A370 A370l A370c), (Value.int .i64 ((A372l : Nat) : Int))] (World.drew (V.setLoop w362 l300 Rc299 .exhausted none)) fun e374 w375 =>
  ∃ b373, e374 = Ending.returned (Value.bool b373) ∧
  S363 w375 ∧
  V.sel b373
  (∃ A376, ∃ A376l, ∃ A376c, (∀ w364, S363 w364 → World.cell? w364 ⟨Array.size (World.heap w153), 0, none⟩ = some (Value.slice A376 A376l A376c)) ∧
  V.ptr want_148 fun a377 =>
  ∃ A378, ∃ A378l, ∃ A378c, (∀ w364, S363 w364 → World.cell? w364 a377 = some (Value.slice A378 A378l A378c)) ∧
  ∃ n379, (∀ w364, S363 w364 → World.cell? w364 ⟨Array.size (World.heap w4), 0, none⟩ = some (Value.int .i64 n379)) ∧
  Calls Try.prog 24 #[(Value.slice A376 A376l A376c), (Value.slice A378 A378l A378c), (Value.int .i64 (if n379 > 1 then n379 else 1))] w375 fun e381 w382 =>
  ∃ b380, e381 = Ending.returned (Value.bool b380) ∧
  S363 w382 ∧
  V.sel b380
  (∃ A383, ∃ A383l, ∃ A383c, (∀ w364, S363 w364 → World.cell? w364 ⟨Array.size (World.heap w154), 0, none⟩ = some (Value.slice A383 A383l A383c)) ∧
  V.ptr want_148 fun a384 =>
  ∃ A385, ∃ A385l, ∃ A385c, (∀ w364, S363 w364 → World.cell? w364 a384 = some (Value.slice A385 A385l A385c)) ∧
  V.ptr want_148 fun a386 =>
  ∃ A387, ∃ A387l, ∃ A387c, (∀ w364, S363 w364 → World.cell? w364 a386 = some (Value.slice A387 A387l A387c)) ∧
  Calls Try.prog 24 #[(Value.slice A383 A383l A383c), (Value.slice A385 A385l A385c), (Value.int .i64 ((A387l : Nat) : Int))] w382 fun e389 w390 =>
  ∃ b388, e389 = Ending.returned (Value.bool b388) ∧
  S363 w390 ∧
  V.sel b388
  (∃ p391, (∀ w364, S363 w364 → World.cell? w364 ⟨Array.size (World.heap w15), 0, none⟩ = some (Value.pointer p391)) ∧
  V.ptr p391 fun a392 =>
  ∃ p393, (∀ w364, S363 w364 → World.cell? w364 (Addr.add (Addr.add a392 0) 1) = some (Value.pointer p393)) ∧
  ∃ p394, (∀ w364, S363 w364 → World.cell? w364 ⟨Array.size (World.heap w15), 0, none⟩ = some (Value.pointer p394)) ∧
  V.ptr p394 fun a395 =>
  ∃ n396, ∃ A397, ∃ A397l, ∃ A397c, V.cellsC (fun a_ x_ => ∀ w364, S363 w364 → World.cell? w364 a_ = some x_) (Addr.add (Addr.add a395 4) 2) [(Value.int .i64 n396), (Value.slice A397 A397l A397c)] ∧
  Calls Try.prog 21 #[(Value.pointer p393), (Value.agg #[(Value.int .i64 n396), (Value.slice A397 A397l A397c)])] w390 fun e399 w400 =>
  ∃ b398, e399 = Ending.returned (Value.bool b398) ∧
  S363 w400 ∧
  ∃ w401, Sem.run Try.prog (Instr.storeAt 4 (Value.pointer (some ⟨Array.size (World.heap w5), 0, none⟩)) (Value.bool b398)) w400 = .ok () w401 ∧
  V.closeR (Array.size (World.heap w296) :: (Array.size (World.heap w240) :: (Array.size (World.heap (V.setLoop w214 l161 Rc160 .exhausted none)) :: (Array.size (World.heap w157) :: [])))) w401 fun w402 =>
  ∃ b403, World.cell? w402 ⟨Array.size (World.heap w5), 0, none⟩ = some (Value.bool b403) ∧
  R (Ending.returned (Value.bool b403)) w402)
  (∃ w404, Sem.run Try.prog (Instr.storeAt 4 (Value.pointer (some ⟨Array.size (World.heap w5), 0, none⟩)) (Value.bool false)) w390 = .ok () w404 ∧
  V.closeR (Array.size (World.heap w296) :: (Array.size (World.heap w240) :: (Array.size (World.heap (V.setLoop w214 l161 Rc160 .exhausted none)) :: (Array.size (World.heap w157) :: [])))) w404 fun w405 =>
  ∃ b406, World.cell? w405 ⟨Array.size (World.heap w5), 0, none⟩ = some (Value.bool b406) ∧
  R (Ending.returned (Value.bool b406)) w405))
  (∃ w407, Sem.run Try.prog (Instr.storeAt 4 (Value.pointer (some ⟨Array.size (World.heap w5), 0, none⟩)) (Value.bool false)) w382 = .ok () w407 ∧
  V.closeR (Array.size (World.heap w296) :: (Array.size (World.heap w240) :: (Array.size (World.heap (V.setLoop w214 l161 Rc160 .exhausted none)) :: (Array.size (World.heap w157) :: [])))) w407 fun w408 =>
  ∃ b409, World.cell? w408 ⟨Array.size (World.heap w5), 0, none⟩ = some (Value.bool b409) ∧
  R (Ending.returned (Value.bool b409)) w408))
  (∃ w410, Sem.run Try.prog (Instr.storeAt 4 (Value.pointer (some ⟨Array.size (World.heap w5), 0, none⟩)) (Value.bool false)) w375 = .ok () w410 ∧
  V.closeR (Array.size (World.heap w296) :: (Array.size (World.heap w240) :: (Array.size (World.heap (V.setLoop w214 l161 Rc160 .exhausted none)) :: (Array.size (World.heap w157) :: [])))) w410 fun w411 =>
  ∃ b412, World.cell? w411 ⟨Array.size (World.heap w5), 0, none⟩ = some (Value.bool b412) ∧
  R (Ending.returned (Value.bool b412)) w411))
  (∃ w413, Sem.run Try.prog (Instr.storeAt 4 (Value.pointer (some ⟨Array.size (World.heap w5), 0, none⟩)) (Value.bool false)) (World.drew (V.setLoop w362 l300 Rc299 .exhausted none)) = .ok () w413 ∧
  V.closeR (Array.size (World.heap w296) :: (Array.size (World.heap w240) :: (Array.size (World.heap (V.setLoop w214 l161 Rc160 .exhausted none)) :: (Array.size (World.heap w157) :: [])))) w413 fun w414 =>
  ∃ b415, World.cell? w414 ⟨Array.size (World.heap w5), 0, none⟩ = some (Value.bool b415) ∧
  R (Ending.returned (Value.bool b415)) w414)) ∨
  (V.LoopSt w362 l300 Rc299 .done (some Code.ret) ∧
  V.closeR (Array.size (World.heap w296) :: (Array.size (World.heap w240) :: (Array.size (World.heap (V.setLoop w214 l161 Rc160 .exhausted none)) :: (Array.size (World.heap w157) :: [])))) (V.setLoop w362 l300 Rc299 .exhausted (some Code.ret)) fun w416 =>
  ∃ b417, World.cell? w416 ⟨Array.size (World.heap w5), 0, none⟩ = some (Value.bool b417) ∧
  R (Ending.returned (Value.bool b417)) w416) ∨
  False))) ∨
  (V.LoopSt w294 l277 Rc276 .done (some Code.ret) ∧
  V.closeR (Array.size (World.heap w240) :: (Array.size (World.heap (V.setLoop w214 l161 Rc160 .exhausted none)) :: (Array.size (World.heap w157) :: []))) (V.setLoop w294 l277 Rc276 .exhausted (some Code.ret)) fun w418 =>
  ∃ b419, World.cell? w418 ⟨Array.size (World.heap w5), 0, none⟩ = some (Value.bool b419) ∧
  R (Ending.returned (Value.bool b419)) w418) ∨
  False))))) ∨
  (V.LoopSt w236 l218 Rc217 .done (some (Code.exit 6)) ∧
  ∃ I420 : World → Prop, ∃ μ421 : World → Nat, I420 (V.setLoop w236 l218 Rc217 .exhausted (some (Code.exit 6))) ∧
  ∀ (j422 : Nat → Value) (w423 : World), I420 w423 →
  (∃ n424, World.cell? w423 ⟨Array.size (World.heap w155), 0, none⟩ = some (Value.int .i64 n424) ∧
  ∃ A425, ∃ A425l, ∃ A425c, World.cell? w423 ⟨Array.size (World.heap w), 0, none⟩ = some (Value.slice A425 A425l A425c) ∧
  V.sel (decide (n424 < ((A425l : Nat) : Int)))
  (∃ A426, ∃ A426l, ∃ A426c, World.cell? w423 ⟨Array.size (World.heap w), 0, none⟩ = some (Value.slice A426 A426l A426c) ∧
  ∃ n427, World.cell? w423 ⟨Array.size (World.heap w155), 0, none⟩ = some (Value.int .i64 n427) ∧
  V.when (decide ((0 : Int) ≤ n427 ∧ (n427 : Int) < ((A426l : Nat) : Int))) (V.ptr A426 fun a428 =>
  ∃ n429, ∃ n430, ∃ n431, ∃ s432, ∃ n433, V.cellsC (fun a_ x_ => World.cell? w423 a_ = some x_) (Addr.add a428 ((Int.toNat n427) * 5)) [(Value.int .i64 n429), (Value.int .i64 n430), (Value.int .i64 n431), (Value.string s432), (Value.int .i64 n433)] ∧
  ∀ w434, w434 = (World.alloc w423 (.cells #[(Value.int .i64 0), (Value.int .i64 0), (Value.int .i64 0), (Value.string ByteArray.empty), (Value.int .i64 0)] 31)) →
  ∃ w435, Sem.run Try.prog (Instr.storeAt 31 (Value.pointer (some ⟨Array.size (World.heap w423), 0, none⟩)) (Value.agg #[(Value.int .i64 n429), (Value.int .i64 n430), (Value.int .i64 n431), (Value.string s432), (Value.int .i64 n433)])) w434 = .ok () w435 ∧
  ∃ w436, Sem.run Try.prog (Instr.storeAt 3 (Value.pointer (some (Addr.add ⟨Array.size (World.heap w423), 0, none⟩ 1))) (Value.int .i64 1)) w435 = .ok () w436 ∧
  ∃ n437, World.cell? w436 (Addr.add ⟨Array.size (World.heap w423), 0, none⟩ 0) = some (Value.int .i64 n437) ∧
  V.sel (decide (n437 ≥ 2))
  (∃ n438, World.cell? w436 (Addr.add ⟨Array.size (World.heap w423), 0, none⟩ 0) = some (Value.int .i64 n438) ∧
  V.sel (decide (n438 ≤ 4))
  (∃ p439, World.cell? w436 ⟨Array.size (World.heap w15), 0, none⟩ = some (Value.pointer p439) ∧
  ∃ n440, ∃ n441, ∃ n442, ∃ s443, ∃ n444, V.cellsC (fun a_ x_ => World.cell? w436 a_ = some x_) ⟨Array.size (World.heap w423), 0, none⟩ [(Value.int .i64 n440), (Value.int .i64 n441), (Value.int .i64 n442), (Value.string s443), (Value.int .i64 n444)] ∧
  Calls Try.prog 20 #[(Value.pointer p439), (Value.agg #[(Value.int .i64 n440), (Value.int .i64 n441), (Value.int .i64 n442), (Value.string s443), (Value.int .i64 n444)])] w436 fun e446 w447 =>
  ∃ b445, e446 = Ending.returned (Value.bool b445) ∧
  V.sel (!b445)
  (∃ w448, Sem.run Try.prog (Instr.storeAt 4 (Value.pointer (some ⟨Array.size (World.heap w5), 0, none⟩)) (Value.bool false)) w447 = .ok () w448 ∧
  V.closeR (Array.size (World.heap (V.setLoop w214 l161 Rc160 .exhausted none)) :: (Array.size (World.heap w157) :: [])) w448 fun w449 =>
  ∃ b450, World.cell? w449 ⟨Array.size (World.heap w5), 0, none⟩ = some (Value.bool b450) ∧
  R (Ending.returned (Value.bool b450)) w449)
  (∃ n451, World.cell? w447 ⟨Array.size (World.heap w155), 0, none⟩ = some (Value.int .i64 n451) ∧
  ∃ w452, Sem.run Try.prog (Instr.storeAt 3 (Value.pointer (some ⟨Array.size (World.heap w155), 0, none⟩)) (Value.int .i64 (IntKind.wrap .i64 (n451 + 1)))) w447 = .ok () w452 ∧
  I420 w452 ∧ μ421 w452 < μ421 w423))
  (∃ n453, World.cell? w436 ⟨Array.size (World.heap w155), 0, none⟩ = some (Value.int .i64 n453) ∧
  ∃ w454, Sem.run Try.prog (Instr.storeAt 3 (Value.pointer (some ⟨Array.size (World.heap w155), 0, none⟩)) (Value.int .i64 (IntKind.wrap .i64 (n453 + 1)))) w436 = .ok () w454 ∧
  I420 w454 ∧ μ421 w454 < μ421 w423))
  (∃ n455, World.cell? w436 ⟨Array.size (World.heap w155), 0, none⟩ = some (Value.int .i64 n455) ∧
  ∃ w456, Sem.run Try.prog (Instr.storeAt 3 (Value.pointer (some ⟨Array.size (World.heap w155), 0, none⟩)) (Value.int .i64 (IntKind.wrap .i64 (n455 + 1)))) w436 = .ok () w456 ∧
  I420 w456 ∧ μ421 w456 < μ421 w423)))
  (V.ptr walk_147 fun a457 =>
  ∃ f458, ∃ f458a, ∃ f458c, World.cell? w423 a457 = some (Value.func (.func f458) f458a f458c) ∧
  V.when (V.hasB Try.prog f458 && true) (∀ (Rc459 : Loop) (l460 : Nat) (w461 : World), l460 = Array.size (World.heap w423) + 1 → w461 = World.alloc (World.alloc w423 (.deferred (some []))) (.loop { Rc459 with state := .ready, pending := none }) →
  (∀ y167_464 y168_465 (W462 : World) (R463 : Ending → World → Prop), V.LoopSt W462 l460 Rc459 .ready none →
  (V.LoopSt W462 l460 Rc459 .ready none ∧
  ∃ A466, ∃ A466l, ∃ A466c, World.cell? (V.setLoop W462 l460 Rc459 .busy none) ⟨Array.size (World.heap w154), 0, none⟩ = some (Value.slice A466 A466l A466c) ∧
  ∀ w467, w467 = (World.alloc (V.setLoop W462 l460 Rc459 .busy none) (.cells #[(Value.int .i64 y167_464), (Value.string y168_465)] 64)) →
  ∃ A468, ∃ A468l, ∃ A468c, ∃ w469, Sem.run Try.prog (Builtin.append_ #[62, 62] 62 #[(Value.slice A466 A466l A466c), (Value.slice (some ⟨Array.size (World.heap (V.setLoop W462 l460 Rc459 .busy none)), 0, none⟩) 1 1)]) w467 = .ok (Value.slice A468 A468l A468c) w469 ∧
  ∃ w470, Sem.run Try.prog (Instr.storeAt 62 (Value.pointer (some ⟨Array.size (World.heap w154), 0, none⟩)) (Value.slice A468 A468l A468c)) w469 = .ok () w470 ∧
  ∃ A471, ∃ A471l, ∃ A471c, World.cell? w470 ⟨Array.size (World.heap w154), 0, none⟩ = some (Value.slice A471 A471l A471c) ∧
  V.ptr want_148 fun a472 =>
  ∃ A473, ∃ A473l, ∃ A473c, World.cell? w470 a472 = some (Value.slice A473 A473l A473c) ∧
  V.sel (decide (((A471l : Nat) : Int) > ((A473l : Nat) : Int)))
  (∃ w474, Sem.run Try.prog (Instr.storeAt 4 (Value.pointer (some ⟨Array.size (World.heap w5), 0, none⟩)) (Value.bool false)) w470 = .ok () w474 ∧
  V.LoopSt w474 l460 Rc459 .busy none ∧ R463 (Ending.returned (Value.bool false)) (V.setLoop w474 l460 Rc459 .done (some Code.ret)))
  (V.LoopSt w470 l460 Rc459 .busy none ∧ R463 (Ending.returned (Value.bool true)) (V.setLoop w470 l460 Rc459 .ready none))) →
  V.Yield Try.prog l460 [(Value.int .i64 y167_464), (Value.string y168_465)] W462 R463) →
  Calls Try.prog f458 ⟨Array.toList f458a ++ [(Value.func (.yield l460) #[] #[])] ++ Array.toList f458c⟩ w461 fun e475 w477 => (∃ v476, e475 = Ending.returned v476) ∧
  ((V.LoopSt w477 l460 Rc459 .ready none ∧
  ∀ w478, w478 = (World.alloc (V.setLoop w477 l460 Rc459 .exhausted none) (.cells #[(Value.int .i64 0)] 3)) →
  ∃ w479, Sem.run Try.prog (Instr.storeAt 3 (Value.pointer (some ⟨Array.size (World.heap (V.setLoop w477 l460 Rc459 .exhausted none)), 0, none⟩)) (Value.int .i64 0)) w478 = .ok () w479 ∧
  V.ptr walk_147 fun a480 =>
  ∃ f481, ∃ f481a, ∃ f481c, World.cell? w479 a480 = some (Value.func (.func f481) f481a f481c) ∧
  V.when (V.hasB Try.prog f481 && true) (∀ (Rc482 : Loop) (l483 : Nat) (w484 : World), l483 = Array.size (World.heap w479) + 1 → w484 = World.alloc (World.alloc w479 (.deferred (some []))) (.loop { Rc482 with state := .ready, pending := none }) →
  (∀ y181_487 y182_488 (W485 : World) (R486 : Ending → World → Prop), V.LoopSt W485 l483 Rc482 .ready none →
  (V.LoopSt W485 l483 Rc482 .ready none ∧
  ∃ n489, World.cell? (V.setLoop W485 l483 Rc482 .busy none) ⟨Array.size (World.heap (V.setLoop w477 l460 Rc459 .exhausted none)), 0, none⟩ = some (Value.int .i64 n489) ∧
  V.ptr want_148 fun a490 =>
  ∃ A491, ∃ A491l, ∃ A491c, World.cell? (V.setLoop W485 l483 Rc482 .busy none) a490 = some (Value.slice A491 A491l A491c) ∧
  V.sel (decide (n489 ≥ ((A491l : Nat) : Int)))
  (∃ w492, Sem.run Try.prog (Instr.storeAt 4 (Value.pointer (some ⟨Array.size (World.heap w5), 0, none⟩)) (Value.bool false)) (V.setLoop W485 l483 Rc482 .busy none) = .ok () w492 ∧
  V.LoopSt w492 l483 Rc482 .busy none ∧ R486 (Ending.returned (Value.bool false)) (V.setLoop w492 l483 Rc482 .done (some Code.ret)))
  (V.ptr want_148 fun a493 =>
  ∃ A494, ∃ A494l, ∃ A494c, World.cell? (V.setLoop W485 l483 Rc482 .busy none) a493 = some (Value.slice A494 A494l A494c) ∧
  ∃ n495, World.cell? (V.setLoop W485 l483 Rc482 .busy none) ⟨Array.size (World.heap (V.setLoop w477 l460 Rc459 .exhausted none)), 0, none⟩ = some (Value.int .i64 n495) ∧
  V.when (decide ((0 : Int) ≤ n495 ∧ (n495 : Int) < ((A494l : Nat) : Int))) (V.ptr A494 fun a496 =>
  ∃ n497, World.cell? (V.setLoop W485 l483 Rc482 .busy none) (Addr.add (Addr.add a496 ((Int.toNat n495) * 3)) 0) = some (Value.int .i64 n497) ∧
  V.sel (y181_487 != n497)
  (∃ w498, Sem.run Try.prog (Instr.storeAt 4 (Value.pointer (some ⟨Array.size (World.heap w5), 0, none⟩)) (Value.bool false)) (V.setLoop W485 l483 Rc482 .busy none) = .ok () w498 ∧
  V.LoopSt w498 l483 Rc482 .busy none ∧ R486 (Ending.returned (Value.bool false)) (V.setLoop w498 l483 Rc482 .done (some Code.ret)))
  (V.ptr want_148 fun a499 =>
  ∃ A500, ∃ A500l, ∃ A500c, World.cell? (V.setLoop W485 l483 Rc482 .busy none) a499 = some (Value.slice A500 A500l A500c) ∧
  ∃ n501, World.cell? (V.setLoop W485 l483 Rc482 .busy none) ⟨Array.size (World.heap (V.setLoop w477 l460 Rc459 .exhausted none)), 0, none⟩ = some (Value.int .i64 n501) ∧
  V.when (decide ((0 : Int) ≤ n501 ∧ (n501 : Int) < ((A500l : Nat) : Int))) (V.ptr A500 fun a502 =>
  ∃ s503, World.cell? (V.setLoop W485 l483 Rc482 .busy none) (Addr.add (Addr.add a502 ((Int.toNat n501) * 3)) 1) = some (Value.string s503) ∧
  V.sel (!(ByteArray.toList y182_488 == ByteArray.toList s503))
  (∃ w504, Sem.run Try.prog (Instr.storeAt 4 (Value.pointer (some ⟨Array.size (World.heap w5), 0, none⟩)) (Value.bool false)) (V.setLoop W485 l483 Rc482 .busy none) = .ok () w504 ∧
  V.LoopSt w504 l483 Rc482 .busy none ∧ R486 (Ending.returned (Value.bool false)) (V.setLoop w504 l483 Rc482 .done (some Code.ret)))
  (∀ w505, w505 = (World.alloc (V.setLoop W485 l483 Rc482 .busy none) (.cells #[(Value.int .i64 0)] 3)) →
  ∃ w506, Sem.run Try.prog (Instr.storeAt 3 (Value.pointer (some ⟨Array.size (World.heap (V.setLoop W485 l483 Rc482 .busy none)), 0, none⟩)) (Value.int .i64 0)) w505 = .ok () w506 ∧
  V.ptr walk_147 fun a507 =>
  ∃ f508, ∃ f508a, ∃ f508c, World.cell? w506 a507 = some (Value.func (.func f508) f508a f508c) ∧
  V.when (V.hasB Try.prog f508 && true) ((∃ r0, (World.heap w506)[l483]? = some (.loop r0)) ∧
  ∀ (Rc509 : Loop) (l510 : Nat) (w511 : World), l510 = Array.size (World.heap w506) → w511 = World.alloc w506 (.loop { Rc509 with state := .ready, pending := none }) →
  (∀ y206_514 y207_515 (W512 : World) (R513 : Ending → World → Prop), V.LoopSt W512 l510 Rc509 .ready none →
  (V.LoopSt W512 l510 Rc509 .ready none ∧
  ∃ n516, World.cell? (V.setLoop W512 l510 Rc509 .busy none) ⟨Array.size (World.heap (V.setLoop W485 l483 Rc482 .busy none)), 0, none⟩ = some (Value.int .i64 n516) ∧
  V.ptr want_148 fun a517 =>
  ∃ A518, ∃ A518l, ∃ A518c, World.cell? (V.setLoop W512 l510 Rc509 .busy none) a517 = some (Value.slice A518 A518l A518c) ∧
  V.sel (decide (n516 ≥ ((A518l : Nat) : Int)))
  (∃ w519, Sem.run Try.prog (Instr.storeAt 4 (Value.pointer (some ⟨Array.size (World.heap w5), 0, none⟩)) (Value.bool false)) (V.setLoop W512 l510 Rc509 .busy none) = .ok () w519 ∧
  V.LoopSt w519 l510 Rc509 .busy none ∧ R513 (Ending.returned (Value.bool false)) (V.setLoop w519 l510 Rc509 .done (some Code.ret)))
  (V.ptr want_148 fun a520 =>
  ∃ A521, ∃ A521l, ∃ A521c, World.cell? (V.setLoop W512 l510 Rc509 .busy none) a520 = some (Value.slice A521 A521l A521c) ∧
  ∃ n522, World.cell? (V.setLoop W512 l510 Rc509 .busy none) ⟨Array.size (World.heap (V.setLoop W485 l483 Rc482 .busy none)), 0, none⟩ = some (Value.int .i64 n522) ∧
  V.when (decide ((0 : Int) ≤ n522 ∧ (n522 : Int) < ((A521l : Nat) : Int))) (V.ptr A521 fun a523 =>
  ∃ n524, World.cell? (V.setLoop W512 l510 Rc509 .busy none) (Addr.add (Addr.add a523 ((Int.toNat n522) * 3)) 0) = some (Value.int .i64 n524) ∧
  V.sel (y206_514 != n524)
  (∃ w525, Sem.run Try.prog (Instr.storeAt 4 (Value.pointer (some ⟨Array.size (World.heap w5), 0, none⟩)) (Value.bool false)) (V.setLoop W512 l510 Rc509 .busy none) = .ok () w525 ∧
  V.LoopSt w525 l510 Rc509 .busy none ∧ R513 (Ending.returned (Value.bool false)) (V.setLoop w525 l510 Rc509 .done (some Code.ret)))
  (V.ptr want_148 fun a526 =>
  ∃ A527, ∃ A527l, ∃ A527c, World.cell? (V.setLoop W512 l510 Rc509 .busy none) a526 = some (Value.slice A527 A527l A527c) ∧
  ∃ n528, World.cell? (V.setLoop W512 l510 Rc509 .busy none) ⟨Array.size (World.heap (V.setLoop W485 l483 Rc482 .busy none)), 0, none⟩ = some (Value.int .i64 n528) ∧
  V.when (decide ((0 : Int) ≤ n528 ∧ (n528 : Int) < ((A527l : Nat) : Int))) (V.ptr A527 fun a529 =>
  ∃ s530, World.cell? (V.setLoop W512 l510 Rc509 .busy none) (Addr.add (Addr.add a529 ((Int.toNat n528) * 3)) 1) = some (Value.string s530) ∧
  V.sel (!(ByteArray.toList y207_515 == ByteArray.toList s530))
  (∃ w531, Sem.run Try.prog (Instr.storeAt 4 (Value.pointer (some ⟨Array.size (World.heap w5), 0, none⟩)) (Value.bool false)) (V.setLoop W512 l510 Rc509 .busy none) = .ok () w531 ∧
  V.LoopSt w531 l510 Rc509 .busy none ∧ R513 (Ending.returned (Value.bool false)) (V.setLoop w531 l510 Rc509 .done (some Code.ret)))
  (∃ n532, World.cell? (V.setLoop W512 l510 Rc509 .busy none) ⟨Array.size (World.heap (V.setLoop W485 l483 Rc482 .busy none)), 0, none⟩ = some (Value.int .i64 n532) ∧
  ∃ w533, Sem.run Try.prog (Instr.storeAt 3 (Value.pointer (some ⟨Array.size (World.heap (V.setLoop W485 l483 Rc482 .busy none)), 0, none⟩)) (Value.int .i64 (IntKind.wrap .i64 (n532 + 1)))) (V.setLoop W512 l510 Rc509 .busy none) = .ok () w533 ∧
  ∃ n534, World.cell? w533 ⟨Array.size (World.heap (V.setLoop W485 l483 Rc482 .busy none)), 0, none⟩ = some (Value.int .i64 n534) ∧
  ∃ n535, World.cell? w533 ⟨Array.size (World.heap (V.setLoop w477 l460 Rc459 .exhausted none)), 0, none⟩ = some (Value.int .i64 n535) ∧
  V.sel (decide (n534 > n535))
  (V.LoopSt w533 l510 Rc509 .busy none ∧ R513 (Ending.returned (Value.bool false)) (V.setLoop w533 l510 Rc509 .done (some (Code.exit 14))))
  (V.LoopSt w533 l510 Rc509 .busy none ∧ R513 (Ending.returned (Value.bool true)) (V.setLoop w533 l510 Rc509 .ready none)))))))) →
  V.Yield Try.prog l510 [(Value.int .i64 y206_514), (Value.string y207_515)] W512 R513) →
  Calls Try.prog f508 ⟨Array.toList f508a ++ [(Value.func (.yield l510) #[] #[])] ++ Array.toList f508c⟩ w511 fun e536 w538 => (∃ v537, e536 = Ending.returned v537) ∧
  ((V.LoopSt w538 l510 Rc509 .ready none ∧
  ∃ n539, World.cell? (V.setLoop w538 l510 Rc509 .exhausted none) ⟨Array.size (World.heap (V.setLoop w477 l460 Rc459 .exhausted none)), 0, none⟩ = some (Value.int .i64 n539) ∧
  ∃ w540, Sem.run Try.prog (Instr.storeAt 3 (Value.pointer (some ⟨Array.size (World.heap (V.setLoop w477 l460 Rc459 .exhausted none)), 0, none⟩)) (Value.int .i64 (IntKind.wrap .i64 (n539 + 1)))) (V.setLoop w538 l510 Rc509 .exhausted none) = .ok () w540 ∧
  V.LoopSt w540 l483 Rc482 .busy none ∧ R486 (Ending.returned (Value.bool true)) (V.setLoop w540 l483 Rc482 .ready none)) ∨
  (V.LoopSt w538 l510 Rc509 .done (some Code.ret) ∧
  V.LoopSt (V.setLoop w538 l510 Rc509 .exhausted (some Code.ret)) l483 Rc482 .busy none ∧ R486 (Ending.returned (Value.bool false)) (V.setLoop (V.setLoop w538 l510 Rc509 .exhausted (some Code.ret)) l483 Rc482 .done (some Code.ret))) ∨
  (V.LoopSt w538 l510 Rc509 .done (some (Code.exit 14)) ∧
  ∃ n541, World.cell? (V.setLoop w538 l510 Rc509 .exhausted (some (Code.exit 14))) ⟨Array.size (World.heap (V.setLoop w477 l460 Rc459 .exhausted none)), 0, none⟩ = some (Value.int .i64 n541) ∧
  ∃ w542, Sem.run Try.prog (Instr.storeAt 3 (Value.pointer (some ⟨Array.size (World.heap (V.setLoop w477 l460 Rc459 .exhausted none)), 0, none⟩)) (Value.int .i64 (IntKind.wrap .i64 (n541 + 1)))) (V.setLoop w538 l510 Rc509 .exhausted (some (Code.exit 14))) = .ok () w542 ∧
  V.LoopSt w542 l483 Rc482 .busy none ∧ R486 (Ending.returned (Value.bool true)) (V.setLoop w542 l483 Rc482 .ready none)) ∨
  False)))))))) →
  V.Yield Try.prog l483 [(Value.int .i64 y181_487), (Value.string y182_488)] W485 R486) →
  Calls Try.prog f481 ⟨Array.toList f481a ++ [(Value.func (.yield l483) #[] #[])] ++ Array.toList f481c⟩ w484 fun e543 w545 => (∃ v544, e543 = Ending.returned v544) ∧
  ((V.LoopSt w545 l483 Rc482 .ready none ∧
  ∃ S546 : World → Prop, S546 (World.drew (V.setLoop w545 l483 Rc482 .exhausted none)) ∧
  ∃ n548, (∀ w547, S546 w547 → World.cell? w547 ⟨Array.size (World.heap (V.setLoop w477 l460 Rc459 .exhausted none)), 0, none⟩ = some (Value.int .i64 n548)) ∧
  V.ptr want_148 fun a549 =>
  ∃ A550, ∃ A550l, ∃ A550c, (∀ w547, S546 w547 → World.cell? w547 a549 = some (Value.slice A550 A550l A550c)) ∧
  V.sel (n548 == ((A550l : Nat) : Int))
  (∃ A551, ∃ A551l, ∃ A551c, (∀ w547, S546 w547 → World.cell? w547 ⟨Array.size (World.heap w150), 0, none⟩ = some (Value.slice A551 A551l A551c)) ∧
  V.ptr want_148 fun a552 =>
  ∃ A553, ∃ A553l, ∃ A553c, (∀ w547, S546 w547 → World.cell? w547 a552 = some (Value.slice A553 A553l A553c)) ∧
  V.ptr want_148 fun a554 =>
  ∃ A555, ∃ A555l, ∃ A555c, (∀ w547, S546 w547 → World.cell? w547 a554 = some (Value.slice A555 A555l A555c)) ∧
  Calls Try.prog 24 #[(Value.slice A551 A551l A551c), (Value.slice A553 A553l A553c), (Value.int .i64 ((A555l : Nat) : Int))] (World.drew (V.setLoop w545 l483 Rc482 .exhausted none)) fun e557 w558 =>
  ∃ b556, e557 = Ending.returned (Value.bool b556) ∧
  S546 w558 ∧
  V.sel b556
  (∃ A559, ∃ A559l, ∃ A559c, (∀ w547, S546 w547 → World.cell? w547 ⟨Array.size (World.heap w153), 0, none⟩ = some (Value.slice A559 A559l A559c)) ∧
  V.ptr want_148 fun a560 =>
  ∃ A561, ∃ A561l, ∃ A561c, (∀ w547, S546 w547 → World.cell? w547 a560 = some (Value.slice A561 A561l A561c)) ∧
  ∃ n562, (∀ w547, S546 w547 → World.cell? w547 ⟨Array.size (World.heap w4), 0, none⟩ = some (Value.int .i64 n562)) ∧
  Calls Try.prog 24 #[(Value.slice A559 A559l A559c), (Value.slice A561 A561l A561c), (Value.int .i64 (if n562 > 1 then n562 else 1))] w558 fun e564 w565 =>
  ∃ b563, e564 = Ending.returned (Value.bool b563) ∧
  S546 w565 ∧
  V.sel b563
  (∃ A566, ∃ A566l, ∃ A566c, (∀ w547, S546 w547 → World.cell? w547 ⟨Array.size (World.heap w154), 0, none⟩ = some (Value.slice A566 A566l A566c)) ∧
  V.ptr want_148 fun a567 =>
  ∃ A568, ∃ A568l, ∃ A568c, (∀ w547, S546 w547 → World.cell? w547 a567 = some (Value.slice A568 A568l A568c)) ∧
  V.ptr want_148 fun a569 =>
  ∃ A570, ∃ A570l, ∃ A570c, (∀ w547, S546 w547 → World.cell? w547 a569 = some (Value.slice A570 A570l A570c)) ∧
  Calls Try.prog 24 #[(Value.slice A566 A566l A566c), (Value.slice A568 A568l A568c), (Value.int .i64 ((A570l : Nat) : Int))] w565 fun e572 w573 =>
  ∃ b571, e572 = Ending.returned (Value.bool b571) ∧
  S546 w573 ∧
  V.sel b571
  (∃ p574, (∀ w547, S546 w547 → World.cell? w547 ⟨Array.size (World.heap w15), 0, none⟩ = some (Value.pointer p574)) ∧
  V.ptr p574 fun a575 =>
  ∃ p576, (∀ w547, S546 w547 → World.cell? w547 (Addr.add (Addr.add a575 0) 1) = some (Value.pointer p576)) ∧
  ∃ p577, (∀ w547, S546 w547 → World.cell? w547 ⟨Array.size (World.heap w15), 0, none⟩ = some (Value.pointer p577)) ∧
  V.ptr p577 fun a578 =>
  ∃ n579, ∃ A580, ∃ A580l, ∃ A580c, V.cellsC (fun a_ x_ => ∀ w547, S546 w547 → World.cell? w547 a_ = some x_) (Addr.add (Addr.add a578 4) 2) [(Value.int .i64 n579), (Value.slice A580 A580l A580c)] ∧
  Calls Try.prog 21 #[(Value.pointer p576), (Value.agg #[(Value.int .i64 n579), (Value.slice A580 A580l A580c)])] w573 fun e582 w583 =>
  ∃ b581, e582 = Ending.returned (Value.bool b581) ∧
  S546 w583 ∧
  ∃ w584, Sem.run Try.prog (Instr.storeAt 4 (Value.pointer (some ⟨Array.size (World.heap w5), 0, none⟩)) (Value.bool b581)) w583 = .ok () w584 ∧
  V.closeR (Array.size (World.heap w479) :: (Array.size (World.heap w423) :: (Array.size (World.heap (V.setLoop w214 l161 Rc160 .exhausted none)) :: (Array.size (World.heap w157) :: [])))) w584 fun w585 =>
  ∃ b586, World.cell? w585 ⟨Array.size (World.heap w5), 0, none⟩ = some (Value.bool b586) ∧
  R (Ending.returned (Value.bool b586)) w585)
  (∃ w587, Sem.run Try.prog (Instr.storeAt 4 (Value.pointer (some ⟨Array.size (World.heap w5), 0, none⟩)) (Value.bool false)) w573 = .ok () w587 ∧
  V.closeR (Array.size (World.heap w479) :: (Array.size (World.heap w423) :: (Array.size (World.heap (V.setLoop w214 l161 Rc160 .exhausted none)) :: (Array.size (World.heap w157) :: [])))) w587 fun w588 =>
  ∃ b589, World.cell? w588 ⟨Array.size (World.heap w5), 0, none⟩ = some (Value.bool b589) ∧
  R (Ending.returned (Value.bool b589)) w588))
  (∃ w590, Sem.run Try.prog (Instr.storeAt 4 (Value.pointer (some ⟨Array.size (World.heap w5), 0, none⟩)) (Value.bool false)) w565 = .ok () w590 ∧
  V.closeR (Array.size (World.heap w479) :: (Array.size (World.heap w423) :: (Array.size (World.heap (V.setLoop w214 l161 Rc160 .exhausted none)) :: (Array.size (World.heap w157) :: [])))) w590 fun w591 =>
  ∃ b592, World.cell? w591 ⟨Array.size (World.heap w5), 0, none⟩ = some (Value.bool b592) ∧
  R (Ending.returned (Value.bool b592)) w591))
  (∃ w593, Sem.run Try.prog (Instr.storeAt 4 (Value.pointer (some ⟨Array.size (World.heap w5), 0, none⟩)) (Value.bool false)) w558 = .ok () w593 ∧
  V.closeR (Array.size (World.heap w479) :: (Array.size (World.heap w423) :: (Array.size (World.heap (V.setLoop w214 l161 Rc160 .exhausted none)) :: (Array.size (World.heap w157) :: [])))) w593 fun w594 =>
  ∃ b595, World.cell? w594 ⟨Array.size (World.heap w5), 0, none⟩ = some (Value.bool b595) ∧
  R (Ending.returned (Value.bool b595)) w594))
  (∃ w596, Sem.run Try.prog (Instr.storeAt 4 (Value.pointer (some ⟨Array.size (World.heap w5), 0, none⟩)) (Value.bool false)) (World.drew (V.setLoop w545 l483 Rc482 .exhausted none)) = .ok () w596 ∧
  V.closeR (Array.size (World.heap w479) :: (Array.size (World.heap w423) :: (Array.size (World.heap (V.setLoop w214 l161 Rc160 .exhausted none)) :: (Array.size (World.heap w157) :: [])))) w596 fun w597 =>
  ∃ b598, World.cell? w597 ⟨Array.size (World.heap w5), 0, none⟩ = some (Value.bool b598) ∧
  R (Ending.returned (Value.bool b598)) w597)) ∨
  (V.LoopSt w545 l483 Rc482 .done (some Code.ret) ∧
  V.closeR (Array.size (World.heap w479) :: (Array.size (World.heap w423) :: (Array.size (World.heap (V.setLoop w214 l161 Rc160 .exhausted none)) :: (Array.size (World.heap w157) :: [])))) (V.setLoop w545 l483 Rc482 .exhausted (some Code.ret)) fun w599 =>
  ∃ b600, World.cell? w599 ⟨Array.size (World.heap w5), 0, none⟩ = some (Value.bool b600) ∧
  R (Ending.returned (Value.bool b600)) w599) ∨
  False))) ∨
  (V.LoopSt w477 l460 Rc459 .done (some Code.ret) ∧
  V.closeR (Array.size (World.heap w423) :: (Array.size (World.heap (V.setLoop w214 l161 Rc160 .exhausted none)) :: (Array.size (World.heap w157) :: []))) (V.setLoop w477 l460 Rc459 .exhausted (some Code.ret)) fun w601 =>
  ∃ b602, World.cell? w601 ⟨Array.size (World.heap w5), 0, none⟩ = some (Value.bool b602) ∧
  R (Ending.returned (Value.bool b602)) w601) ∨
  False))))) ∨
  False))) ∨
  (V.LoopSt w214 l161 Rc160 .done (some Code.ret) ∧
  V.closeR (Array.size (World.heap w157) :: []) (V.setLoop w214 l161 Rc160 .exhausted (some Code.ret)) fun w603 =>
  ∃ b604, World.cell? w603 ⟨Array.size (World.heap w5), 0, none⟩ = some (Value.bool b604) ∧
  R (Ending.returned (Value.bool b604)) w603) ∨
  False))))))) :
  Calls Try.prog 7 #[(Value.slice before_1 before_1l before_1c), (Value.slice after_2 after_2l after_2c), (Value.int .i64 early_3)] w R :=
  V.calls_of_R ⟨V.assoc [(0, [42]), (2, [19]), (4, [])], V.assocP [(13, (V.Plan.one 0 (V.Plan.one 1 (V.Plan.one 2 (V.Plan.one 3 (V.Plan.one 4 (V.Plan.one 6 (V.Plan.one 7 (V.Plan.one 8 (V.Plan.one 9 (V.Plan.one 10 (V.Plan.alt 5 (V.Plan.alt 11 (V.Plan.alt 12 (V.Plan.one 13 (V.Plan.one 14 (V.Plan.one 15 V.Plan.done))) (V.Plan.alt 13 (V.Plan.one 12 (V.Plan.one 14 (V.Plan.one 15 V.Plan.done))) V.Plan.stop)) (V.Plan.alt 12 (V.Plan.alt 11 (V.Plan.one 13 (V.Plan.one 14 (V.Plan.one 15 V.Plan.done))) (V.Plan.alt 13 (V.Plan.one 11 (V.Plan.one 14 (V.Plan.one 15 V.Plan.done))) V.Plan.stop)) (V.Plan.alt 13 (V.Plan.alt 11 (V.Plan.one 12 (V.Plan.one 14 (V.Plan.one 15 V.Plan.done))) (V.Plan.alt 12 (V.Plan.one 11 (V.Plan.one 14 (V.Plan.one 15 V.Plan.done))) V.Plan.stop)) V.Plan.stop))) (V.Plan.alt 12 (V.Plan.alt 5 (V.Plan.alt 11 (V.Plan.one 13 (V.Plan.one 14 (V.Plan.one 15 V.Plan.done))) (V.Plan.alt 13 (V.Plan.one 11 (V.Plan.one 14 (V.Plan.one 15 V.Plan.done))) V.Plan.stop)) (V.Plan.alt 13 (V.Plan.one 5 (V.Plan.one 11 (V.Plan.one 14 (V.Plan.one 15 V.Plan.done)))) V.Plan.stop)) (V.Plan.alt 13 (V.Plan.alt 5 (V.Plan.alt 11 (V.Plan.one 12 (V.Plan.one 14 (V.Plan.one 15 V.Plan.done))) (V.Plan.alt 12 (V.Plan.one 11 (V.Plan.one 14 (V.Plan.one 15 V.Plan.done))) V.Plan.stop)) (V.Plan.alt 12 (V.Plan.one 5 (V.Plan.one 11 (V.Plan.one 14 (V.Plan.one 15 V.Plan.done)))) V.Plan.stop)) V.Plan.stop)))))))))))))), (64, V.line [0, 1, 2, 3, 4, 5, 6, 7, 8, 9, 10, 11, 12, 13, 14, 15, 16, 17, 18, 19, 20, 21, 22, 23, 24, 25, 26, 27, 28, 29, 30, 31, 32, 33, 34, 35, 36, 37, 38])], V.assocC [(13, ([11, 12], [V.Sh.one .ptr, V.Sh.one .ptr]))], V.assocS [(1, [V.Sh.one (.int .i64), V.Sh.one .str]), (3, [V.Sh.one (.int .i64), V.Sh.one .str]), (5, [V.Sh.one (.int .i64), V.Sh.one .str]), (6, [V.Sh.one (.int .i64), V.Sh.one .str]), (7, [V.Sh.one (.int .i64), V.Sh.one .str])], ⟨[], true⟩⟩ Try.func7 rfl (Eq.mp (by kernel_rfl) h)

end Go.Proofs.Ytcampkaenlohbaa
