/- Normal forms of the program's functions, printed by a program of mine; the kernel checks each. -/
import Derived.Test.YtjlkdadafddodaaProg
import Derived.Test.YtjlkdadafddodaaV2
set_option linter.unusedVariables false
set_option maxRecDepth 100000
namespace Go.Proofs.Ytjlkdadafddodaa
open Go

theorem berthlaw08_OrderedBlind_nf (script_1 : Option Addr) (script_1l : Nat) (script_1c : Nat) (detour_2 : Option Addr) (detour_2l : Nat) (detour_2c : Nat) (w : World) (R : Ending → World → Prop) (h :
  Calls Try.prog 8 #[] w fun e4 w5 =>
  ∃ b3, e4 = Ending.returned (Value.bool b3) ∧
  V.sel (!b3)
  (R (Ending.returned (Value.bool false)) w5)
  (Calls Try.prog 9 #[(Value.slice script_1 script_1l script_1c)] w5 fun e8 w9 =>
  ∃ p6, ∃ b7, e8 = Ending.returned (Value.tuple #[(Value.pointer p6), (Value.bool b7)]) ∧
  Calls Try.prog 9 #[(Value.slice detour_2 detour_2l detour_2c)] w9 fun e12 w13 =>
  ∃ p10, ∃ b11, e12 = Ending.returned (Value.tuple #[(Value.pointer p10), (Value.bool b11)]) ∧
  V.sel (!b7)
  (R (Ending.returned (Value.bool false)) w13)
  (V.sel (!b11)
  (R (Ending.returned (Value.bool false)) w13)
  (∃ I14 : Int → World → Prop, ∃ μ15 : Int → World → Nat, I14 0 w13 ∧
  ∀ t44_16 (j17 : Nat → Value) (w18 : World), I14 t44_16 w18 →
  (V.sel (decide (t44_16 < ((detour_2l : Nat) : Int)))
  (V.when (decide ((0 : Int) ≤ t44_16 ∧ (t44_16 : Int) < ((detour_2l : Nat) : Int))) (V.ptr detour_2 fun a19 =>
  ∃ n20, ∃ n21, ∃ n22, ∃ s23, ∃ n24, ∃ n25, ∃ n26, ∃ A27, ∃ A27l, ∃ A27c, V.cellsC (fun a_ x_ => World.cell? w18 a_ = some x_) (Addr.add a19 ((Int.toNat t44_16) * 8)) [(Value.int .i64 n20), (Value.int .i64 n21), (Value.int .i64 n22), (Value.string s23), (Value.int .i64 n24), (Value.int .i64 n25), (Value.int .i64 n26), (Value.slice A27 A27l A27c)] ∧
  ∀ w28, w28 = (World.alloc w18 (.cells #[(Value.int .i64 0), (Value.int .i64 0), (Value.int .i64 0), (Value.string ByteArray.empty), (Value.int .i64 0), (Value.int .i64 0), (Value.int .i64 0), (Value.slice none 0 0)] 50)) →
  ∃ w29, Sem.run Try.prog (Instr.storeAt 50 (Value.pointer (some ⟨Array.size (World.heap w18), 0, none⟩)) (Value.agg #[(Value.int .i64 n20), (Value.int .i64 n21), (Value.int .i64 n22), (Value.string s23), (Value.int .i64 n24), (Value.int .i64 n25), (Value.int .i64 n26), (Value.slice A27 A27l A27c)])) w28 = .ok () w29 ∧
  ∃ n30, World.cell? w29 (Addr.add ⟨Array.size (World.heap w18), 0, none⟩ 0) = some (Value.int .i64 n30) ∧
  V.sel (n30 == 2)
  (∃ s31, World.cell? w29 (Addr.add ⟨Array.size (World.heap w18), 0, none⟩ 3) = some (Value.string s31) ∧
  ∃ n32, World.cell? w29 (Addr.add ⟨Array.size (World.heap w18), 0, none⟩ 4) = some (Value.int .i64 n32) ∧
  Calls Try.prog 34 #[(Value.pointer p10), (Value.string s31), (Value.int .i64 n32)] w29 fun e34 w35 =>
  ∃ n33, e34 = Ending.returned (Value.int .i64 n33) ∧
  I14 (IntKind.wrap .i64 (t44_16 + 1)) w35 ∧ μ15 (IntKind.wrap .i64 (t44_16 + 1)) w35 < μ15 t44_16 w18)
  (I14 (IntKind.wrap .i64 (t44_16 + 1)) w29 ∧ μ15 (IntKind.wrap .i64 (t44_16 + 1)) w29 < μ15 t44_16 w18)))
  (Calls Try.prog 21 #[(Value.pointer p10)] w18 fun e37 w38 =>
  ∃ A36, ∃ A36l, ∃ A36c, e37 = Ending.returned (Value.slice A36 A36l A36c) ∧
  V.sel (((A36l : Nat) : Int) != 0)
  (R (Ending.returned (Value.bool false)) w38)
  (∃ I39 : Int → World → Prop, ∃ μ40 : Int → World → Nat, I39 0 w38 ∧
  ∀ t64_41 (j42 : Nat → Value) (w43 : World), I39 t64_41 w43 →
  (V.sel (decide (t64_41 < ((script_1l : Nat) : Int)))
  (V.when (decide ((0 : Int) ≤ (IntKind.wrap .i64 ((IntKind.wrap .i64 (((script_1l : Nat) : Int) - 1)) - t64_41)) ∧ ((IntKind.wrap .i64 ((IntKind.wrap .i64 (((script_1l : Nat) : Int) - 1)) - t64_41)) : Int) < ((script_1l : Nat) : Int))) (V.ptr script_1 fun a44 =>
  ∃ n45, ∃ n46, ∃ n47, ∃ s48, ∃ n49, ∃ n50, ∃ n51, ∃ A52, ∃ A52l, ∃ A52c, V.cellsC (fun a_ x_ => World.cell? w43 a_ = some x_) (Addr.add a44 ((Int.toNat (IntKind.wrap .i64 ((IntKind.wrap .i64 (((script_1l : Nat) : Int) - 1)) - t64_41))) * 8)) [(Value.int .i64 n45), (Value.int .i64 n46), (Value.int .i64 n47), (Value.string s48), (Value.int .i64 n49), (Value.int .i64 n50), (Value.int .i64 n51), (Value.slice A52 A52l A52c)] ∧
  ∀ w53, w53 = (World.alloc w43 (.cells #[(Value.int .i64 0), (Value.int .i64 0), (Value.int .i64 0), (Value.string ByteArray.empty), (Value.int .i64 0), (Value.int .i64 0), (Value.int .i64 0), (Value.slice none 0 0)] 50)) →
  ∃ w54, Sem.run Try.prog (Instr.storeAt 50 (Value.pointer (some ⟨Array.size (World.heap w43), 0, none⟩)) (Value.agg #[(Value.int .i64 n45), (Value.int .i64 n46), (Value.int .i64 n47), (Value.string s48), (Value.int .i64 n49), (Value.int .i64 n50), (Value.int .i64 n51), (Value.slice A52 A52l A52c)])) w53 = .ok () w54 ∧
  ∃ s55, World.cell? w54 (Addr.add ⟨Array.size (World.heap w43), 0, none⟩ 3) = some (Value.string s55) ∧
  ∃ n56, World.cell? w54 (Addr.add ⟨Array.size (World.heap w43), 0, none⟩ 4) = some (Value.int .i64 n56) ∧
  Calls Try.prog 19 #[(Value.pointer p6), (Value.string s55), (Value.int .i64 n56)] w54 fun e59 w60 =>
  ∃ n57, ∃ b58, e59 = Ending.returned (Value.tuple #[(Value.int .i64 n57), (Value.bool b58)]) ∧
  V.sel (!b58)
  (I39 (IntKind.wrap .i64 (t64_41 + 1)) w60 ∧ μ40 (IntKind.wrap .i64 (t64_41 + 1)) w60 < μ40 t64_41 w43)
  (∃ s61, World.cell? w60 (Addr.add ⟨Array.size (World.heap w43), 0, none⟩ 3) = some (Value.string s61) ∧
  ∃ n62, World.cell? w60 (Addr.add ⟨Array.size (World.heap w43), 0, none⟩ 4) = some (Value.int .i64 n62) ∧
  Calls Try.prog 19 #[(Value.pointer p10), (Value.string s61), (Value.int .i64 n62)] w60 fun e65 w66 =>
  ∃ n63, ∃ b64, e65 = Ending.returned (Value.tuple #[(Value.int .i64 n63), (Value.bool b64)]) ∧
  V.sel (!b64)
  (∃ s67, World.cell? w66 (Addr.add ⟨Array.size (World.heap w43), 0, none⟩ 3) = some (Value.string s67) ∧
  ∃ n68, World.cell? w66 (Addr.add ⟨Array.size (World.heap w43), 0, none⟩ 4) = some (Value.int .i64 n68) ∧
  Calls Try.prog 35 #[(Value.pointer p10), (Value.string s67), (Value.int .i64 n68), (Value.int .i64 n57)] w66 fun e70 w71 =>
  ∃ n69, e70 = Ending.returned (Value.int .i64 n69) ∧
  V.sel (n69 != 0)
  (R (Ending.returned (Value.bool false)) w71)
  (I39 (IntKind.wrap .i64 (t64_41 + 1)) w71 ∧ μ40 (IntKind.wrap .i64 (t64_41 + 1)) w71 < μ40 t64_41 w43))
  (I39 (IntKind.wrap .i64 (t64_41 + 1)) w66 ∧ μ40 (IntKind.wrap .i64 (t64_41 + 1)) w66 < μ40 t64_41 w43))))
  (Calls Try.prog 36 #[(Value.pointer p6), (Value.pointer p10)] w43 fun e73 w74 =>
  ∃ b72, e73 = Ending.returned (Value.bool b72) ∧
  V.sel (!b72)
  (R (Ending.returned (Value.bool false)) w74)
  (Calls Try.prog 36 #[(Value.pointer p10), (Value.pointer p6)] w74 fun e76 w77 =>
  ∃ b75, e76 = Ending.returned (Value.bool b75) ∧
  V.sel (!b75)
  (R (Ending.returned (Value.bool false)) w77)
  (Calls Try.prog 21 #[(Value.pointer p6)] w77 fun e79 w80 =>
  ∃ A78, ∃ A78l, ∃ A78c, e79 = Ending.returned (Value.slice A78 A78l A78c) ∧
  Calls Try.prog 21 #[(Value.pointer p10)] w80 fun e82 w83 =>
  ∃ A81, ∃ A81l, ∃ A81c, e82 = Ending.returned (Value.slice A81 A81l A81c) ∧
  Calls Try.prog 37 #[(Value.slice A78 A78l A78c), (Value.slice A81 A81l A81c)] w83 fun e85 w86 =>
  ∃ b84, e85 = Ending.returned (Value.bool b84) ∧
  V.sel (!b84)
  (R (Ending.returned (Value.bool false)) w86)
  (∃ I87 : Int → World → Prop, ∃ μ88 : Int → World → Nat, I87 0 w86 ∧
  ∀ t128_89 (j90 : Nat → Value) (w91 : World), I87 t128_89 w91 →
  (V.sel (decide (t128_89 < ((script_1l : Nat) : Int)))
  (V.when (decide ((0 : Int) ≤ t128_89 ∧ (t128_89 : Int) < ((script_1l : Nat) : Int))) (V.ptr script_1 fun a92 =>
  ∃ n93, ∃ n94, ∃ n95, ∃ s96, ∃ n97, ∃ n98, ∃ n99, ∃ A100, ∃ A100l, ∃ A100c, V.cellsC (fun a_ x_ => World.cell? w91 a_ = some x_) (Addr.add a92 ((Int.toNat t128_89) * 8)) [(Value.int .i64 n93), (Value.int .i64 n94), (Value.int .i64 n95), (Value.string s96), (Value.int .i64 n97), (Value.int .i64 n98), (Value.int .i64 n99), (Value.slice A100 A100l A100c)] ∧
  ∀ w101, w101 = (World.alloc w91 (.cells #[(Value.int .i64 0), (Value.int .i64 0), (Value.int .i64 0), (Value.string ByteArray.empty), (Value.int .i64 0), (Value.int .i64 0), (Value.int .i64 0), (Value.slice none 0 0)] 50)) →
  ∃ w102, Sem.run Try.prog (Instr.storeAt 50 (Value.pointer (some ⟨Array.size (World.heap w91), 0, none⟩)) (Value.agg #[(Value.int .i64 n93), (Value.int .i64 n94), (Value.int .i64 n95), (Value.string s96), (Value.int .i64 n97), (Value.int .i64 n98), (Value.int .i64 n99), (Value.slice A100 A100l A100c)])) w101 = .ok () w102 ∧
  ∃ J103 : Bool → World → Prop, (∃ S104 : World → Prop, S104 (World.drew w102) ∧
  ∃ s106, (∀ w105, S104 w105 → World.cell? w105 (Addr.add ⟨Array.size (World.heap w91), 0, none⟩ 3) = some (Value.string s106)) ∧
  ∃ n107, (∀ w105, S104 w105 → World.cell? w105 (Addr.add ⟨Array.size (World.heap w91), 0, none⟩ 5) = some (Value.int .i64 n107)) ∧
  ∃ s108, (∀ w105, S104 w105 → World.cell? w105 (Addr.add ⟨Array.size (World.heap w91), 0, none⟩ 3) = some (Value.string s108)) ∧
  ∃ n109, (∀ w105, S104 w105 → World.cell? w105 (Addr.add ⟨Array.size (World.heap w91), 0, none⟩ 5) = some (Value.int .i64 n109)) ∧
  Calls Try.prog 11 #[(Value.pointer p6), (Value.string s106), (Value.int .i64 4), (Value.int .i64 n107)] (World.drew w102) fun e111 w112 =>
  ∃ p110, e111 = Ending.returned (Value.pointer p110) ∧
  S104 w112 ∧
  Calls Try.prog 11 #[(Value.pointer p10), (Value.string s108), (Value.int .i64 4), (Value.int .i64 n109)] w112 fun e114 w115 =>
  ∃ p113, e114 = Ending.returned (Value.pointer p113) ∧
  S104 w115 ∧
  Calls Try.prog 14 #[(Value.pointer p110), (Value.pointer p113)] w115 fun e117 w118 =>
  ∃ b116, e117 = Ending.returned (Value.bool b116) ∧
  S104 w118 ∧
  V.sel (!b116)
  (((J103 true w118) ∧
  (J103 true w118) ∧ True) ∧
  (J103 true w118) ∧ True)
  (∃ s119, (∀ w105, S104 w105 → World.cell? w105 (Addr.add ⟨Array.size (World.heap w91), 0, none⟩ 3) = some (Value.string s119)) ∧
  ∃ n120, (∀ w105, S104 w105 → World.cell? w105 (Addr.add ⟨Array.size (World.heap w91), 0, none⟩ 5) = some (Value.int .i64 n120)) ∧
  ∃ s121, (∀ w105, S104 w105 → World.cell? w105 (Addr.add ⟨Array.size (World.heap w91), 0, none⟩ 3) = some (Value.string s121)) ∧
  ∃ n122, (∀ w105, S104 w105 → World.cell? w105 (Addr.add ⟨Array.size (World.heap w91), 0, none⟩ 5) = some (Value.int .i64 n122)) ∧
  (∀ w123, w123 = (World.alloc w118 (.cells #[(Value.int .i64 n120)] 3)) →
  S104 w123 ∧
  (Calls Try.prog 16 #[(Value.pointer p6), (Value.string s119), (Value.slice (some ⟨Array.size (World.heap w118), 0, none⟩) 1 1)] w123 fun e125 w126 =>
  ∃ p124, e125 = Ending.returned (Value.pointer p124) ∧
  S104 w126 ∧
  ∀ w127, w127 = (World.alloc w126 (.cells #[(Value.int .i64 n122)] 3)) →
  S104 w127 ∧
  Calls Try.prog 16 #[(Value.pointer p10), (Value.string s121), (Value.slice (some ⟨Array.size (World.heap w126), 0, none⟩) 1 1)] w127 fun e129 w130 =>
  ∃ p128, e129 = Ending.returned (Value.pointer p128) ∧
  S104 w130 ∧
  Calls Try.prog 14 #[(Value.pointer p124), (Value.pointer p128)] w130 fun e132 w133 =>
  ∃ b131, e132 = Ending.returned (Value.bool b131) ∧
  S104 w133 ∧
  J103 (!b131) w133) ∧
  (∀ w134, w134 = (World.alloc w123 (.cells #[(Value.int .i64 n122)] 3)) →
  S104 w134 ∧
  Calls Try.prog 16 #[(Value.pointer p6), (Value.string s119), (Value.slice (some ⟨Array.size (World.heap w118), 0, none⟩) 1 1)] w134 fun e136 w137 =>
  ∃ p135, e136 = Ending.returned (Value.pointer p135) ∧
  S104 w137 ∧
  Calls Try.prog 16 #[(Value.pointer p10), (Value.string s121), (Value.slice (some ⟨Array.size (World.heap w123), 0, none⟩) 1 1)] w137 fun e139 w140 =>
  ∃ p138, e139 = Ending.returned (Value.pointer p138) ∧
  S104 w140 ∧
  Calls Try.prog 14 #[(Value.pointer p135), (Value.pointer p138)] w140 fun e142 w143 =>
  ∃ b141, e142 = Ending.returned (Value.bool b141) ∧
  S104 w143 ∧
  J103 (!b141) w143) ∧ True) ∧
  (∀ w144, w144 = (World.alloc w118 (.cells #[(Value.int .i64 n122)] 3)) →
  S104 w144 ∧
  ∀ w145, w145 = (World.alloc w144 (.cells #[(Value.int .i64 n120)] 3)) →
  S104 w145 ∧
  Calls Try.prog 16 #[(Value.pointer p6), (Value.string s119), (Value.slice (some ⟨Array.size (World.heap w144), 0, none⟩) 1 1)] w145 fun e147 w148 =>
  ∃ p146, e147 = Ending.returned (Value.pointer p146) ∧
  S104 w148 ∧
  Calls Try.prog 16 #[(Value.pointer p10), (Value.string s121), (Value.slice (some ⟨Array.size (World.heap w118), 0, none⟩) 1 1)] w148 fun e150 w151 =>
  ∃ p149, e150 = Ending.returned (Value.pointer p149) ∧
  S104 w151 ∧
  Calls Try.prog 14 #[(Value.pointer p146), (Value.pointer p149)] w151 fun e153 w154 =>
  ∃ b152, e153 = Ending.returned (Value.bool b152) ∧
  S104 w154 ∧
  J103 (!b152) w154) ∧ True)) ∧
  ∀ t163_155 (j156 : Nat → Value) (w157 : World), J103 t163_155 w157 →
  V.sel t163_155
  (R (Ending.returned (Value.bool false)) w157)
  (I87 (IntKind.wrap .i64 (t128_89 + 1)) w157 ∧ μ88 (IntKind.wrap .i64 (t128_89 + 1)) w157 < μ88 t128_89 w91)))
  (Calls Try.prog 35 #[(Value.pointer p10), (Value.string ⟨#[111, 116, 104, 101, 114, 32, 107, 101, 121]⟩), (Value.int .i64 7), (Value.int .i64 1)] w91 fun e159 w160 =>
  ∃ n158, e159 = Ending.returned (Value.int .i64 n158) ∧
  V.sel (n158 == 0)
  (Calls Try.prog 36 #[(Value.pointer p6), (Value.pointer p10)] w160 fun e162 w163 =>
  ∃ b161, e162 = Ending.returned (Value.bool b161) ∧
  V.sel b161
  (R (Ending.returned (Value.bool false)) w163)
  (Calls Try.prog 34 #[(Value.pointer p10), (Value.string ⟨#[111, 116, 104, 101, 114, 32, 107, 101, 121]⟩), (Value.int .i64 7)] w163 fun e165 w166 =>
  ∃ n164, e165 = Ending.returned (Value.int .i64 n164) ∧
  V.sel (n164 != 0)
  (R (Ending.returned (Value.bool false)) w166)
  (Calls Try.prog 36 #[(Value.pointer p6), (Value.pointer p10)] w166 fun e168 w169 =>
  ∃ b167, e168 = Ending.returned (Value.bool b167) ∧
  V.sel (!b167)
  (R (Ending.returned (Value.bool false)) w169)
  (∃ I170 : Int → World → Prop, ∃ μ171 : Int → World → Nat, I170 0 w169 ∧
  ∀ t184_172 (j173 : Nat → Value) (w174 : World), I170 t184_172 w174 →
  (V.sel (decide (t184_172 < ((script_1l : Nat) : Int)))
  (V.when (decide ((0 : Int) ≤ t184_172 ∧ (t184_172 : Int) < ((script_1l : Nat) : Int))) (V.ptr script_1 fun a175 =>
  ∃ n176, ∃ n177, ∃ n178, ∃ s179, ∃ n180, ∃ n181, ∃ n182, ∃ A183, ∃ A183l, ∃ A183c, V.cellsC (fun a_ x_ => World.cell? w174 a_ = some x_) (Addr.add a175 ((Int.toNat t184_172) * 8)) [(Value.int .i64 n176), (Value.int .i64 n177), (Value.int .i64 n178), (Value.string s179), (Value.int .i64 n180), (Value.int .i64 n181), (Value.int .i64 n182), (Value.slice A183 A183l A183c)] ∧
  ∀ w184, w184 = (World.alloc w174 (.cells #[(Value.int .i64 0), (Value.int .i64 0), (Value.int .i64 0), (Value.string ByteArray.empty), (Value.int .i64 0), (Value.int .i64 0), (Value.int .i64 0), (Value.slice none 0 0)] 50)) →
  ∃ w185, Sem.run Try.prog (Instr.storeAt 50 (Value.pointer (some ⟨Array.size (World.heap w174), 0, none⟩)) (Value.agg #[(Value.int .i64 n176), (Value.int .i64 n177), (Value.int .i64 n178), (Value.string s179), (Value.int .i64 n180), (Value.int .i64 n181), (Value.int .i64 n182), (Value.slice A183 A183l A183c)])) w184 = .ok () w185 ∧
  ∃ s186, World.cell? w185 (Addr.add ⟨Array.size (World.heap w174), 0, none⟩ 3) = some (Value.string s186) ∧
  ∃ n187, World.cell? w185 (Addr.add ⟨Array.size (World.heap w174), 0, none⟩ 4) = some (Value.int .i64 n187) ∧
  Calls Try.prog 19 #[(Value.pointer p10), (Value.string s186), (Value.int .i64 n187)] w185 fun e190 w191 =>
  ∃ n188, ∃ b189, e190 = Ending.returned (Value.tuple #[(Value.int .i64 n188), (Value.bool b189)]) ∧
  V.sel b189
  (∃ s192, World.cell? w191 (Addr.add ⟨Array.size (World.heap w174), 0, none⟩ 3) = some (Value.string s192) ∧
  ∃ n193, World.cell? w191 (Addr.add ⟨Array.size (World.heap w174), 0, none⟩ 4) = some (Value.int .i64 n193) ∧
  Calls Try.prog 34 #[(Value.pointer p10), (Value.string s192), (Value.int .i64 n193)] w191 fun e195 w196 =>
  ∃ n194, e195 = Ending.returned (Value.int .i64 n194) ∧
  Calls Try.prog 36 #[(Value.pointer p6), (Value.pointer p10)] w196 fun e198 w199 =>
  ∃ b197, e198 = Ending.returned (Value.bool b197) ∧
  ∃ s200, World.cell? w199 (Addr.add ⟨Array.size (World.heap w174), 0, none⟩ 3) = some (Value.string s200) ∧
  ∃ n201, World.cell? w199 (Addr.add ⟨Array.size (World.heap w174), 0, none⟩ 4) = some (Value.int .i64 n201) ∧
  Calls Try.prog 35 #[(Value.pointer p10), (Value.string s200), (Value.int .i64 n201), (Value.int .i64 (IntKind.wrap .i64 ((BitVec.toNat (BitVec.ofInt 64 n188 ^^^ BitVec.ofInt 64 1) : Nat) : Int)))] w199 fun e203 w204 =>
  ∃ n202, e203 = Ending.returned (Value.int .i64 n202) ∧
  V.sel (!b197)
  (Calls Try.prog 36 #[(Value.pointer p6), (Value.pointer p10)] w204 fun e206 w207 =>
  ∃ b205, e206 = Ending.returned (Value.bool b205) ∧
  R (Ending.returned (Value.bool (!b205))) w207)
  (R (Ending.returned (Value.bool false)) w204))
  (I170 (IntKind.wrap .i64 (t184_172 + 1)) w191 ∧ μ171 (IntKind.wrap .i64 (t184_172 + 1)) w191 < μ171 t184_172 w174)))
  (R (Ending.returned (Value.bool true)) w174))))))
  (∃ I208 : Int → World → Prop, ∃ μ209 : Int → World → Nat, I208 0 w160 ∧
  ∀ t184_210 (j211 : Nat → Value) (w212 : World), I208 t184_210 w212 →
  (V.sel (decide (t184_210 < ((script_1l : Nat) : Int)))
  (V.when (decide ((0 : Int) ≤ t184_210 ∧ (t184_210 : Int) < ((script_1l : Nat) : Int))) (V.ptr script_1 fun a213 =>
  ∃ n214, ∃ n215, ∃ n216, ∃ s217, ∃ n218, ∃ n219, ∃ n220, ∃ A221, ∃ A221l, ∃ A221c, V.cellsC (fun a_ x_ => World.cell? w212 a_ = some x_) (Addr.add a213 ((Int.toNat t184_210) * 8)) [(Value.int .i64 n214), (Value.int .i64 n215), (Value.int .i64 n216), (Value.string s217), (Value.int .i64 n218), (Value.int .i64 n219), (Value.int .i64 n220), (Value.slice A221 A221l A221c)] ∧
  ∀ w222, w222 = (World.alloc w212 (.cells #[(Value.int .i64 0), (Value.int .i64 0), (Value.int .i64 0), (Value.string ByteArray.empty), (Value.int .i64 0), (Value.int .i64 0), (Value.int .i64 0), (Value.slice none 0 0)] 50)) →
  ∃ w223, Sem.run Try.prog (Instr.storeAt 50 (Value.pointer (some ⟨Array.size (World.heap w212), 0, none⟩)) (Value.agg #[(Value.int .i64 n214), (Value.int .i64 n215), (Value.int .i64 n216), (Value.string s217), (Value.int .i64 n218), (Value.int .i64 n219), (Value.int .i64 n220), (Value.slice A221 A221l A221c)])) w222 = .ok () w223 ∧
  ∃ s224, World.cell? w223 (Addr.add ⟨Array.size (World.heap w212), 0, none⟩ 3) = some (Value.string s224) ∧
  ∃ n225, World.cell? w223 (Addr.add ⟨Array.size (World.heap w212), 0, none⟩ 4) = some (Value.int .i64 n225) ∧
  Calls Try.prog 19 #[(Value.pointer p10), (Value.string s224), (Value.int .i64 n225)] w223 fun e228 w229 =>
  ∃ n226, ∃ b227, e228 = Ending.returned (Value.tuple #[(Value.int .i64 n226), (Value.bool b227)]) ∧
  V.sel b227
  (∃ s230, World.cell? w229 (Addr.add ⟨Array.size (World.heap w212), 0, none⟩ 3) = some (Value.string s230) ∧
  ∃ n231, World.cell? w229 (Addr.add ⟨Array.size (World.heap w212), 0, none⟩ 4) = some (Value.int .i64 n231) ∧
  Calls Try.prog 34 #[(Value.pointer p10), (Value.string s230), (Value.int .i64 n231)] w229 fun e233 w234 =>
  ∃ n232, e233 = Ending.returned (Value.int .i64 n232) ∧
  Calls Try.prog 36 #[(Value.pointer p6), (Value.pointer p10)] w234 fun e236 w237 =>
  ∃ b235, e236 = Ending.returned (Value.bool b235) ∧
  ∃ s238, World.cell? w237 (Addr.add ⟨Array.size (World.heap w212), 0, none⟩ 3) = some (Value.string s238) ∧
  ∃ n239, World.cell? w237 (Addr.add ⟨Array.size (World.heap w212), 0, none⟩ 4) = some (Value.int .i64 n239) ∧
  Calls Try.prog 35 #[(Value.pointer p10), (Value.string s238), (Value.int .i64 n239), (Value.int .i64 (IntKind.wrap .i64 ((BitVec.toNat (BitVec.ofInt 64 n226 ^^^ BitVec.ofInt 64 1) : Nat) : Int)))] w237 fun e241 w242 =>
  ∃ n240, e241 = Ending.returned (Value.int .i64 n240) ∧
  V.sel (!b235)
  (Calls Try.prog 36 #[(Value.pointer p6), (Value.pointer p10)] w242 fun e244 w245 =>
  ∃ b243, e244 = Ending.returned (Value.bool b243) ∧
  R (Ending.returned (Value.bool (!b243))) w245)
  (R (Ending.returned (Value.bool false)) w242))
  (I208 (IntKind.wrap .i64 (t184_210 + 1)) w229 ∧ μ209 (IntKind.wrap .i64 (t184_210 + 1)) w229 < μ209 t184_210 w212)))
  (R (Ending.returned (Value.bool true)) w212))))))))))))))))) :
  Calls Try.prog 6 #[(Value.slice script_1 script_1l script_1c), (Value.slice detour_2 detour_2l detour_2c)] w R :=
  V.calls_of_R ⟨V.assoc [(0, [44]), (1, [64]), (2, [128]), (3, [184])], V.assocP [(30, (V.Plan.one 0 (V.Plan.one 1 (V.Plan.one 2 (V.Plan.one 3 (V.Plan.one 4 (V.Plan.one 6 (V.Plan.one 7 (V.Plan.one 8 (V.Plan.one 9 (V.Plan.one 10 (V.Plan.one 5 (V.Plan.one 11 (V.Plan.one 12 (V.Plan.one 13 (V.Plan.one 14 (V.Plan.one 15 (V.Plan.one 16 (V.Plan.one 17 (V.Plan.one 18 (V.Plan.one 19 (V.Plan.one 22 (V.Plan.one 23 (V.Plan.one 24 (V.Plan.one 25 (V.Plan.one 26 (V.Plan.alt 20 (V.Plan.alt 21 (V.Plan.one 27 (V.Plan.one 28 (V.Plan.one 29 (V.Plan.one 30 (V.Plan.one 31 V.Plan.done))))) (V.Plan.alt 27 (V.Plan.one 21 (V.Plan.one 28 (V.Plan.one 29 (V.Plan.one 30 (V.Plan.one 31 V.Plan.done))))) V.Plan.stop)) (V.Plan.alt 27 (V.Plan.one 20 (V.Plan.one 21 (V.Plan.one 28 (V.Plan.one 29 (V.Plan.one 30 (V.Plan.one 31 V.Plan.done)))))) V.Plan.stop))))))))))))))))))))))))))))], V.assocC [(30, ([163], [V.Sh.one .bool]))], V.assocS [], ⟨[], true⟩⟩ Try.func6 rfl (Eq.mp (by kernel_rfl) h)

theorem berthlaw08_OrderedAnswers_nf (script_1 : Option Addr) (script_1l : Nat) (script_1c : Nat) (w : World) (R : Ending → World → Prop) (h :
  Calls Try.prog 8 #[] w fun e3 w4 =>
  ∃ b2, e3 = Ending.returned (Value.bool b2) ∧
  V.sel (!b2)
  (R (Ending.returned (Value.bool false)) w4)
  (Calls Try.prog 25 #[] w4 fun e7 w8 =>
  ∃ p5, ∃ b6, e7 = Ending.returned (Value.tuple #[(Value.pointer p5), (Value.bool b6)]) ∧
  V.sel (!b6)
  (R (Ending.returned (Value.bool false)) w8)
  (∃ I9 : Int → World → Prop, ∃ μ10 : Int → World → Nat, I9 0 w8 ∧
  ∀ t18_11 (j12 : Nat → Value) (w13 : World), I9 t18_11 w13 →
  (V.sel (decide (t18_11 < ((script_1l : Nat) : Int)))
  (V.when (decide ((0 : Int) ≤ t18_11 ∧ (t18_11 : Int) < ((script_1l : Nat) : Int))) (V.ptr script_1 fun a14 =>
  ∃ n15, ∃ n16, ∃ n17, ∃ s18, ∃ n19, ∃ n20, ∃ n21, ∃ A22, ∃ A22l, ∃ A22c, V.cellsC (fun a_ x_ => World.cell? w13 a_ = some x_) (Addr.add a14 ((Int.toNat t18_11) * 8)) [(Value.int .i64 n15), (Value.int .i64 n16), (Value.int .i64 n17), (Value.string s18), (Value.int .i64 n19), (Value.int .i64 n20), (Value.int .i64 n21), (Value.slice A22 A22l A22c)] ∧
  ∀ w23, w23 = (World.alloc w13 (.cells #[(Value.int .i64 0), (Value.int .i64 0), (Value.int .i64 0), (Value.string ByteArray.empty), (Value.int .i64 0), (Value.int .i64 0), (Value.int .i64 0), (Value.slice none 0 0)] 50)) →
  ∃ w24, Sem.run Try.prog (Instr.storeAt 50 (Value.pointer (some ⟨Array.size (World.heap w13), 0, none⟩)) (Value.agg #[(Value.int .i64 n15), (Value.int .i64 n16), (Value.int .i64 n17), (Value.string s18), (Value.int .i64 n19), (Value.int .i64 n20), (Value.int .i64 n21), (Value.slice A22 A22l A22c)])) w23 = .ok () w24 ∧
  ∃ n25, ∃ n26, ∃ n27, ∃ s28, ∃ n29, ∃ n30, ∃ n31, ∃ A32, ∃ A32l, ∃ A32c, V.cellsC (fun a_ x_ => World.cell? w24 a_ = some x_) ⟨Array.size (World.heap w13), 0, none⟩ [(Value.int .i64 n25), (Value.int .i64 n26), (Value.int .i64 n27), (Value.string s28), (Value.int .i64 n29), (Value.int .i64 n30), (Value.int .i64 n31), (Value.slice A32 A32l A32c)] ∧
  Calls Try.prog 38 #[(Value.pointer p5), (Value.agg #[(Value.int .i64 n25), (Value.int .i64 n26), (Value.int .i64 n27), (Value.string s28), (Value.int .i64 n29), (Value.int .i64 n30), (Value.int .i64 n31), (Value.slice A32 A32l A32c)])] w24 fun e34 w35 =>
  ∃ b33, e34 = Ending.returned (Value.bool b33) ∧
  V.sel (!b33)
  (R (Ending.returned (Value.bool false)) w35)
  (I9 (IntKind.wrap .i64 (t18_11 + 1)) w35 ∧ μ10 (IntKind.wrap .i64 (t18_11 + 1)) w35 < μ10 t18_11 w13)))
  (∃ I36 : Int → World → Prop, ∃ μ37 : Int → World → Nat, I36 0 w13 ∧
  ∀ t27_38 (j39 : Nat → Value) (w40 : World), I36 t27_38 w40 →
  (V.sel (decide (t27_38 < 4))
  (Calls Try.prog 33 #[(Value.pointer p5), (Value.int .i64 t27_38)] w40 fun e42 w43 =>
  ∃ b41, e42 = Ending.returned (Value.bool b41) ∧
  V.sel (!b41)
  (R (Ending.returned (Value.bool false)) w43)
  (I36 (IntKind.wrap .i64 (t27_38 + 1)) w43 ∧ μ37 (IntKind.wrap .i64 (t27_38 + 1)) w43 < μ37 t27_38 w40))
  (R (Ending.returned (Value.bool true)) w40))))))) :
  Calls Try.prog 7 #[(Value.slice script_1 script_1l script_1c)] w R :=
  V.calls_of_R ⟨V.assoc [(0, [18]), (1, [27])], V.assocP [], V.assocC [], V.assocS [], ⟨[], true⟩⟩ Try.func7 rfl (Eq.mp (by kernel_rfl) h)

theorem berthlaw08_fixed_nf  (w : World) (R : Ending → World → Prop) (h :
  Calls Try.prog 39 #[(Value.int .i64 8)] w fun e3 w4 =>
  ∃ p1, ∃ n2, e3 = Ending.returned (Value.tuple #[(Value.pointer p1), (Value.int .i64 n2)]) ∧
  V.sel (Option.isNone p1)
  (R (Ending.returned (Value.bool false)) w4)
  (V.sel (n2 != 0)
  (R (Ending.returned (Value.bool false)) w4)
  (Calls Try.prog 35 #[(Value.pointer p1), (Value.string ⟨#[99, 111, 114, 101, 115]⟩), (Value.int .i64 3), (Value.int .i64 16)] w4 fun e6 w7 =>
  ∃ n5, e6 = Ending.returned (Value.int .i64 n5) ∧
  Calls Try.prog 35 #[(Value.pointer p1), (Value.string ⟨#[99, 111, 114, 101, 115]⟩), (Value.int .i64 5), (Value.int .i64 4)] w7 fun e9 w10 =>
  ∃ n8, e9 = Ending.returned (Value.int .i64 n8) ∧
  Calls Try.prog 35 #[(Value.pointer p1), (Value.string ⟨#[99, 111, 114, 101, 115]⟩), (Value.int .i64 3), (Value.int .i64 8)] w10 fun e12 w13 =>
  ∃ n11, e12 = Ending.returned (Value.int .i64 n11) ∧
  Calls Try.prog 19 #[(Value.pointer p1), (Value.string ⟨#[99, 111, 114, 101, 115]⟩), (Value.int .i64 3)] w13 fun e16 w17 =>
  ∃ n14, ∃ b15, e16 = Ending.returned (Value.tuple #[(Value.int .i64 n14), (Value.bool b15)]) ∧
  V.sel (n5 == 0)
  (V.sel (n8 == 0)
  (V.sel (n11 == 82)
  (V.sel (n14 == 16)
  (V.sel b15
  (Calls Try.prog 11 #[(Value.pointer p1), (Value.string ⟨#[99, 111, 114, 101, 115]⟩), (Value.int .i64 6), (Value.int .i64 5)] w17 fun e19 w20 =>
  ∃ p18, e19 = Ending.returned (Value.pointer p18) ∧
  ∀ w21, w21 = (World.alloc w20 (.cells #[(Value.int .i64 3)] 3)) →
  Calls Try.prog 28 #[(Value.pointer p18), (Value.int .i64 8), (Value.slice (some ⟨Array.size (World.heap w20), 0, none⟩) 1 1)] w21 fun e23 w24 =>
  ∃ b22, e23 = Ending.returned (Value.bool b22) ∧
  V.sel b22
  (Calls Try.prog 10 #[(Value.pointer p1), (Value.string ⟨#[99, 111, 114, 101, 115]⟩)] w24 fun e26 w27 =>
  ∃ p25, e26 = Ending.returned (Value.pointer p25) ∧
  ∀ w28, w28 = (World.alloc w27 (.cells #[(Value.int .i64 3), (Value.int .i64 5)] 3)) →
  Calls Try.prog 28 #[(Value.pointer p25), (Value.int .i64 8), (Value.slice (some ⟨Array.size (World.heap w27), 0, none⟩) 2 2)] w28 fun e30 w31 =>
  ∃ b29, e30 = Ending.returned (Value.bool b29) ∧
  R (Ending.returned (Value.bool b29)) w31)
  (R (Ending.returned (Value.bool false)) w24))
  (R (Ending.returned (Value.bool false)) w17))
  (R (Ending.returned (Value.bool false)) w17))
  (R (Ending.returned (Value.bool false)) w17))
  (R (Ending.returned (Value.bool false)) w17))
  (R (Ending.returned (Value.bool false)) w17)))) :
  Calls Try.prog 8 #[] w R :=
  V.calls_of_R ⟨V.assoc [], V.assocP [], V.assocC [], V.assocS [], ⟨[], true⟩⟩ Try.func8 rfl (Eq.mp (by kernel_rfl) h)

theorem berthlaw08_played_nf (script_1 : Option Addr) (script_1l : Nat) (script_1c : Nat) (w : World) (R : Ending → World → Prop) (h :
  Calls Try.prog 39 #[(Value.int .i64 200)] w fun e4 w5 =>
  ∃ p2, ∃ n3, e4 = Ending.returned (Value.tuple #[(Value.pointer p2), (Value.int .i64 n3)]) ∧
  V.sel (Option.isNone p2)
  (R (Ending.returned (Value.tuple #[(Value.pointer none), (Value.bool false)])) w5)
  (V.sel (n3 != 0)
  (R (Ending.returned (Value.tuple #[(Value.pointer none), (Value.bool false)])) w5)
  (∃ I6 : Int → World → Prop, ∃ μ7 : Int → World → Nat, I6 0 w5 ∧
  ∀ t20_8 (j9 : Nat → Value) (w10 : World), I6 t20_8 w10 →
  (V.sel (decide (t20_8 < ((script_1l : Nat) : Int)))
  (V.when (decide ((0 : Int) ≤ t20_8 ∧ (t20_8 : Int) < ((script_1l : Nat) : Int))) (V.ptr script_1 fun a11 =>
  ∃ n12, ∃ n13, ∃ n14, ∃ s15, ∃ n16, ∃ n17, ∃ n18, ∃ A19, ∃ A19l, ∃ A19c, V.cellsC (fun a_ x_ => World.cell? w10 a_ = some x_) (Addr.add a11 ((Int.toNat t20_8) * 8)) [(Value.int .i64 n12), (Value.int .i64 n13), (Value.int .i64 n14), (Value.string s15), (Value.int .i64 n16), (Value.int .i64 n17), (Value.int .i64 n18), (Value.slice A19 A19l A19c)] ∧
  ∀ w20, w20 = (World.alloc w10 (.cells #[(Value.int .i64 0), (Value.int .i64 0), (Value.int .i64 0), (Value.string ByteArray.empty), (Value.int .i64 0), (Value.int .i64 0), (Value.int .i64 0), (Value.slice none 0 0)] 50)) →
  ∃ w21, Sem.run Try.prog (Instr.storeAt 50 (Value.pointer (some ⟨Array.size (World.heap w10), 0, none⟩)) (Value.agg #[(Value.int .i64 n12), (Value.int .i64 n13), (Value.int .i64 n14), (Value.string s15), (Value.int .i64 n16), (Value.int .i64 n17), (Value.int .i64 n18), (Value.slice A19 A19l A19c)])) w20 = .ok () w21 ∧
  ∃ n22, World.cell? w21 (Addr.add ⟨Array.size (World.heap w10), 0, none⟩ 0) = some (Value.int .i64 n22) ∧
  V.sel (n22 == 2)
  (∃ s23, World.cell? w21 (Addr.add ⟨Array.size (World.heap w10), 0, none⟩ 3) = some (Value.string s23) ∧
  ∃ n24, World.cell? w21 (Addr.add ⟨Array.size (World.heap w10), 0, none⟩ 4) = some (Value.int .i64 n24) ∧
  ∃ n25, World.cell? w21 (Addr.add ⟨Array.size (World.heap w10), 0, none⟩ 5) = some (Value.int .i64 n25) ∧
  Calls Try.prog 35 #[(Value.pointer p2), (Value.string s23), (Value.int .i64 n24), (Value.int .i64 n25)] w21 fun e27 w28 =>
  ∃ n26, e27 = Ending.returned (Value.int .i64 n26) ∧
  I6 (IntKind.wrap .i64 (t20_8 + 1)) w28 ∧ μ7 (IntKind.wrap .i64 (t20_8 + 1)) w28 < μ7 t20_8 w10)
  (V.sel (n22 == 3)
  (∃ s29, World.cell? w21 (Addr.add ⟨Array.size (World.heap w10), 0, none⟩ 3) = some (Value.string s29) ∧
  ∃ n30, World.cell? w21 (Addr.add ⟨Array.size (World.heap w10), 0, none⟩ 4) = some (Value.int .i64 n30) ∧
  Calls Try.prog 34 #[(Value.pointer p2), (Value.string s29), (Value.int .i64 n30)] w21 fun e32 w33 =>
  ∃ n31, e32 = Ending.returned (Value.int .i64 n31) ∧
  I6 (IntKind.wrap .i64 (t20_8 + 1)) w33 ∧ μ7 (IntKind.wrap .i64 (t20_8 + 1)) w33 < μ7 t20_8 w10)
  (I6 (IntKind.wrap .i64 (t20_8 + 1)) w21 ∧ μ7 (IntKind.wrap .i64 (t20_8 + 1)) w21 < μ7 t20_8 w10))))
  (R (Ending.returned (Value.tuple #[(Value.pointer p2), (Value.bool true)])) w10))))) :
  Calls Try.prog 9 #[(Value.slice script_1 script_1l script_1c)] w R :=
  V.calls_of_R ⟨V.assoc [(0, [20])], V.assocP [], V.assocC [], V.assocS [], ⟨[], true⟩⟩ Try.func9 rfl (Eq.mp (by kernel_rfl) h)

theorem ordered_Index_Has_nf (x_1 : Option Addr) (key_2 : ByteArray) (w : World) (R : Ending → World → Prop) (h :
  Calls Try.prog 17 #[(Value.pointer x_1), (Value.string key_2), (Value.int .i64 (-9223372036854775808)), (Value.int .i64 9223372036854775807)] w fun e4 w5 =>
  ∃ p3, e4 = Ending.returned (Value.pointer p3) ∧
  R (Ending.returned (Value.pointer p3)) w5) :
  Calls Try.prog 10 #[(Value.pointer x_1), (Value.string key_2)] w R :=
  V.calls_of_R ⟨V.assoc [], V.assocP [], V.assocC [], V.assocS [], ⟨[], true⟩⟩ Try.func10 rfl (Eq.mp (by kernel_rfl) h)

theorem ordered_Index_Find_nf (x_1 : Option Addr) (key_2 : ByteArray) (cmp_3 : Int) (n_4 : Int) (w : World) (R : Ending → World → Prop) (h :
  V.sel (cmp_3 == 1)
  (Calls Try.prog 17 #[(Value.pointer x_1), (Value.string key_2), (Value.int .i64 n_4), (Value.int .i64 n_4)] w fun e6 w7 =>
  ∃ p5, e6 = Ending.returned (Value.pointer p5) ∧
  R (Ending.returned (Value.pointer p5)) w7)
  (V.sel (cmp_3 == 2)
  (Calls Try.prog 10 #[(Value.pointer x_1), (Value.string key_2)] w fun e9 w10 =>
  ∃ p8, e9 = Ending.returned (Value.pointer p8) ∧
  Calls Try.prog 17 #[(Value.pointer x_1), (Value.string key_2), (Value.int .i64 n_4), (Value.int .i64 n_4)] w10 fun e12 w13 =>
  ∃ p11, e12 = Ending.returned (Value.pointer p11) ∧
  Calls Try.prog 40 #[(Value.pointer p8), (Value.pointer p11)] w13 fun e15 w16 =>
  ∃ p14, e15 = Ending.returned (Value.pointer p14) ∧
  R (Ending.returned (Value.pointer p14)) w16)
  (V.sel (cmp_3 == 4)
  (Calls Try.prog 17 #[(Value.pointer x_1), (Value.string key_2), (Value.int .i64 (-9223372036854775808)), (Value.int .i64 n_4)] w fun e18 w19 =>
  ∃ p17, e18 = Ending.returned (Value.pointer p17) ∧
  R (Ending.returned (Value.pointer p17)) w19)
  (V.sel (cmp_3 == 6)
  (Calls Try.prog 17 #[(Value.pointer x_1), (Value.string key_2), (Value.int .i64 n_4), (Value.int .i64 9223372036854775807)] w fun e21 w22 =>
  ∃ p20, e21 = Ending.returned (Value.pointer p20) ∧
  R (Ending.returned (Value.pointer p20)) w22)
  (V.sel (cmp_3 == 3)
  (V.sel (decide (n_4 > (-9223372036854775808)))
  (Calls Try.prog 17 #[(Value.pointer x_1), (Value.string key_2), (Value.int .i64 (-9223372036854775808)), (Value.int .i64 (IntKind.wrap .i64 (n_4 - 1)))] w fun e24 w25 =>
  ∃ p23, e24 = Ending.returned (Value.pointer p23) ∧
  R (Ending.returned (Value.pointer p23)) w25)
  (Calls Try.prog 41 #[(Value.pointer x_1)] w fun e27 w28 =>
  ∃ p26, e27 = Ending.returned (Value.pointer p26) ∧
  R (Ending.returned (Value.pointer p26)) w28))
  (V.sel (cmp_3 == 5)
  (V.sel (decide (n_4 < 9223372036854775807))
  (Calls Try.prog 17 #[(Value.pointer x_1), (Value.string key_2), (Value.int .i64 (IntKind.wrap .i64 (n_4 + 1))), (Value.int .i64 9223372036854775807)] w fun e30 w31 =>
  ∃ p29, e30 = Ending.returned (Value.pointer p29) ∧
  R (Ending.returned (Value.pointer p29)) w31)
  (Calls Try.prog 41 #[(Value.pointer x_1)] w fun e33 w34 =>
  ∃ p32, e33 = Ending.returned (Value.pointer p32) ∧
  R (Ending.returned (Value.pointer p32)) w34))
  (Calls Try.prog 41 #[(Value.pointer x_1)] w fun e36 w37 =>
  ∃ p35, e36 = Ending.returned (Value.pointer p35) ∧
  R (Ending.returned (Value.pointer p35)) w37))))))) :
  Calls Try.prog 11 #[(Value.pointer x_1), (Value.string key_2), (Value.int .i64 cmp_3), (Value.int .i64 n_4)] w R :=
  V.calls_of_R ⟨V.assoc [], V.assocP [], V.assocC [], V.assocS [], ⟨[], true⟩⟩ Try.func11 rfl (Eq.mp (by kernel_rfl) h)

theorem ordered_Index_Among_nf (x_1 : Option Addr) (key_2 : ByteArray) (ns_3 : Option Addr) (ns_3l : Nat) (ns_3c : Nat) (w : World) (R : Ending → World → Prop) (h :
  Calls Try.prog 41 #[(Value.pointer x_1)] w fun e5 w6 =>
  ∃ p4, e5 = Ending.returned (Value.pointer p4) ∧
  ∀ w7, w7 = (World.alloc w6 (.cells #[(Value.pointer none)] 29)) →
  ∃ w8, Sem.run Try.prog (Instr.storeAt 29 (Value.pointer (some ⟨Array.size (World.heap w6), 0, none⟩)) (Value.pointer p4)) w7 = .ok () w8 ∧
  Calls Try.prog 47 #[(Value.pointer x_1), (Value.string key_2)] w8 fun e10 w11 =>
  ∃ p9, e10 = Ending.returned (Value.pointer p9) ∧
  ∃ I12 : Int → List Nat → World → Prop, ∃ μ13 : Int → World → Nat, I12 0 [] w11 ∧
  ∀ t20_14 (j15 : Nat → Value) (ds16 : List Nat) (w17 : World), I12 t20_14 ds16 w17 →
  (V.sel (decide (t20_14 < ((ns_3l : Nat) : Int)))
  (V.when (decide ((0 : Int) ≤ t20_14 ∧ (t20_14 : Int) < ((ns_3l : Nat) : Int))) (V.ptr ns_3 fun a18 =>
  ∃ n19, World.cell? w17 (Addr.add a18 ((Int.toNat t20_14) * 1)) = some (Value.int .i64 n19) ∧
  Calls Try.prog 48 #[(Value.pointer p9), (Value.int .i64 n19), (Value.int .i64 n19)] w17 fun e21 w22 =>
  ∃ f20, ∃ f20a, ∃ f20c, e21 = Ending.returned (Value.func (.func f20) f20a f20c) ∧
  V.when (V.hasB Try.prog f20 && true) (∀ (Rc23 : Loop) (l24 : Nat) (w25 : World), l24 = Array.size (World.heap w22) + 1 → w25 = World.alloc (World.alloc w22 (.deferred (some []))) (.loop { Rc23 with state := .ready, pending := none }) →
  (∀ y28_28 y29_29 (W26 : World) (R27 : Ending → World → Prop), V.LoopSt W26 l24 Rc23 .ready none →
  (V.LoopSt W26 l24 Rc23 .ready none ∧
  ∃ p30, World.cell? (V.setLoop W26 l24 Rc23 .busy none) ⟨Array.size (World.heap w6), 0, none⟩ = some (Value.pointer p30) ∧
  Calls Try.prog 49 #[(Value.pointer p30), (Value.pointer y29_29)] (V.setLoop W26 l24 Rc23 .busy none) fun e31 w32 =>
  e31 = Ending.returned undef ∧
  V.LoopSt w32 l24 Rc23 .busy none ∧ R27 (Ending.returned (Value.bool true)) (V.setLoop w32 l24 Rc23 .ready none)) →
  V.Yield Try.prog l24 [(Value.int .i64 y28_28), (Value.pointer y29_29)] W26 R27) →
  Calls Try.prog f20 ⟨Array.toList f20a ++ [(Value.func (.yield l24) #[] #[])] ++ Array.toList f20c⟩ w25 fun e33 w35 => (∃ v34, e33 = Ending.returned v34) ∧
  ((V.LoopSt w35 l24 Rc23 .ready none ∧
  I12 (IntKind.wrap .i64 (t20_14 + 1)) (Array.size (World.heap w22) :: ds16) (V.setLoop w35 l24 Rc23 .exhausted none) ∧ μ13 (IntKind.wrap .i64 (t20_14 + 1)) (V.setLoop w35 l24 Rc23 .exhausted none) < μ13 t20_14 w17) ∨
  False))))
  (∃ p36, World.cell? w17 ⟨Array.size (World.heap w6), 0, none⟩ = some (Value.pointer p36) ∧
  V.closeR ds16 w17 fun w37 =>
  R (Ending.returned (Value.pointer p36)) w37))) :
  Calls Try.prog 16 #[(Value.pointer x_1), (Value.string key_2), (Value.slice ns_3 ns_3l ns_3c)] w R :=
  V.calls_of_R ⟨V.assoc [(0, [20])], V.assocP [], V.assocC [], V.assocS [(1, [V.Sh.one (.int .i64), V.Sh.one .ptr])], ⟨[], true⟩⟩ Try.func16 rfl (Eq.mp (by kernel_rfl) h)

theorem ordered_Index_Between_nf (x_1 : Option Addr) (key_2 : ByteArray) (lo_3 : Int) (hi_4 : Int) (w : World) (R : Ending → World → Prop) (h :
  Calls Try.prog 41 #[(Value.pointer x_1)] w fun e6 w7 =>
  ∃ p5, e6 = Ending.returned (Value.pointer p5) ∧
  ∀ w8, w8 = (World.alloc w7 (.cells #[(Value.pointer none)] 29)) →
  ∃ w9, Sem.run Try.prog (Instr.storeAt 29 (Value.pointer (some ⟨Array.size (World.heap w7), 0, none⟩)) (Value.pointer p5)) w8 = .ok () w9 ∧
  Calls Try.prog 47 #[(Value.pointer x_1), (Value.string key_2)] w9 fun e11 w12 =>
  ∃ p10, e11 = Ending.returned (Value.pointer p10) ∧
  Calls Try.prog 48 #[(Value.pointer p10), (Value.int .i64 lo_3), (Value.int .i64 hi_4)] w12 fun e14 w15 =>
  ∃ f13, ∃ f13a, ∃ f13c, e14 = Ending.returned (Value.func (.func f13) f13a f13c) ∧
  V.when (V.hasB Try.prog f13 && true) (∀ (Rc16 : Loop) (l17 : Nat) (w18 : World), l17 = Array.size (World.heap w15) + 1 → w18 = World.alloc (World.alloc w15 (.deferred (some []))) (.loop { Rc16 with state := .ready, pending := none }) →
  (∀ y20_21 y21_22 (W19 : World) (R20 : Ending → World → Prop), V.LoopSt W19 l17 Rc16 .ready none →
  (V.LoopSt W19 l17 Rc16 .ready none ∧
  ∃ p23, World.cell? (V.setLoop W19 l17 Rc16 .busy none) ⟨Array.size (World.heap w7), 0, none⟩ = some (Value.pointer p23) ∧
  Calls Try.prog 49 #[(Value.pointer p23), (Value.pointer y21_22)] (V.setLoop W19 l17 Rc16 .busy none) fun e24 w25 =>
  e24 = Ending.returned undef ∧
  V.LoopSt w25 l17 Rc16 .busy none ∧ R20 (Ending.returned (Value.bool true)) (V.setLoop w25 l17 Rc16 .ready none)) →
  V.Yield Try.prog l17 [(Value.int .i64 y20_21), (Value.pointer y21_22)] W19 R20) →
  Calls Try.prog f13 ⟨Array.toList f13a ++ [(Value.func (.yield l17) #[] #[])] ++ Array.toList f13c⟩ w18 fun e26 w28 => (∃ v27, e26 = Ending.returned v27) ∧
  ((V.LoopSt w28 l17 Rc16 .ready none ∧
  ∃ p29, World.cell? (V.setLoop w28 l17 Rc16 .exhausted none) ⟨Array.size (World.heap w7), 0, none⟩ = some (Value.pointer p29) ∧
  V.closeR (Array.size (World.heap w15) :: []) (V.setLoop w28 l17 Rc16 .exhausted none) fun w30 =>
  R (Ending.returned (Value.pointer p29)) w30) ∨
  False))) :
  Calls Try.prog 17 #[(Value.pointer x_1), (Value.string key_2), (Value.int .i64 lo_3), (Value.int .i64 hi_4)] w R :=
  V.calls_of_R ⟨V.assoc [], V.assocP [], V.assocC [], V.assocS [(0, [V.Sh.one (.int .i64), V.Sh.one .ptr])], ⟨[], true⟩⟩ Try.func17 rfl (Eq.mp (by kernel_rfl) h)

theorem ordered_Index_Get_nf (x_1 : Option Addr) (key_2 : ByteArray) (slot_3 : Int) (w : World) (R : Ending → World → Prop) (h :
  Calls Try.prog 47 #[(Value.pointer x_1), (Value.string key_2)] w fun e5 w6 =>
  ∃ p4, e5 = Ending.returned (Value.pointer p4) ∧
  V.ptr p4 fun a7 =>
  ∃ m8, World.cell? w6 (Addr.add a7 1) = some (Value.map m8) ∧
  ∃ n9, ∃ b10, ∃ w11, Sem.run Try.prog (Instr.lookup 88 (Value.map m8) (Value.int .i64 slot_3) true) w6 = .ok (Value.tuple #[(Value.int .i64 n9), (Value.bool b10)]) w11 ∧
  R (Ending.returned (Value.tuple #[(Value.int .i64 n9), (Value.bool b10)])) w11) :
  Calls Try.prog 19 #[(Value.pointer x_1), (Value.string key_2), (Value.int .i64 slot_3)] w R :=
  V.calls_of_R ⟨V.assoc [], V.assocP [], V.assocC [], V.assocS [], ⟨[], true⟩⟩ Try.func19 rfl (Eq.mp (by kernel_rfl) h)

theorem ordered_Index_Rows_nf (x_1 : Option Addr) (key_2 : ByteArray) (w : World) (R : Ending → World → Prop) (h :
  ∀ w3, w3 = (World.alloc w (.cells #[(Value.slice none 0 0)] 87)) →
  Calls Try.prog 47 #[(Value.pointer x_1), (Value.string key_2)] w3 fun e5 w6 =>
  ∃ p4, e5 = Ending.returned (Value.pointer p4) ∧
  Calls Try.prog 48 #[(Value.pointer p4), (Value.int .i64 (-9223372036854775808)), (Value.int .i64 9223372036854775807)] w6 fun e8 w9 =>
  ∃ f7, ∃ f7a, ∃ f7c, e8 = Ending.returned (Value.func (.func f7) f7a f7c) ∧
  V.when (V.hasB Try.prog f7 && true) (∀ (Rc10 : Loop) (l11 : Nat) (w12 : World), l11 = Array.size (World.heap w9) + 1 → w12 = World.alloc (World.alloc w9 (.deferred (some []))) (.loop { Rc10 with state := .ready, pending := none }) →
  (∀ y12_15 y13_16 (W13 : World) (R14 : Ending → World → Prop), V.LoopSt W13 l11 Rc10 .ready none →
  (V.LoopSt W13 l11 Rc10 .ready none ∧
  ∃ S17 : World → Prop, S17 (World.drew (V.setLoop W13 l11 Rc10 .busy none)) ∧
  ∃ A19, ∃ A19l, ∃ A19c, (∀ w18, S17 w18 → World.cell? w18 ⟨Array.size (World.heap w), 0, none⟩ = some (Value.slice A19 A19l A19c)) ∧
  Calls Try.prog 32 #[(Value.pointer y13_16)] (World.drew (V.setLoop W13 l11 Rc10 .busy none)) fun e21 w22 =>
  ∃ p20, e21 = Ending.returned (Value.pointer p20) ∧
  S17 w22 ∧
  ∀ w23, w23 = (World.alloc w22 (.cells #[(Value.int .i64 y12_15), (Value.pointer p20)] 99)) →
  S17 w23 ∧
  ∃ A24, ∃ A24l, ∃ A24c, ∃ w25, Sem.run Try.prog (Builtin.append_ #[87, 87] 87 #[(Value.slice A19 A19l A19c), (Value.slice (some ⟨Array.size (World.heap w22), 0, none⟩) 1 1)]) w23 = .ok (Value.slice A24 A24l A24c) w25 ∧
  S17 w25 ∧
  ∃ w26, Sem.run Try.prog (Instr.storeAt 87 (Value.pointer (some ⟨Array.size (World.heap w), 0, none⟩)) (Value.slice A24 A24l A24c)) w25 = .ok () w26 ∧
  V.LoopSt w26 l11 Rc10 .busy none ∧ R14 (Ending.returned (Value.bool true)) (V.setLoop w26 l11 Rc10 .ready none)) →
  V.Yield Try.prog l11 [(Value.int .i64 y12_15), (Value.pointer y13_16)] W13 R14) →
  Calls Try.prog f7 ⟨Array.toList f7a ++ [(Value.func (.yield l11) #[] #[])] ++ Array.toList f7c⟩ w12 fun e27 w29 => (∃ v28, e27 = Ending.returned v28) ∧
  ((V.LoopSt w29 l11 Rc10 .ready none ∧
  V.closeR (Array.size (World.heap w9) :: []) (V.setLoop w29 l11 Rc10 .exhausted none) fun w30 =>
  R (Ending.returned (Value.func (.func 53) #[] #[(Value.pointer (some ⟨Array.size (World.heap w), 0, none⟩))])) w30) ∨
  False))) :
  Calls Try.prog 22 #[(Value.pointer x_1), (Value.string key_2)] w R :=
  V.calls_of_R ⟨V.assoc [], V.assocP [(5, V.line [0, 1, 2, 3, 4, 5, 6, 7])], V.assocC [], V.assocS [(0, [V.Sh.one (.int .i64), V.Sh.one .ptr])], ⟨[], true⟩⟩ Try.func22 rfl (Eq.mp (by kernel_rfl) h)

theorem berthlaw08_Begin_nf  (w : World) (R : Ending → World → Prop) (h :
  ∀ w1, w1 = (World.alloc w (.cells #[(Value.pointer none), (Value.pointer none), (Value.pointer none), (Value.pointer none), (Value.int .i64 0), (Value.slice none 0 0), (Value.int .i64 0), (Value.slice none 0 0), (Value.int .i64 0), (Value.slice none 0 0), (Value.int .i64 0), (Value.slice none 0 0)] 62)) →
  ∀ w2, w2 = (World.alloc w1 (.cells #[(Value.int .i64 8), (Value.int .i64 70), (Value.int .i64 200)] 3)) →
  ∃ I3 : Int → World → Prop, ∃ μ4 : Int → World → Nat, I3 0 w2 ∧
  ∀ t11_5 (j6 : Nat → Value) (w7 : World), I3 t11_5 w7 →
  (V.sel (decide (t11_5 < 3))
  (V.when (decide ((0 : Int) ≤ t11_5 ∧ (t11_5 : Int) < 3)) (∃ n8, World.cell? w7 (Addr.add ⟨Array.size (World.heap w1), 0, none⟩ ((Int.toNat t11_5) * 1)) = some (Value.int .i64 n8) ∧
  Calls Try.prog 39 #[(Value.int .i64 n8)] w7 fun e11 w12 =>
  ∃ p9, ∃ n10, e11 = Ending.returned (Value.tuple #[(Value.pointer p9), (Value.int .i64 n10)]) ∧
  V.sel (Option.isNone p9)
  (R (Ending.returned (Value.tuple #[(Value.pointer none), (Value.bool false)])) w12)
  (V.sel (n10 != 0)
  (R (Ending.returned (Value.tuple #[(Value.pointer none), (Value.bool false)])) w12)
  (V.when (decide ((0 : Int) ≤ t11_5 ∧ (t11_5 : Int) < 4)) (∃ w13, Sem.run Try.prog (Instr.storeAt 26 (Value.pointer (some (Addr.add (Addr.add ⟨Array.size (World.heap w), 0, none⟩ 0) ((Int.toNat t11_5) * 1)))) (Value.pointer p9)) w12 = .ok () w13 ∧
  ∃ S14 : World → Prop, S14 (World.drew w13) ∧
  Calls Try.prog 54 #[(Value.int .i64 n8)] (World.drew w13) fun e19 w20 =>
  ∃ n16, ∃ A17, ∃ A17l, ∃ A17c, ∃ n18, e19 = Ending.returned (Value.tuple #[(Value.agg #[(Value.int .i64 n16), (Value.slice A17 A17l A17c)]), (Value.int .i64 n18)]) ∧
  S14 w20 ∧
  V.when (decide ((0 : Int) ≤ t11_5 ∧ (t11_5 : Int) < 4)) (∃ w21, Sem.run Try.prog (Instr.storeAt 58 (Value.pointer (some (Addr.add (Addr.add ⟨Array.size (World.heap w), 0, none⟩ 4) ((Int.toNat t11_5) * 2)))) (Value.agg #[(Value.int .i64 n16), (Value.slice A17 A17l A17c)])) w20 = .ok () w21 ∧
  S14 w21 ∧
  I3 (IntKind.wrap .i64 (t11_5 + 1)) w21 ∧ μ4 (IntKind.wrap .i64 (t11_5 + 1)) w21 < μ4 t11_5 w7))))))
  (R (Ending.returned (Value.tuple #[(Value.pointer (some ⟨Array.size (World.heap w), 0, none⟩)), (Value.bool true)])) w7))) :
  Calls Try.prog 25 #[] w R :=
  V.calls_of_R ⟨V.assoc [(0, [11])], V.assocP [(9, V.line [0, 1, 2, 7, 8, 3, 4, 5, 6, 9, 10])], V.assocC [], V.assocS [], ⟨[], true⟩⟩ Try.func25 rfl (Eq.mp (by kernel_rfl) h)

theorem berthlaw08_World_changes_nf (w_1 : Option Addr) (o_2 : Int) (o_3 : Int) (o_4 : Int) (o_5 : ByteArray) (o_6 : Int) (o_7 : Int) (o_8 : Int) (o_9 : Option Addr) (o_9l : Nat) (o_9c : Nat) (i_10 : Int) (w : World) (R : Ending → World → Prop) (h :
  ∀ w11, w11 = (World.alloc w (.cells #[(Value.int .i64 o_2), (Value.int .i64 o_3), (Value.int .i64 o_4), (Value.string o_5), (Value.int .i64 o_6), (Value.int .i64 o_7), (Value.int .i64 o_8), (Value.slice o_9 o_9l o_9c)] 50)) →
  ∃ n12, World.cell? w11 (Addr.add ⟨Array.size (World.heap w), 0, none⟩ 0) = some (Value.int .i64 n12) ∧
  V.sel (n12 == 1)
  (∃ n13, World.cell? w11 (Addr.add ⟨Array.size (World.heap w), 0, none⟩ 2) = some (Value.int .i64 n13) ∧
  Calls Try.prog 39 #[(Value.int .i64 n13)] w11 fun e16 w17 =>
  ∃ p14, ∃ n15, e16 = Ending.returned (Value.tuple #[(Value.pointer p14), (Value.int .i64 n15)]) ∧
  ∃ n18, World.cell? w17 (Addr.add ⟨Array.size (World.heap w), 0, none⟩ 2) = some (Value.int .i64 n18) ∧
  Calls Try.prog 54 #[(Value.int .i64 n18)] w17 fun e22 w23 =>
  ∃ n19, ∃ A20, ∃ A20l, ∃ A20c, ∃ n21, e22 = Ending.returned (Value.tuple #[(Value.agg #[(Value.int .i64 n19), (Value.slice A20 A20l A20c)]), (Value.int .i64 n21)]) ∧
  ∀ w24, w24 = (World.alloc w23 (.cells #[(Value.int .i64 0), (Value.slice none 0 0)] 58)) →
  ∃ w25, Sem.run Try.prog (Instr.storeAt 58 (Value.pointer (some ⟨Array.size (World.heap w23), 0, none⟩)) (Value.agg #[(Value.int .i64 n19), (Value.slice A20 A20l A20c)])) w24 = .ok () w25 ∧
  V.sel (n15 != n21)
  (R (Ending.returned (Value.bool false)) w25)
  (V.sel (!((!(Option.isNone p14)) == (n21 == 0)))
  (R (Ending.returned (Value.bool false)) w25)
  (V.sel (!(Option.isNone p14))
  (∃ S26 : World → Prop, S26 (World.drew w25) ∧
  ∃ n28, ∃ A29, ∃ A29l, ∃ A29c, V.cellsC (fun a_ x_ => ∀ w27, S26 w27 → World.cell? w27 a_ = some x_) ⟨Array.size (World.heap w23), 0, none⟩ [(Value.int .i64 n28), (Value.slice A29 A29l A29c)] ∧
  V.ptr w_1 fun a30 =>
  V.when (decide ((0 : Int) ≤ i_10 ∧ (i_10 : Int) < 4)) (V.ptr w_1 fun a31 =>
  ∃ w32, Sem.run Try.prog (Instr.storeAt 26 (Value.pointer (some (Addr.add (Addr.add a30 0) ((Int.toNat i_10) * 1)))) (Value.pointer p14)) (World.drew w25) = .ok () w32 ∧
  S26 w32 ∧
  V.when (decide ((0 : Int) ≤ i_10 ∧ (i_10 : Int) < 4)) (∃ w33, Sem.run Try.prog (Instr.storeAt 58 (Value.pointer (some (Addr.add (Addr.add a31 4) ((Int.toNat i_10) * 2)))) (Value.agg #[(Value.int .i64 n28), (Value.slice A29 A29l A29c)])) w32 = .ok () w33 ∧
  S26 w33 ∧
  R (Ending.returned (Value.bool true)) w33)))
  (R (Ending.returned (Value.bool true)) w25))))
  (V.sel (n12 == 2)
  (∃ S34 : World → Prop, S34 (World.drew w11) ∧
  V.ptr w_1 fun a36 =>
  V.when (decide ((0 : Int) ≤ i_10 ∧ (i_10 : Int) < 4)) (∃ p37, (∀ w35, S34 w35 → World.cell? w35 (Addr.add (Addr.add a36 0) ((Int.toNat i_10) * 1)) = some (Value.pointer p37)) ∧
  ∃ s38, (∀ w35, S34 w35 → World.cell? w35 (Addr.add ⟨Array.size (World.heap w), 0, none⟩ 3) = some (Value.string s38)) ∧
  ∃ n39, (∀ w35, S34 w35 → World.cell? w35 (Addr.add ⟨Array.size (World.heap w), 0, none⟩ 4) = some (Value.int .i64 n39)) ∧
  ∃ n40, (∀ w35, S34 w35 → World.cell? w35 (Addr.add ⟨Array.size (World.heap w), 0, none⟩ 5) = some (Value.int .i64 n40)) ∧
  Calls Try.prog 35 #[(Value.pointer p37), (Value.string s38), (Value.int .i64 n39), (Value.int .i64 n40)] (World.drew w11) fun e42 w43 =>
  ∃ n41, e42 = Ending.returned (Value.int .i64 n41) ∧
  S34 w43 ∧
  V.ptr w_1 fun a44 =>
  V.when (decide ((0 : Int) ≤ i_10 ∧ (i_10 : Int) < 4)) (∃ p45, World.cell? w43 (Addr.add (Addr.add a44 0) ((Int.toNat i_10) * 1)) = some (Value.pointer p45) ∧
  V.sel (Option.isNone p45)
  (R (Ending.returned (Value.bool (n41 == 1))) w43)
  (∃ J46 : Option Addr → Int → World → Prop, (∃ S47 : World → Prop, S47 (World.drew w43) ∧
  V.ptr w_1 fun a49 =>
  V.when (decide ((0 : Int) ≤ i_10 ∧ (i_10 : Int) < 4)) (∃ n50, ∃ A51, ∃ A51l, ∃ A51c, V.cellsC (fun a_ x_ => ∀ w48, S47 w48 → World.cell? w48 a_ = some x_) (Addr.add (Addr.add a49 4) ((Int.toNat i_10) * 2)) [(Value.int .i64 n50), (Value.slice A51 A51l A51c)] ∧
  ∃ s52, (∀ w48, S47 w48 → World.cell? w48 (Addr.add ⟨Array.size (World.heap w), 0, none⟩ 3) = some (Value.string s52)) ∧
  ∃ n53, (∀ w48, S47 w48 → World.cell? w48 (Addr.add ⟨Array.size (World.heap w), 0, none⟩ 4) = some (Value.int .i64 n53)) ∧
  ∃ n54, (∀ w48, S47 w48 → World.cell? w48 (Addr.add ⟨Array.size (World.heap w), 0, none⟩ 5) = some (Value.int .i64 n54)) ∧
  (Calls Try.prog 55 #[(Value.agg #[(Value.int .i64 n50), (Value.slice A51 A51l A51c)]), (Value.string s52), (Value.int .i64 n53), (Value.int .i64 n54)] (World.drew w43) fun e58 w59 =>
  ∃ n55, ∃ A56, ∃ A56l, ∃ A56c, ∃ n57, e58 = Ending.returned (Value.tuple #[(Value.agg #[(Value.int .i64 n55), (Value.slice A56 A56l A56c)]), (Value.int .i64 n57)]) ∧
  S47 w59 ∧
  ∀ w60, w60 = (World.alloc w59 (.cells #[(Value.int .i64 0), (Value.slice none 0 0)] 58)) →
  S47 w60 ∧
  ∃ w61, Sem.run Try.prog (Instr.storeAt 58 (Value.pointer (some ⟨Array.size (World.heap w59), 0, none⟩)) (Value.agg #[(Value.int .i64 n55), (Value.slice A56 A56l A56c)])) w60 = .ok () w61 ∧
  S47 w61 ∧
  J46 (some ⟨Array.size (World.heap w59), 0, none⟩) n57 w61) ∧
  (∀ w62, w62 = (World.alloc (World.drew w43) (.cells #[(Value.int .i64 0), (Value.slice none 0 0)] 58)) →
  S47 w62 ∧
  Calls Try.prog 55 #[(Value.agg #[(Value.int .i64 n50), (Value.slice A51 A51l A51c)]), (Value.string s52), (Value.int .i64 n53), (Value.int .i64 n54)] w62 fun e66 w67 =>
  ∃ n63, ∃ A64, ∃ A64l, ∃ A64c, ∃ n65, e66 = Ending.returned (Value.tuple #[(Value.agg #[(Value.int .i64 n63), (Value.slice A64 A64l A64c)]), (Value.int .i64 n65)]) ∧
  S47 w67 ∧
  ∃ w68, Sem.run Try.prog (Instr.storeAt 58 (Value.pointer (some ⟨Array.size (World.heap (World.drew w43)), 0, none⟩)) (Value.agg #[(Value.int .i64 n63), (Value.slice A64 A64l A64c)])) w67 = .ok () w68 ∧
  S47 w68 ∧
  J46 (some ⟨Array.size (World.heap (World.drew w43)), 0, none⟩) n65 w68) ∧ True)) ∧
  ∀ m_69 f_70 (j71 : Nat → Value) (w72 : World), J46 m_69 f_70 w72 →
  ∃ S73 : World → Prop, S73 (World.drew w72) ∧
  V.ptr m_69 fun a75 =>
  ∃ n76, ∃ A77, ∃ A77l, ∃ A77c, V.cellsC (fun a_ x_ => ∀ w74, S73 w74 → World.cell? w74 a_ = some x_) a75 [(Value.int .i64 n76), (Value.slice A77 A77l A77c)] ∧
  V.ptr w_1 fun a78 =>
  V.when (decide ((0 : Int) ≤ i_10 ∧ (i_10 : Int) < 4)) (∃ w79, Sem.run Try.prog (Instr.storeAt 58 (Value.pointer (some (Addr.add (Addr.add a78 4) ((Int.toNat i_10) * 2)))) (Value.agg #[(Value.int .i64 n76), (Value.slice A77 A77l A77c)])) (World.drew w72) = .ok () w79 ∧
  S73 w79 ∧
  R (Ending.returned (Value.bool (n41 == f_70))) w79)))))
  (V.sel (n12 == 3)
  (∃ S80 : World → Prop, S80 (World.drew w11) ∧
  V.ptr w_1 fun a82 =>
  V.when (decide ((0 : Int) ≤ i_10 ∧ (i_10 : Int) < 4)) (∃ p83, (∀ w81, S80 w81 → World.cell? w81 (Addr.add (Addr.add a82 0) ((Int.toNat i_10) * 1)) = some (Value.pointer p83)) ∧
  ∃ s84, (∀ w81, S80 w81 → World.cell? w81 (Addr.add ⟨Array.size (World.heap w), 0, none⟩ 3) = some (Value.string s84)) ∧
  ∃ n85, (∀ w81, S80 w81 → World.cell? w81 (Addr.add ⟨Array.size (World.heap w), 0, none⟩ 4) = some (Value.int .i64 n85)) ∧
  Calls Try.prog 34 #[(Value.pointer p83), (Value.string s84), (Value.int .i64 n85)] (World.drew w11) fun e87 w88 =>
  ∃ n86, e87 = Ending.returned (Value.int .i64 n86) ∧
  S80 w88 ∧
  V.ptr w_1 fun a89 =>
  V.when (decide ((0 : Int) ≤ i_10 ∧ (i_10 : Int) < 4)) (∃ p90, World.cell? w88 (Addr.add (Addr.add a89 0) ((Int.toNat i_10) * 1)) = some (Value.pointer p90) ∧
  V.sel (Option.isNone p90)
  (R (Ending.returned (Value.bool (n86 == 1))) w88)
  (∃ J91 : Option Addr → Int → World → Prop, (∃ S92 : World → Prop, S92 (World.drew w88) ∧
  V.ptr w_1 fun a94 =>
  V.when (decide ((0 : Int) ≤ i_10 ∧ (i_10 : Int) < 4)) (∃ n95, ∃ A96, ∃ A96l, ∃ A96c, V.cellsC (fun a_ x_ => ∀ w93, S92 w93 → World.cell? w93 a_ = some x_) (Addr.add (Addr.add a94 4) ((Int.toNat i_10) * 2)) [(Value.int .i64 n95), (Value.slice A96 A96l A96c)] ∧
  ∃ s97, (∀ w93, S92 w93 → World.cell? w93 (Addr.add ⟨Array.size (World.heap w), 0, none⟩ 3) = some (Value.string s97)) ∧
  ∃ n98, (∀ w93, S92 w93 → World.cell? w93 (Addr.add ⟨Array.size (World.heap w), 0, none⟩ 4) = some (Value.int .i64 n98)) ∧
  (Calls Try.prog 56 #[(Value.agg #[(Value.int .i64 n95), (Value.slice A96 A96l A96c)]), (Value.string s97), (Value.int .i64 n98)] (World.drew w88) fun e102 w103 =>
  ∃ n99, ∃ A100, ∃ A100l, ∃ A100c, ∃ n101, e102 = Ending.returned (Value.tuple #[(Value.agg #[(Value.int .i64 n99), (Value.slice A100 A100l A100c)]), (Value.int .i64 n101)]) ∧
  S92 w103 ∧
  ∀ w104, w104 = (World.alloc w103 (.cells #[(Value.int .i64 0), (Value.slice none 0 0)] 58)) →
  S92 w104 ∧
  ∃ w105, Sem.run Try.prog (Instr.storeAt 58 (Value.pointer (some ⟨Array.size (World.heap w103), 0, none⟩)) (Value.agg #[(Value.int .i64 n99), (Value.slice A100 A100l A100c)])) w104 = .ok () w105 ∧
  S92 w105 ∧
  J91 (some ⟨Array.size (World.heap w103), 0, none⟩) n101 w105) ∧
  (∀ w106, w106 = (World.alloc (World.drew w88) (.cells #[(Value.int .i64 0), (Value.slice none 0 0)] 58)) →
  S92 w106 ∧
  Calls Try.prog 56 #[(Value.agg #[(Value.int .i64 n95), (Value.slice A96 A96l A96c)]), (Value.string s97), (Value.int .i64 n98)] w106 fun e110 w111 =>
  ∃ n107, ∃ A108, ∃ A108l, ∃ A108c, ∃ n109, e110 = Ending.returned (Value.tuple #[(Value.agg #[(Value.int .i64 n107), (Value.slice A108 A108l A108c)]), (Value.int .i64 n109)]) ∧
  S92 w111 ∧
  ∃ w112, Sem.run Try.prog (Instr.storeAt 58 (Value.pointer (some ⟨Array.size (World.heap (World.drew w88)), 0, none⟩)) (Value.agg #[(Value.int .i64 n107), (Value.slice A108 A108l A108c)])) w111 = .ok () w112 ∧
  S92 w112 ∧
  J91 (some ⟨Array.size (World.heap (World.drew w88)), 0, none⟩) n109 w112) ∧ True)) ∧
  ∀ m_113 f_114 (j115 : Nat → Value) (w116 : World), J91 m_113 f_114 w116 →
  ∃ S117 : World → Prop, S117 (World.drew w116) ∧
  V.ptr m_113 fun a119 =>
  ∃ n120, ∃ A121, ∃ A121l, ∃ A121c, V.cellsC (fun a_ x_ => ∀ w118, S117 w118 → World.cell? w118 a_ = some x_) a119 [(Value.int .i64 n120), (Value.slice A121 A121l A121c)] ∧
  V.ptr w_1 fun a122 =>
  V.when (decide ((0 : Int) ≤ i_10 ∧ (i_10 : Int) < 4)) (∃ w123, Sem.run Try.prog (Instr.storeAt 58 (Value.pointer (some (Addr.add (Addr.add a122 4) ((Int.toNat i_10) * 2)))) (Value.agg #[(Value.int .i64 n120), (Value.slice A121 A121l A121c)])) (World.drew w116) = .ok () w123 ∧
  S117 w123 ∧
  R (Ending.returned (Value.bool (n86 == f_114))) w123)))))
  (R (Ending.returned (Value.bool true)) w11)))) :
  Calls Try.prog 26 #[(Value.pointer w_1), (Value.agg #[(Value.int .i64 o_2), (Value.int .i64 o_3), (Value.int .i64 o_4), (Value.string o_5), (Value.int .i64 o_6), (Value.int .i64 o_7), (Value.int .i64 o_8), (Value.slice o_9 o_9l o_9c)]), (Value.int .i64 i_10)] w R :=
  V.calls_of_R ⟨V.assoc [], V.assocP [(8, V.line [0, 1, 2, 3, 4, 5, 6, 7, 8, 10, 11, 9, 12, 13]), (10, V.line [0, 1, 2, 3, 4, 5, 6, 7, 8, 9, 10, 11, 12, 13]), (13, (V.Plan.one 0 (V.Plan.one 1 (V.Plan.one 2 (V.Plan.one 3 (V.Plan.one 4 (V.Plan.one 5 (V.Plan.one 6 (V.Plan.one 7 (V.Plan.one 8 (V.Plan.one 9 (V.Plan.one 10 (V.Plan.one 11 (V.Plan.alt 12 (V.Plan.one 13 (V.Plan.one 14 (V.Plan.one 15 (V.Plan.one 16 (V.Plan.one 17 (V.Plan.one 18 V.Plan.done)))))) (V.Plan.alt 16 (V.Plan.one 12 (V.Plan.one 13 (V.Plan.one 14 (V.Plan.one 15 (V.Plan.one 17 (V.Plan.one 18 V.Plan.done)))))) V.Plan.stop))))))))))))))), (14, V.line [0, 1, 2, 3, 4, 5, 6]), (17, V.line [0, 1, 2, 3, 4, 5, 6, 7, 8, 9, 10, 11]), (20, (V.Plan.one 0 (V.Plan.one 1 (V.Plan.one 2 (V.Plan.one 3 (V.Plan.one 4 (V.Plan.one 5 (V.Plan.one 6 (V.Plan.one 7 (V.Plan.one 8 (V.Plan.one 9 (V.Plan.alt 10 (V.Plan.one 11 (V.Plan.one 12 (V.Plan.one 13 (V.Plan.one 14 (V.Plan.one 15 (V.Plan.one 16 V.Plan.done)))))) (V.Plan.alt 14 (V.Plan.one 10 (V.Plan.one 11 (V.Plan.one 12 (V.Plan.one 13 (V.Plan.one 15 (V.Plan.one 16 V.Plan.done)))))) V.Plan.stop))))))))))))), (21, V.line [0, 1, 2, 3, 4, 5, 6])], V.assocC [(13, ([12, 13], [V.Sh.one .ptr, V.Sh.one (.int .i64)])), (20, ([15, 16], [V.Sh.one .ptr, V.Sh.one (.int .i64)]))], V.assocS [], ⟨[], true⟩⟩ Try.func26 rfl (Eq.mp (by kernel_rfl) h)

theorem berthref08_Index_Numbers_nf (x_1 : Int) (x_2 : Option Addr) (x_2l : Nat) (x_2c : Nat) (key_3 : ByteArray) (w : World) (R : Ending → World → Prop) (h :
  ∀ w4, w4 = (World.alloc w (.cells #[(Value.int .i64 x_1), (Value.slice x_2 x_2l x_2c)] 58)) →
  ∀ w5, w5 = (World.alloc w4 (.cells #[] 3)) →
  ∃ I6 : Option Addr → Nat → Nat → Int → World → Prop, ∃ μ7 : Option Addr → Nat → Nat → Int → World → Nat, I6 (some ⟨Array.size (World.heap w4), 0, none⟩) 0 0 0 w5 ∧
  ∀ all_8 all_8l all_8c i_9 (j10 : Nat → Value) (w11 : World), I6 all_8 all_8l all_8c i_9 w11 →
  (∃ A12, ∃ A12l, ∃ A12c, World.cell? w11 (Addr.add ⟨Array.size (World.heap w), 0, none⟩ 1) = some (Value.slice A12 A12l A12c) ∧
  V.sel (decide (i_9 < ((A12l : Nat) : Int)))
  (∃ A13, ∃ A13l, ∃ A13c, World.cell? w11 (Addr.add ⟨Array.size (World.heap w), 0, none⟩ 1) = some (Value.slice A13 A13l A13c) ∧
  V.when (decide ((0 : Int) ≤ i_9 ∧ (i_9 : Int) < ((A13l : Nat) : Int))) (V.ptr A13 fun a14 =>
  ∃ s15, World.cell? w11 (Addr.add (Addr.add a14 ((Int.toNat i_9) * 3)) 0) = some (Value.string s15) ∧
  V.sel (ByteArray.toList s15 == ByteArray.toList key_3)
  (∃ A16, ∃ A16l, ∃ A16c, World.cell? w11 (Addr.add ⟨Array.size (World.heap w), 0, none⟩ 1) = some (Value.slice A16 A16l A16c) ∧
  V.when (decide ((0 : Int) ≤ i_9 ∧ (i_9 : Int) < ((A16l : Nat) : Int))) (V.ptr A16 fun a17 =>
  ∃ n18, World.cell? w11 (Addr.add (Addr.add a17 ((Int.toNat i_9) * 3)) 2) = some (Value.int .i64 n18) ∧
  ∀ w19, w19 = (World.alloc w11 (.cells #[(Value.int .i64 n18)] 3)) →
  ∃ A20, ∃ A20l, ∃ A20c, ∃ w21, Sem.run Try.prog (Builtin.append_ #[37, 37] 37 #[(Value.slice all_8 all_8l all_8c), (Value.slice (some ⟨Array.size (World.heap w11), 0, none⟩) 1 1)]) w19 = .ok (Value.slice A20 A20l A20c) w21 ∧
  I6 A20 A20l A20c (IntKind.wrap .i64 (i_9 + 1)) w21 ∧ μ7 A20 A20l A20c (IntKind.wrap .i64 (i_9 + 1)) w21 < μ7 all_8 all_8l all_8c i_9 w11))
  (I6 all_8 all_8l all_8c (IntKind.wrap .i64 (i_9 + 1)) w11 ∧ μ7 all_8 all_8l all_8c (IntKind.wrap .i64 (i_9 + 1)) w11 < μ7 all_8 all_8l all_8c i_9 w11)))
  (Calls Try.prog 57 #[(Value.slice all_8 all_8l all_8c)] w11 fun e23 w24 =>
  ∃ A22, ∃ A22l, ∃ A22c, e23 = Ending.returned (Value.slice A22 A22l A22c) ∧
  R (Ending.returned (Value.slice A22 A22l A22c)) w24))) :
  Calls Try.prog 27 #[(Value.agg #[(Value.int .i64 x_1), (Value.slice x_2 x_2l x_2c)]), (Value.string key_3)] w R :=
  V.calls_of_R ⟨V.assoc [(0, [5, 6])], V.assocP [], V.assocC [], V.assocS [], ⟨[], true⟩⟩ Try.func27 rfl (Eq.mp (by kernel_rfl) h)

end Go.Proofs.Ytjlkdadafddodaa
