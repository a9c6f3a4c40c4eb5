/- Normal forms of the program's functions, printed by a program of mine; the kernel checks each. -/
import Derived.Test.YtbaglnffgbnekaaProg
import Derived.Test.YtbaglnffgbnekaaV2
set_option linter.unusedVariables false
set_option maxRecDepth 100000
namespace Go.Proofs.Ytbaglnffgbnekaa
open Go

theorem berthlaw01_pairs_nil_nf (was_1 : Option Addr) (was_1l : Nat) (was_1c : Nat) (w : World) (R : Ending → World → Prop) (h :
  (∃ u2, World.cell? (World.alloc (World.alloc (World.alloc (World.alloc w (.cells #[Value.nilFunc] 57)) (.cells #[(Value.slice was_1 was_1l was_1c)] 25)) (.cells #[(Value.bool false)] 4)) (.cells #[(Value.int .i64 0)] 3)) (Addr.add ⟨Array.size (World.heap (World.alloc (World.alloc (World.alloc w (.cells #[Value.nilFunc] 57)) (.cells #[(Value.slice was_1 was_1l was_1c)] 25)) (.cells #[(Value.bool false)] 4))), 0, none⟩ 0) = some u2) ∧ World.frozen? (World.alloc (World.alloc (World.alloc (World.alloc w (.cells #[Value.nilFunc] 57)) (.cells #[(Value.slice was_1 was_1l was_1c)] 25)) (.cells #[(Value.bool false)] 4)) (.cells #[(Value.int .i64 0)] 3)) (Addr.add ⟨Array.size (World.heap (World.alloc (World.alloc (World.alloc w (.cells #[Value.nilFunc] 57)) (.cells #[(Value.slice was_1 was_1l was_1c)] 25)) (.cells #[(Value.bool false)] 4))), 0, none⟩ 0) = false ∧
  ∃ f3, ∃ f3a, ∃ f3c, World.cell? (World.setCell (World.alloc (World.alloc (World.alloc (World.alloc w (.cells #[Value.nilFunc] 57)) (.cells #[(Value.slice was_1 was_1l was_1c)] 25)) (.cells #[(Value.bool false)] 4)) (.cells #[(Value.int .i64 0)] 3)) (Addr.add ⟨Array.size (World.heap (World.alloc (World.alloc (World.alloc w (.cells #[Value.nilFunc] 57)) (.cells #[(Value.slice was_1 was_1l was_1c)] 25)) (.cells #[(Value.bool false)] 4))), 0, none⟩ 0) (Value.int .i64 0)) ⟨Array.size (World.heap w), 0, none⟩ = some (Value.func (.func f3) f3a f3c) ∧
  V.when (V.hasB Try.prog f3 && true) (∀ (Rc4 : Loop) (l5 : Nat) (w6 : World), l5 = Array.size (World.heap (World.setCell (World.alloc (World.alloc (World.alloc (World.alloc w (.cells #[Value.nilFunc] 57)) (.cells #[(Value.slice was_1 was_1l was_1c)] 25)) (.cells #[(Value.bool false)] 4)) (.cells #[(Value.int .i64 0)] 3)) (Addr.add ⟨Array.size (World.heap (World.alloc (World.alloc (World.alloc w (.cells #[Value.nilFunc] 57)) (.cells #[(Value.slice was_1 was_1l was_1c)] 25)) (.cells #[(Value.bool false)] 4))), 0, none⟩ 0) (Value.int .i64 0))) + 1 → w6 = World.alloc (World.alloc (World.setCell (World.alloc (World.alloc (World.alloc (World.alloc w (.cells #[Value.nilFunc] 57)) (.cells #[(Value.slice was_1 was_1l was_1c)] 25)) (.cells #[(Value.bool false)] 4)) (.cells #[(Value.int .i64 0)] 3)) (Addr.add ⟨Array.size (World.heap (World.alloc (World.alloc (World.alloc w (.cells #[Value.nilFunc] 57)) (.cells #[(Value.slice was_1 was_1l was_1c)] 25)) (.cells #[(Value.bool false)] 4))), 0, none⟩ 0) (Value.int .i64 0)) (.deferred (some []))) (.loop { Rc4 with state := .ready, pending := none }) →
  (∀ y10_9 (W7 : World) (R8 : Ending → World → Prop), V.LoopSt W7 l5 Rc4 .ready none →
  ((∃ u10, World.cell? (World.alloc W7 (.cells #[(Value.int .i64 0)] 3)) (Addr.add ⟨Array.size (World.heap W7), 0, none⟩ 0) = some u10) ∧ World.frozen? (World.alloc W7 (.cells #[(Value.int .i64 0)] 3)) (Addr.add ⟨Array.size (World.heap W7), 0, none⟩ 0) = false ∧
  V.LoopSt (World.setCell (World.alloc W7 (.cells #[(Value.int .i64 0)] 3)) (Addr.add ⟨Array.size (World.heap W7), 0, none⟩ 0) (Value.int .i64 y10_9)) l5 Rc4 .ready none ∧
  ∃ n11, World.cell? (V.setLoop (World.setCell (World.alloc W7 (.cells #[(Value.int .i64 0)] 3)) (Addr.add ⟨Array.size (World.heap W7), 0, none⟩ 0) (Value.int .i64 y10_9)) l5 Rc4 .busy none) ⟨Array.size (World.heap (World.alloc (World.alloc (World.alloc w (.cells #[Value.nilFunc] 57)) (.cells #[(Value.slice was_1 was_1l was_1c)] 25)) (.cells #[(Value.bool false)] 4))), 0, none⟩ = some (Value.int .i64 n11) ∧
  ∃ A12, ∃ A12l, ∃ A12c, World.cell? (V.setLoop (World.setCell (World.alloc W7 (.cells #[(Value.int .i64 0)] 3)) (Addr.add ⟨Array.size (World.heap W7), 0, none⟩ 0) (Value.int .i64 y10_9)) l5 Rc4 .busy none) ⟨Array.size (World.heap (World.alloc w (.cells #[Value.nilFunc] 57))), 0, none⟩ = some (Value.slice A12 A12l A12c) ∧
  V.sel (decide (n11 ≥ ((A12l : Nat) : Int)))
  ((∃ u13, World.cell? (World.drew (V.setLoop (World.setCell (World.alloc W7 (.cells #[(Value.int .i64 0)] 3)) (Addr.add ⟨Array.size (World.heap W7), 0, none⟩ 0) (Value.int .i64 y10_9)) l5 Rc4 .busy none)) (Addr.add ⟨Array.size (World.heap (World.alloc (World.alloc w (.cells #[Value.nilFunc] 57)) (.cells #[(Value.slice was_1 was_1l was_1c)] 25))), 0, none⟩ 0) = some u13) ∧ World.frozen? (World.drew (V.setLoop (World.setCell (World.alloc W7 (.cells #[(Value.int .i64 0)] 3)) (Addr.add ⟨Array.size (World.heap W7), 0, none⟩ 0) (Value.int .i64 y10_9)) l5 Rc4 .busy none)) (Addr.add ⟨Array.size (World.heap (World.alloc (World.alloc w (.cells #[Value.nilFunc] 57)) (.cells #[(Value.slice was_1 was_1l was_1c)] 25))), 0, none⟩ 0) = false ∧
  V.LoopSt (World.setCell (World.drew (V.setLoop (World.setCell (World.alloc W7 (.cells #[(Value.int .i64 0)] 3)) (Addr.add ⟨Array.size (World.heap W7), 0, none⟩ 0) (Value.int .i64 y10_9)) l5 Rc4 .busy none)) (Addr.add ⟨Array.size (World.heap (World.alloc (World.alloc w (.cells #[Value.nilFunc] 57)) (.cells #[(Value.slice was_1 was_1l was_1c)] 25))), 0, none⟩ 0) (Value.bool false)) l5 Rc4 .busy none ∧ R8 (Ending.returned (Value.bool false)) (V.setLoop (World.setCell (World.drew (V.setLoop (World.setCell (World.alloc W7 (.cells #[(Value.int .i64 0)] 3)) (Addr.add ⟨Array.size (World.heap W7), 0, none⟩ 0) (Value.int .i64 y10_9)) l5 Rc4 .busy none)) (Addr.add ⟨Array.size (World.heap (World.alloc (World.alloc w (.cells #[Value.nilFunc] 57)) (.cells #[(Value.slice was_1 was_1l was_1c)] 25))), 0, none⟩ 0) (Value.bool false)) l5 Rc4 .done (some Code.ret)))
  (∃ A14, ∃ A14l, ∃ A14c, World.cell? (V.setLoop (World.setCell (World.alloc W7 (.cells #[(Value.int .i64 0)] 3)) (Addr.add ⟨Array.size (World.heap W7), 0, none⟩ 0) (Value.int .i64 y10_9)) l5 Rc4 .busy none) ⟨Array.size (World.heap (World.alloc w (.cells #[Value.nilFunc] 57))), 0, none⟩ = some (Value.slice A14 A14l A14c) ∧
  ∃ n15, World.cell? (V.setLoop (World.setCell (World.alloc W7 (.cells #[(Value.int .i64 0)] 3)) (Addr.add ⟨Array.size (World.heap W7), 0, none⟩ 0) (Value.int .i64 y10_9)) l5 Rc4 .busy none) ⟨Array.size (World.heap (World.alloc (World.alloc (World.alloc w (.cells #[Value.nilFunc] 57)) (.cells #[(Value.slice was_1 was_1l was_1c)] 25)) (.cells #[(Value.bool false)] 4))), 0, none⟩ = some (Value.int .i64 n15) ∧
  V.when (decide ((0 : Int) ≤ n15 ∧ (n15 : Int) < ((A14l : Nat) : Int))) (V.ptr A14 fun a16 =>
  ∃ n17, World.cell? (V.setLoop (World.setCell (World.alloc W7 (.cells #[(Value.int .i64 0)] 3)) (Addr.add ⟨Array.size (World.heap W7), 0, none⟩ 0) (Value.int .i64 y10_9)) l5 Rc4 .busy none) (Addr.add a16 ((Int.toNat n15) * 1)) = some (Value.int .i64 n17) ∧
  ∃ n18, World.cell? (V.setLoop (World.setCell (World.alloc W7 (.cells #[(Value.int .i64 0)] 3)) (Addr.add ⟨Array.size (World.heap W7), 0, none⟩ 0) (Value.int .i64 y10_9)) l5 Rc4 .busy none) ⟨Array.size (World.heap W7), 0, none⟩ = some (Value.int .i64 n18) ∧
  V.sel (n17 != n18)
  ((∃ u19, World.cell? (World.drew (V.setLoop (World.setCell (World.alloc W7 (.cells #[(Value.int .i64 0)] 3)) (Addr.add ⟨Array.size (World.heap W7), 0, none⟩ 0) (Value.int .i64 y10_9)) l5 Rc4 .busy none)) (Addr.add ⟨Array.size (World.heap (World.alloc (World.alloc w (.cells #[Value.nilFunc] 57)) (.cells #[(Value.slice was_1 was_1l was_1c)] 25))), 0, none⟩ 0) = some u19) ∧ World.frozen? (World.drew (V.setLoop (World.setCell (World.alloc W7 (.cells #[(Value.int .i64 0)] 3)) (Addr.add ⟨Array.size (World.heap W7), 0, none⟩ 0) (Value.int .i64 y10_9)) l5 Rc4 .busy none)) (Addr.add ⟨Array.size (World.heap (World.alloc (World.alloc w (.cells #[Value.nilFunc] 57)) (.cells #[(Value.slice was_1 was_1l was_1c)] 25))), 0, none⟩ 0) = false ∧
  V.LoopSt (World.setCell (World.drew (V.setLoop (World.setCell (World.alloc W7 (.cells #[(Value.int .i64 0)] 3)) (Addr.add ⟨Array.size (World.heap W7), 0, none⟩ 0) (Value.int .i64 y10_9)) l5 Rc4 .busy none)) (Addr.add ⟨Array.size (World.heap (World.alloc (World.alloc w (.cells #[Value.nilFunc] 57)) (.cells #[(Value.slice was_1 was_1l was_1c)] 25))), 0, none⟩ 0) (Value.bool false)) l5 Rc4 .busy none ∧ R8 (Ending.returned (Value.bool false)) (V.setLoop (World.setCell (World.drew (V.setLoop (World.setCell (World.alloc W7 (.cells #[(Value.int .i64 0)] 3)) (Addr.add ⟨Array.size (World.heap W7), 0, none⟩ 0) (Value.int .i64 y10_9)) l5 Rc4 .busy none)) (Addr.add ⟨Array.size (World.heap (World.alloc (World.alloc w (.cells #[Value.nilFunc] 57)) (.cells #[(Value.slice was_1 was_1l was_1c)] 25))), 0, none⟩ 0) (Value.bool false)) l5 Rc4 .done (some Code.ret)))
  ((∃ u20, World.cell? (World.alloc (World.drew (V.setLoop (World.setCell (World.alloc W7 (.cells #[(Value.int .i64 0)] 3)) (Addr.add ⟨Array.size (World.heap W7), 0, none⟩ 0) (Value.int .i64 y10_9)) l5 Rc4 .busy none)) (.cells #[(Value.int .i64 0)] 3)) (Addr.add ⟨Array.size (World.heap (World.drew (V.setLoop (World.setCell (World.alloc W7 (.cells #[(Value.int .i64 0)] 3)) (Addr.add ⟨Array.size (World.heap W7), 0, none⟩ 0) (Value.int .i64 y10_9)) l5 Rc4 .busy none))), 0, none⟩ 0) = some u20) ∧ World.frozen? (World.alloc (World.drew (V.setLoop (World.setCell (World.alloc W7 (.cells #[(Value.int .i64 0)] 3)) (Addr.add ⟨Array.size (World.heap W7), 0, none⟩ 0) (Value.int .i64 y10_9)) l5 Rc4 .busy none)) (.cells #[(Value.int .i64 0)] 3)) (Addr.add ⟨Array.size (World.heap (World.drew (V.setLoop (World.setCell (World.alloc W7 (.cells #[(Value.int .i64 0)] 3)) (Addr.add ⟨Array.size (World.heap W7), 0, none⟩ 0) (Value.int .i64 y10_9)) l5 Rc4 .busy none))), 0, none⟩ 0) = false ∧
  ∃ f21, ∃ f21a, ∃ f21c, World.cell? (World.setCell (World.alloc (World.drew (V.setLoop (World.setCell (World.alloc W7 (.cells #[(Value.int .i64 0)] 3)) (Addr.add ⟨Array.size (World.heap W7), 0, none⟩ 0) (Value.int .i64 y10_9)) l5 Rc4 .busy none)) (.cells #[(Value.int .i64 0)] 3)) (Addr.add ⟨Array.size (World.heap (World.drew (V.setLoop (World.setCell (World.alloc W7 (.cells #[(Value.int .i64 0)] 3)) (Addr.add ⟨Array.size (World.heap W7), 0, none⟩ 0) (Value.int .i64 y10_9)) l5 Rc4 .busy none))), 0, none⟩ 0) (Value.int .i64 0)) ⟨Array.size (World.heap w), 0, none⟩ = some (Value.func (.func f21) f21a f21c) ∧
  V.when (V.hasB Try.prog f21 && true) ((∃ r0, (World.heap (World.setCell (World.alloc (World.drew (V.setLoop (World.setCell (World.alloc W7 (.cells #[(Value.int .i64 0)] 3)) (Addr.add ⟨Array.size (World.heap W7), 0, none⟩ 0) (Value.int .i64 y10_9)) l5 Rc4 .busy none)) (.cells #[(Value.int .i64 0)] 3)) (Addr.add ⟨Array.size (World.heap (World.drew (V.setLoop (World.setCell (World.alloc W7 (.cells #[(Value.int .i64 0)] 3)) (Addr.add ⟨Array.size (World.heap W7), 0, none⟩ 0) (Value.int .i64 y10_9)) l5 Rc4 .busy none))), 0, none⟩ 0) (Value.int .i64 0)))[l5]? = some (.loop r0)) ∧
  ∀ (Rc22 : Loop) (l23 : Nat) (w24 : World), l23 = Array.size (World.heap (World.setCell (World.alloc (World.drew (V.setLoop (World.setCell (World.alloc W7 (.cells #[(Value.int .i64 0)] 3)) (Addr.add ⟨Array.size (World.heap W7), 0, none⟩ 0) (Value.int .i64 y10_9)) l5 Rc4 .busy none)) (.cells #[(Value.int .i64 0)] 3)) (Addr.add ⟨Array.size (World.heap (World.drew (V.setLoop (World.setCell (World.alloc W7 (.cells #[(Value.int .i64 0)] 3)) (Addr.add ⟨Array.size (World.heap W7), 0, none⟩ 0) (Value.int .i64 y10_9)) l5 Rc4 .busy none))), 0, none⟩ 0) (Value.int .i64 0))) → w24 = World.alloc (World.setCell (World.alloc (World.drew (V.setLoop (World.setCell (World.alloc W7 (.cells #[(Value.int .i64 0)] 3)) (Addr.add ⟨Array.size (World.heap W7), 0, none⟩ 0) (Value.int .i64 y10_9)) l5 Rc4 .busy none)) (.cells #[(Value.int .i64 0)] 3)) (Addr.add ⟨Array.size (World.heap (World.drew (V.setLoop (World.setCell (World.alloc W7 (.cells #[(Value.int .i64 0)] 3)) (Addr.add ⟨Array.size (World.heap W7), 0, none⟩ 0) (Value.int .i64 y10_9)) l5 Rc4 .busy none))), 0, none⟩ 0) (Value.int .i64 0)) (.loop { Rc22 with state := .ready, pending := none }) →
  (∀ y24_27 (W25 : World) (R26 : Ending → World → Prop), V.LoopSt W25 l23 Rc22 .ready none →
  (V.LoopSt W25 l23 Rc22 .ready none ∧
  ∃ n28, World.cell? (V.setLoop W25 l23 Rc22 .busy none) ⟨Array.size (World.heap (World.drew (V.setLoop (World.setCell (World.alloc W7 (.cells #[(Value.int .i64 0)] 3)) (Addr.add ⟨Array.size (World.heap W7), 0, none⟩ 0) (Value.int .i64 y10_9)) l5 Rc4 .busy none))), 0, none⟩ = some (Value.int .i64 n28) ∧
  ∃ A29, ∃ A29l, ∃ A29c, World.cell? (V.setLoop W25 l23 Rc22 .busy none) ⟨Array.size (World.heap (World.alloc w (.cells #[Value.nilFunc] 57))), 0, none⟩ = some (Value.slice A29 A29l A29c) ∧
  V.sel (decide (n28 ≥ ((A29l : Nat) : Int)))
  ((∃ u30, World.cell? (V.setLoop W25 l23 Rc22 .busy none) (Addr.add ⟨Array.size (World.heap (World.alloc (World.alloc w (.cells #[Value.nilFunc] 57)) (.cells #[(Value.slice was_1 was_1l was_1c)] 25))), 0, none⟩ 0) = some u30) ∧ World.frozen? (V.setLoop W25 l23 Rc22 .busy none) (Addr.add ⟨Array.size (World.heap (World.alloc (World.alloc w (.cells #[Value.nilFunc] 57)) (.cells #[(Value.slice was_1 was_1l was_1c)] 25))), 0, none⟩ 0) = false ∧
  V.LoopSt (World.setCell (V.setLoop W25 l23 Rc22 .busy none) (Addr.add ⟨Array.size (World.heap (World.alloc (World.alloc w (.cells #[Value.nilFunc] 57)) (.cells #[(Value.slice was_1 was_1l was_1c)] 25))), 0, none⟩ 0) (Value.bool false)) l23 Rc22 .busy none ∧ R26 (Ending.returned (Value.bool false)) (V.setLoop (World.setCell (V.setLoop W25 l23 Rc22 .busy none) (Addr.add ⟨Array.size (World.heap (World.alloc (World.alloc w (.cells #[Value.nilFunc] 57)) (.cells #[(Value.slice was_1 was_1l was_1c)] 25))), 0, none⟩ 0) (Value.bool false)) l23 Rc22 .done (some Code.ret)))
  (∃ A31, ∃ A31l, ∃ A31c, World.cell? (V.setLoop W25 l23 Rc22 .busy none) ⟨Array.size (World.heap (World.alloc w (.cells #[Value.nilFunc] 57))), 0, none⟩ = some (Value.slice A31 A31l A31c) ∧
  ∃ n32, World.cell? (V.setLoop W25 l23 Rc22 .busy none) ⟨Array.size (World.heap (World.drew (V.setLoop (World.setCell (World.alloc W7 (.cells #[(Value.int .i64 0)] 3)) (Addr.add ⟨Array.size (World.heap W7), 0, none⟩ 0) (Value.int .i64 y10_9)) l5 Rc4 .busy none))), 0, none⟩ = some (Value.int .i64 n32) ∧
  V.when (decide ((0 : Int) ≤ n32 ∧ (n32 : Int) < ((A31l : Nat) : Int))) (V.ptr A31 fun a33 =>
  ∃ n34, World.cell? (V.setLoop W25 l23 Rc22 .busy none) (Addr.add a33 ((Int.toNat n32) * 1)) = some (Value.int .i64 n34) ∧
  V.sel (n34 != y24_27)
  ((∃ u35, World.cell? (V.setLoop W25 l23 Rc22 .busy none) (Addr.add ⟨Array.size (World.heap (World.alloc (World.alloc w (.cells #[Value.nilFunc] 57)) (.cells #[(Value.slice was_1 was_1l was_1c)] 25))), 0, none⟩ 0) = some u35) ∧ World.frozen? (V.setLoop W25 l23 Rc22 .busy none) (Addr.add ⟨Array.size (World.heap (World.alloc (World.alloc w (.cells #[Value.nilFunc] 57)) (.cells #[(Value.slice was_1 was_1l was_1c)] 25))), 0, none⟩ 0) = false ∧
  V.LoopSt (World.setCell (V.setLoop W25 l23 Rc22 .busy none) (Addr.add ⟨Array.size (World.heap (World.alloc (World.alloc w (.cells #[Value.nilFunc] 57)) (.cells #[(Value.slice was_1 was_1l was_1c)] 25))), 0, none⟩ 0) (Value.bool false)) l23 Rc22 .busy none ∧ R26 (Ending.returned (Value.bool false)) (V.setLoop (World.setCell (V.setLoop W25 l23 Rc22 .busy none) (Addr.add ⟨Array.size (World.heap (World.alloc (World.alloc w (.cells #[Value.nilFunc] 57)) (.cells #[(Value.slice was_1 was_1l was_1c)] 25))), 0, none⟩ 0) (Value.bool false)) l23 Rc22 .done (some Code.ret)))
  (∃ n36, World.cell? (V.setLoop W25 l23 Rc22 .busy none) ⟨Array.size (World.heap (World.drew (V.setLoop (World.setCell (World.alloc W7 (.cells #[(Value.int .i64 0)] 3)) (Addr.add ⟨Array.size (World.heap W7), 0, none⟩ 0) (Value.int .i64 y10_9)) l5 Rc4 .busy none))), 0, none⟩ = some (Value.int .i64 n36) ∧
  (∃ u37, World.cell? (V.setLoop W25 l23 Rc22 .busy none) (Addr.add ⟨Array.size (World.heap (World.drew (V.setLoop (World.setCell (World.alloc W7 (.cells #[(Value.int .i64 0)] 3)) (Addr.add ⟨Array.size (World.heap W7), 0, none⟩ 0) (Value.int .i64 y10_9)) l5 Rc4 .busy none))), 0, none⟩ 0) = some u37) ∧ World.frozen? (V.setLoop W25 l23 Rc22 .busy none) (Addr.add ⟨Array.size (World.heap (World.drew (V.setLoop (World.setCell (World.alloc W7 (.cells #[(Value.int .i64 0)] 3)) (Addr.add ⟨Array.size (World.heap W7), 0, none⟩ 0) (Value.int .i64 y10_9)) l5 Rc4 .busy none))), 0, none⟩ 0) = false ∧
  ∃ n38, World.cell? (World.setCell (V.setLoop W25 l23 Rc22 .busy none) (Addr.add ⟨Array.size (World.heap (World.drew (V.setLoop (World.setCell (World.alloc W7 (.cells #[(Value.int .i64 0)] 3)) (Addr.add ⟨Array.size (World.heap W7), 0, none⟩ 0) (Value.int .i64 y10_9)) l5 Rc4 .busy none))), 0, none⟩ 0) (Value.int .i64 (IntKind.wrap .i64 (n36 + 1)))) ⟨Array.size (World.heap W7), 0, none⟩ = some (Value.int .i64 n38) ∧
  V.sel (decide (y24_27 ≥ n38))
  (V.LoopSt (World.setCell (V.setLoop W25 l23 Rc22 .busy none) (Addr.add ⟨Array.size (World.heap (World.drew (V.setLoop (World.setCell (World.alloc W7 (.cells #[(Value.int .i64 0)] 3)) (Addr.add ⟨Array.size (World.heap W7), 0, none⟩ 0) (Value.int .i64 y10_9)) l5 Rc4 .busy none))), 0, none⟩ 0) (Value.int .i64 (IntKind.wrap .i64 (n36 + 1)))) l23 Rc22 .busy none ∧ R26 (Ending.returned (Value.bool false)) (V.setLoop (World.setCell (V.setLoop W25 l23 Rc22 .busy none) (Addr.add ⟨Array.size (World.heap (World.drew (V.setLoop (World.setCell (World.alloc W7 (.cells #[(Value.int .i64 0)] 3)) (Addr.add ⟨Array.size (World.heap W7), 0, none⟩ 0) (Value.int .i64 y10_9)) l5 Rc4 .busy none))), 0, none⟩ 0) (Value.int .i64 (IntKind.wrap .i64 (n36 + 1)))) l23 Rc22 .done (some (Code.exit 2))))
  (∃ n39, World.cell? (World.setCell (V.setLoop W25 l23 Rc22 .busy none) (Addr.add ⟨Array.size (World.heap (World.drew (V.setLoop (World.setCell (World.alloc W7 (.cells #[(Value.int .i64 0)] 3)) (Addr.add ⟨Array.size (World.heap W7), 0, none⟩ 0) (Value.int .i64 y10_9)) l5 Rc4 .busy none))), 0, none⟩ 0) (Value.int .i64 (IntKind.wrap .i64 (n36 + 1)))) ⟨Array.size (World.heap (World.drew (V.setLoop (World.setCell (World.alloc W7 (.cells #[(Value.int .i64 0)] 3)) (Addr.add ⟨Array.size (World.heap W7), 0, none⟩ 0) (Value.int .i64 y10_9)) l5 Rc4 .busy none))), 0, none⟩ = some (Value.int .i64 n39) ∧
  V.sel (decide (n39 > 20))
  (V.LoopSt (World.setCell (V.setLoop W25 l23 Rc22 .busy none) (Addr.add ⟨Array.size (World.heap (World.drew (V.setLoop (World.setCell (World.alloc W7 (.cells #[(Value.int .i64 0)] 3)) (Addr.add ⟨Array.size (World.heap W7), 0, none⟩ 0) (Value.int .i64 y10_9)) l5 Rc4 .busy none))), 0, none⟩ 0) (Value.int .i64 (IntKind.wrap .i64 (n36 + 1)))) l23 Rc22 .busy none ∧ R26 (Ending.returned (Value.bool false)) (V.setLoop (World.setCell (V.setLoop W25 l23 Rc22 .busy none) (Addr.add ⟨Array.size (World.heap (World.drew (V.setLoop (World.setCell (World.alloc W7 (.cells #[(Value.int .i64 0)] 3)) (Addr.add ⟨Array.size (World.heap W7), 0, none⟩ 0) (Value.int .i64 y10_9)) l5 Rc4 .busy none))), 0, none⟩ 0) (Value.int .i64 (IntKind.wrap .i64 (n36 + 1)))) l23 Rc22 .done (some (Code.exit 2))))
  (V.LoopSt (World.setCell (V.setLoop W25 l23 Rc22 .busy none) (Addr.add ⟨Array.size (World.heap (World.drew (V.setLoop (World.setCell (World.alloc W7 (.cells #[(Value.int .i64 0)] 3)) (Addr.add ⟨Array.size (World.heap W7), 0, none⟩ 0) (Value.int .i64 y10_9)) l5 Rc4 .busy none))), 0, none⟩ 0) (Value.int .i64 (IntKind.wrap .i64 (n36 + 1)))) l23 Rc22 .busy none ∧ R26 (Ending.returned (Value.bool true)) (V.setLoop (World.setCell (V.setLoop W25 l23 Rc22 .busy none) (Addr.add ⟨Array.size (World.heap (World.drew (V.setLoop (World.setCell (World.alloc W7 (.cells #[(Value.int .i64 0)] 3)) (Addr.add ⟨Array.size (World.heap W7), 0, none⟩ 0) (Value.int .i64 y10_9)) l5 Rc4 .busy none))), 0, none⟩ 0) (Value.int .i64 (IntKind.wrap .i64 (n36 + 1)))) l23 Rc22 .ready none))))))) →
  V.Yield Try.prog l23 [(Value.int .i64 y24_27)] W25 R26) →
  Calls Try.prog f21 ⟨Array.toList f21a ++ [(Value.func (.yield l23) #[] #[])] ++ Array.toList f21c⟩ w24 fun e40 w42 => (∃ v41, e40 = Ending.returned v41) ∧
  ((V.LoopSt w42 l23 Rc22 .ready none ∧
  ∃ n43, World.cell? (V.setLoop w42 l23 Rc22 .exhausted none) ⟨Array.size (World.heap (World.alloc (World.alloc (World.alloc w (.cells #[Value.nilFunc] 57)) (.cells #[(Value.slice was_1 was_1l was_1c)] 25)) (.cells #[(Value.bool false)] 4))), 0, none⟩ = some (Value.int .i64 n43) ∧
  (∃ u44, World.cell? (V.setLoop w42 l23 Rc22 .exhausted none) (Addr.add ⟨Array.size (World.heap (World.alloc (World.alloc (World.alloc w (.cells #[Value.nilFunc] 57)) (.cells #[(Value.slice was_1 was_1l was_1c)] 25)) (.cells #[(Value.bool false)] 4))), 0, none⟩ 0) = some u44) ∧ World.frozen? (V.setLoop w42 l23 Rc22 .exhausted none) (Addr.add ⟨Array.size (World.heap (World.alloc (World.alloc (World.alloc w (.cells #[Value.nilFunc] 57)) (.cells #[(Value.slice was_1 was_1l was_1c)] 25)) (.cells #[(Value.bool false)] 4))), 0, none⟩ 0) = false ∧
  V.LoopSt (World.setCell (V.setLoop w42 l23 Rc22 .exhausted none) (Addr.add ⟨Array.size (World.heap (World.alloc (World.alloc (World.alloc w (.cells #[Value.nilFunc] 57)) (.cells #[(Value.slice was_1 was_1l was_1c)] 25)) (.cells #[(Value.bool false)] 4))), 0, none⟩ 0) (Value.int .i64 (IntKind.wrap .i64 (n43 + 1)))) l5 Rc4 .busy none ∧ R8 (Ending.returned (Value.bool true)) (V.setLoop (World.setCell (V.setLoop w42 l23 Rc22 .exhausted none) (Addr.add ⟨Array.size (World.heap (World.alloc (World.alloc (World.alloc w (.cells #[Value.nilFunc] 57)) (.cells #[(Value.slice was_1 was_1l was_1c)] 25)) (.cells #[(Value.bool false)] 4))), 0, none⟩ 0) (Value.int .i64 (IntKind.wrap .i64 (n43 + 1)))) l5 Rc4 .ready none)) ∨
  (V.LoopSt w42 l23 Rc22 .done (some Code.ret) ∧
  V.LoopSt (V.setLoop w42 l23 Rc22 .exhausted (some Code.ret)) l5 Rc4 .busy none ∧ R8 (Ending.returned (Value.bool false)) (V.setLoop (V.setLoop w42 l23 Rc22 .exhausted (some Code.ret)) l5 Rc4 .done (some Code.ret))) ∨
  (V.LoopSt w42 l23 Rc22 .done (some (Code.exit 2)) ∧
  ∃ n45, World.cell? (V.setLoop w42 l23 Rc22 .exhausted (some (Code.exit 2))) ⟨Array.size (World.heap (World.alloc (World.alloc (World.alloc w (.cells #[Value.nilFunc] 57)) (.cells #[(Value.slice was_1 was_1l was_1c)] 25)) (.cells #[(Value.bool false)] 4))), 0, none⟩ = some (Value.int .i64 n45) ∧
  (∃ u46, World.cell? (V.setLoop w42 l23 Rc22 .exhausted (some (Code.exit 2))) (Addr.add ⟨Array.size (World.heap (World.alloc (World.alloc (World.alloc w (.cells #[Value.nilFunc] 57)) (.cells #[(Value.slice was_1 was_1l was_1c)] 25)) (.cells #[(Value.bool false)] 4))), 0, none⟩ 0) = some u46) ∧ World.frozen? (V.setLoop w42 l23 Rc22 .exhausted (some (Code.exit 2))) (Addr.add ⟨Array.size (World.heap (World.alloc (World.alloc (World.alloc w (.cells #[Value.nilFunc] 57)) (.cells #[(Value.slice was_1 was_1l was_1c)] 25)) (.cells #[(Value.bool false)] 4))), 0, none⟩ 0) = false ∧
  V.LoopSt (World.setCell (V.setLoop w42 l23 Rc22 .exhausted (some (Code.exit 2))) (Addr.add ⟨Array.size (World.heap (World.alloc (World.alloc (World.alloc w (.cells #[Value.nilFunc] 57)) (.cells #[(Value.slice was_1 was_1l was_1c)] 25)) (.cells #[(Value.bool false)] 4))), 0, none⟩ 0) (Value.int .i64 (IntKind.wrap .i64 (n45 + 1)))) l5 Rc4 .busy none ∧ R8 (Ending.returned (Value.bool true)) (V.setLoop (World.setCell (V.setLoop w42 l23 Rc22 .exhausted (some (Code.exit 2))) (Addr.add ⟨Array.size (World.heap (World.alloc (World.alloc (World.alloc w (.cells #[Value.nilFunc] 57)) (.cells #[(Value.slice was_1 was_1l was_1c)] 25)) (.cells #[(Value.bool false)] 4))), 0, none⟩ 0) (Value.int .i64 (IntKind.wrap .i64 (n45 + 1)))) l5 Rc4 .ready none)) ∨
  False)))))) →
  V.Yield Try.prog l5 [(Value.int .i64 y10_9)] W7 R8) →
  Calls Try.prog f3 ⟨Array.toList f3a ++ [(Value.func (.yield l5) #[] #[])] ++ Array.toList f3c⟩ w6 fun e47 w49 => (∃ v48, e47 = Ending.returned v48) ∧
  ((V.LoopSt w49 l5 Rc4 .ready none ∧
  ∃ n50, World.cell? (V.setLoop w49 l5 Rc4 .exhausted none) ⟨Array.size (World.heap (World.alloc (World.alloc (World.alloc w (.cells #[Value.nilFunc] 57)) (.cells #[(Value.slice was_1 was_1l was_1c)] 25)) (.cells #[(Value.bool false)] 4))), 0, none⟩ = some (Value.int .i64 n50) ∧
  ∃ A51, ∃ A51l, ∃ A51c, World.cell? (V.setLoop w49 l5 Rc4 .exhausted none) ⟨Array.size (World.heap (World.alloc w (.cells #[Value.nilFunc] 57))), 0, none⟩ = some (Value.slice A51 A51l A51c) ∧
  (∃ u52, World.cell? (V.setLoop w49 l5 Rc4 .exhausted none) (Addr.add ⟨Array.size (World.heap (World.alloc (World.alloc w (.cells #[Value.nilFunc] 57)) (.cells #[(Value.slice was_1 was_1l was_1c)] 25))), 0, none⟩ 0) = some u52) ∧ World.frozen? (V.setLoop w49 l5 Rc4 .exhausted none) (Addr.add ⟨Array.size (World.heap (World.alloc (World.alloc w (.cells #[Value.nilFunc] 57)) (.cells #[(Value.slice was_1 was_1l was_1c)] 25))), 0, none⟩ 0) = false ∧
  V.closeR (Array.size (World.heap (World.setCell (World.alloc (World.alloc (World.alloc (World.alloc w (.cells #[Value.nilFunc] 57)) (.cells #[(Value.slice was_1 was_1l was_1c)] 25)) (.cells #[(Value.bool false)] 4)) (.cells #[(Value.int .i64 0)] 3)) (Addr.add ⟨Array.size (World.heap (World.alloc (World.alloc (World.alloc w (.cells #[Value.nilFunc] 57)) (.cells #[(Value.slice was_1 was_1l was_1c)] 25)) (.cells #[(Value.bool false)] 4))), 0, none⟩ 0) (Value.int .i64 0))) :: []) (World.setCell (V.setLoop w49 l5 Rc4 .exhausted none) (Addr.add ⟨Array.size (World.heap (World.alloc (World.alloc w (.cells #[Value.nilFunc] 57)) (.cells #[(Value.slice was_1 was_1l was_1c)] 25))), 0, none⟩ 0) (Value.bool (n50 == ((A51l : Nat) : Int)))) fun w53 =>
  ∃ b54, World.cell? w53 ⟨Array.size (World.heap (World.alloc (World.alloc w (.cells #[Value.nilFunc] 57)) (.cells #[(Value.slice was_1 was_1l was_1c)] 25))), 0, none⟩ = some (Value.bool b54) ∧
  R (Ending.returned (Value.bool b54)) w53) ∨
  (V.LoopSt w49 l5 Rc4 .done (some Code.ret) ∧
  V.closeR (Array.size (World.heap (World.setCell (World.alloc (World.alloc (World.alloc (World.alloc w (.cells #[Value.nilFunc] 57)) (.cells #[(Value.slice was_1 was_1l was_1c)] 25)) (.cells #[(Value.bool false)] 4)) (.cells #[(Value.int .i64 0)] 3)) (Addr.add ⟨Array.size (World.heap (World.alloc (World.alloc (World.alloc w (.cells #[Value.nilFunc] 57)) (.cells #[(Value.slice was_1 was_1l was_1c)] 25)) (.cells #[(Value.bool false)] 4))), 0, none⟩ 0) (Value.int .i64 0))) :: []) (V.setLoop w49 l5 Rc4 .exhausted (some Code.ret)) fun w55 =>
  ∃ b56, World.cell? w55 ⟨Array.size (World.heap (World.alloc (World.alloc w (.cells #[Value.nilFunc] 57)) (.cells #[(Value.slice was_1 was_1l was_1c)] 25))), 0, none⟩ = some (Value.bool b56) ∧
  R (Ending.returned (Value.bool b56)) w55) ∨
  False))) :
  Calls Try.prog 46 #[Value.nilFunc, (Value.slice was_1 was_1l was_1c)] w R :=
  V.calls_of_R ⟨V.assoc [], V.assocP [(4, V.line [0, 1, 2, 3, 4, 5, 6, 7, 8, 9, 10, 11])], V.assocC [], V.assocS [(0, [V.Sh.one (.int .i64)]), (1, [V.Sh.one (.int .i64)])], ⟨[], false⟩⟩ Try.func46 rfl (Eq.mp (by kernel_rfl) h)

theorem bitset_Set_Has_nf (s_1 : Option Addr) (i_2 : Int) (w : World) (R : Ending → World → Prop) (h :
  Calls Try.prog 68 #[(Value.pointer s_1), (Value.int .i64 i_2)] w fun e4 w5 =>
  ∃ b3, e4 = Ending.returned (Value.bool b3) ∧
  V.sel b3
  (V.ptr s_1 fun a6 =>
  ∃ A7, ∃ A7l, ∃ A7c, World.cell? w5 (Addr.add a6 1) = some (Value.slice A7 A7l A7c) ∧
  V.when (decide ((0 : Int) ≤ (IntKind.wrap .i64 (Int.tdiv i_2 64)) ∧ ((IntKind.wrap .i64 (Int.tdiv i_2 64)) : Int) < ((A7l : Nat) : Int))) (V.ptr A7 fun a8 =>
  ∃ n9, World.cell? w5 (Addr.add a8 ((Int.toNat (IntKind.wrap .i64 (Int.tdiv i_2 64))) * 1)) = some (Value.int .u64 n9) ∧
  V.when (decide (0 ≤ (Int.tmod i_2 64))) (R (Ending.returned (Value.bool ((IntKind.wrap .u64 ((BitVec.toNat (BitVec.ofInt 64 (Int.fdiv n9 (2 ^ (min (Int.toNat (Int.tmod i_2 64)) 64))) &&& BitVec.ofInt 64 1) : Nat) : Int)) == 1))) w5)))
  (R (Ending.returned (Value.bool false)) w5)) :
  Calls Try.prog 47 #[(Value.pointer s_1), (Value.int .i64 i_2)] w R :=
  V.calls_of_R ⟨V.assoc [], V.assocP [], V.assocC [], V.assocS [], ⟨[], false⟩⟩ Try.func47 rfl (Eq.mp (by kernel_rfl) h)

theorem berthlaw01_fresh_nf (kind_1 : Int) (a_2 : Option Addr) (b_3 : Option Addr) (i_4 : Int) (w : World) (R : Ending → World → Prop) (h :
  Calls Try.prog 70 #[(Value.int .i64 kind_1), (Value.pointer a_2), (Value.pointer b_3)] w fun e6 w7 =>
  ∃ p5, e6 = Ending.returned (Value.pointer p5) ∧
  Calls Try.prog 70 #[(Value.int .i64 kind_1), (Value.pointer a_2), (Value.pointer b_3)] w7 fun e9 w10 =>
  ∃ p8, e9 = Ending.returned (Value.pointer p8) ∧
  V.sel (Option.isNone p5)
  (R (Ending.returned (Value.bool false)) w10)
  (V.sel (Option.isNone p8)
  (R (Ending.returned (Value.bool false)) w10)
  (Calls Try.prog 27 #[(Value.pointer p5), (Value.pointer p8)] w10 fun e12 w13 =>
  ∃ b11, e12 = Ending.returned (Value.bool b11) ∧
  V.sel (!b11)
  (R (Ending.returned (Value.bool false)) w13)
  (Calls Try.prog 28 #[(Value.pointer p5)] w13 fun e15 w16 =>
  ∃ n14, e15 = Ending.returned (Value.int .i64 n14) ∧
  Calls Try.prog 28 #[(Value.pointer p8)] w16 fun e18 w19 =>
  ∃ n17, e18 = Ending.returned (Value.int .i64 n17) ∧
  V.sel (n14 != n17)
  (R (Ending.returned (Value.bool false)) w19)
  (Calls Try.prog 21 #[(Value.pointer a_2)] w19 fun e21 w22 =>
  ∃ A20, ∃ A20l, ∃ A20c, e21 = Ending.returned (Value.slice A20 A20l A20c) ∧
  Calls Try.prog 21 #[(Value.pointer b_3)] w22 fun e24 w25 =>
  ∃ A23, ∃ A23l, ∃ A23c, e24 = Ending.returned (Value.slice A23 A23l A23c) ∧
  Calls Try.prog 21 #[(Value.pointer p5)] w25 fun e27 w28 =>
  ∃ A26, ∃ A26l, ∃ A26c, e27 = Ending.returned (Value.slice A26 A26l A26c) ∧
  Calls Try.prog 71 #[(Value.pointer p5), (Value.int .i64 i_4)] w28 fun e29 w30 =>
  e29 = Ending.returned undef ∧
  Calls Try.prog 21 #[(Value.pointer a_2)] w30 fun e32 w33 =>
  ∃ A31, ∃ A31l, ∃ A31c, e32 = Ending.returned (Value.slice A31 A31l A31c) ∧
  Calls Try.prog 18 #[(Value.slice A31 A31l A31c), (Value.slice A20 A20l A20c)] w33 fun e35 w36 =>
  ∃ b34, e35 = Ending.returned (Value.bool b34) ∧
  V.sel (!b34)
  (R (Ending.returned (Value.bool false)) w36)
  (Calls Try.prog 21 #[(Value.pointer b_3)] w36 fun e38 w39 =>
  ∃ A37, ∃ A37l, ∃ A37c, e38 = Ending.returned (Value.slice A37 A37l A37c) ∧
  Calls Try.prog 18 #[(Value.slice A37 A37l A37c), (Value.slice A23 A23l A23c)] w39 fun e41 w42 =>
  ∃ b40, e41 = Ending.returned (Value.bool b40) ∧
  V.sel (!b40)
  (R (Ending.returned (Value.bool false)) w42)
  (Calls Try.prog 21 #[(Value.pointer p8)] w42 fun e44 w45 =>
  ∃ A43, ∃ A43l, ∃ A43c, e44 = Ending.returned (Value.slice A43 A43l A43c) ∧
  Calls Try.prog 18 #[(Value.slice A43 A43l A43c), (Value.slice A26 A26l A26c)] w45 fun e47 w48 =>
  ∃ b46, e47 = Ending.returned (Value.bool b46) ∧
  V.sel (!b46)
  (R (Ending.returned (Value.bool false)) w48)
  (Calls Try.prog 71 #[(Value.pointer p5), (Value.int .i64 i_4)] w48 fun e49 w50 =>
  e49 = Ending.returned undef ∧
  Calls Try.prog 71 #[(Value.pointer a_2), (Value.int .i64 i_4)] w50 fun e51 w52 =>
  e51 = Ending.returned undef ∧
  Calls Try.prog 21 #[(Value.pointer p5)] w52 fun e54 w55 =>
  ∃ A53, ∃ A53l, ∃ A53c, e54 = Ending.returned (Value.slice A53 A53l A53c) ∧
  Calls Try.prog 18 #[(Value.slice A53 A53l A53c), (Value.slice A26 A26l A26c)] w55 fun e57 w58 =>
  ∃ b56, e57 = Ending.returned (Value.bool b56) ∧
  V.sel (!b56)
  (R (Ending.returned (Value.bool false)) w58)
  (Calls Try.prog 21 #[(Value.pointer p8)] w58 fun e60 w61 =>
  ∃ A59, ∃ A59l, ∃ A59c, e60 = Ending.returned (Value.slice A59 A59l A59c) ∧
  Calls Try.prog 18 #[(Value.slice A59 A59l A59c), (Value.slice A26 A26l A26c)] w61 fun e63 w64 =>
  ∃ b62, e63 = Ending.returned (Value.bool b62) ∧
  V.sel (!b62)
  (R (Ending.returned (Value.bool false)) w64)
  (Calls Try.prog 71 #[(Value.pointer a_2), (Value.int .i64 i_4)] w64 fun e65 w66 =>
  e65 = Ending.returned undef ∧
  Calls Try.prog 71 #[(Value.pointer b_3), (Value.int .i64 i_4)] w66 fun e67 w68 =>
  e67 = Ending.returned undef ∧
  Calls Try.prog 21 #[(Value.pointer p5)] w68 fun e70 w71 =>
  ∃ A69, ∃ A69l, ∃ A69c, e70 = Ending.returned (Value.slice A69 A69l A69c) ∧
  Calls Try.prog 18 #[(Value.slice A69 A69l A69c), (Value.slice A26 A26l A26c)] w71 fun e73 w74 =>
  ∃ b72, e73 = Ending.returned (Value.bool b72) ∧
  V.sel (!b72)
  (R (Ending.returned (Value.bool false)) w74)
  (Calls Try.prog 21 #[(Value.pointer p8)] w74 fun e76 w77 =>
  ∃ A75, ∃ A75l, ∃ A75c, e76 = Ending.returned (Value.slice A75 A75l A75c) ∧
  Calls Try.prog 18 #[(Value.slice A75 A75l A75c), (Value.slice A26 A26l A26c)] w77 fun e79 w80 =>
  ∃ b78, e79 = Ending.returned (Value.bool b78) ∧
  V.sel (!b78)
  (R (Ending.returned (Value.bool false)) w80)
  (Calls Try.prog 71 #[(Value.pointer b_3), (Value.int .i64 i_4)] w80 fun e81 w82 =>
  e81 = Ending.returned undef ∧
  Calls Try.prog 49 #[(Value.pointer p5), (Value.pointer a_2)] w82 fun e83 w84 =>
  e83 = Ending.returned undef ∧
  Calls Try.prog 49 #[(Value.pointer p5), (Value.pointer b_3)] w84 fun e85 w86 =>
  e85 = Ending.returned undef ∧
  Calls Try.prog 43 #[(Value.pointer p8), (Value.pointer p8)] w86 fun e87 w88 =>
  e87 = Ending.returned undef ∧
  Calls Try.prog 21 #[(Value.pointer a_2)] w88 fun e90 w91 =>
  ∃ A89, ∃ A89l, ∃ A89c, e90 = Ending.returned (Value.slice A89 A89l A89c) ∧
  Calls Try.prog 18 #[(Value.slice A89 A89l A89c), (Value.slice A20 A20l A20c)] w91 fun e93 w94 =>
  ∃ b92, e93 = Ending.returned (Value.bool b92) ∧
  V.sel b92
  (Calls Try.prog 21 #[(Value.pointer b_3)] w94 fun e96 w97 =>
  ∃ A95, ∃ A95l, ∃ A95c, e96 = Ending.returned (Value.slice A95 A95l A95c) ∧
  Calls Try.prog 18 #[(Value.slice A95 A95l A95c), (Value.slice A23 A23l A23c)] w97 fun e99 w100 =>
  ∃ b98, e99 = Ending.returned (Value.bool b98) ∧
  R (Ending.returned (Value.bool b98)) w100)
  (R (Ending.returned (Value.bool false)) w94))))))))))))) :
  Calls Try.prog 48 #[(Value.int .i64 kind_1), (Value.pointer a_2), (Value.pointer b_3), (Value.int .i64 i_4)] w R :=
  V.calls_of_R ⟨V.assoc [], V.assocP [], V.assocC [], V.assocS [], ⟨[], false⟩⟩ Try.func48 rfl (Eq.mp (by kernel_rfl) h)

theorem bitset_Set_OrWith_nf (s_1 : Option Addr) (t_2 : Option Addr) (w : World) (R : Ending → World → Prop) (h :
  V.sel (Option.isNone s_1)
  (R (Ending.returned undef) w)
  (V.ptr s_1 fun a3 =>
  ∃ A4, ∃ A4l, ∃ A4c, World.cell? w (Addr.add a3 1) = some (Value.slice A4 A4l A4c) ∧
  ∃ I5 : Int → World → Prop, ∃ μ6 : Int → World → Nat, I5 0 w ∧
  ∀ t13_7 (j8 : Nat → Value) (w9 : World), I5 t13_7 w9 →
  (V.sel (decide (t13_7 < ((A4l : Nat) : Int)))
  (∃ S10 : World → Prop, S10 (World.drew w9) ∧
  V.ptr s_1 fun a12 =>
  ∃ A13, ∃ A13l, ∃ A13c, (∀ w11, S10 w11 → World.cell? w11 (Addr.add a12 1) = some (Value.slice A13 A13l A13c)) ∧
  V.when (decide ((0 : Int) ≤ t13_7 ∧ (t13_7 : Int) < ((A13l : Nat) : Int))) (V.ptr A13 fun a14 =>
  ∃ n15, (∀ w11, S10 w11 → World.cell? w11 (Addr.add a14 ((Int.toNat t13_7) * 1)) = some (Value.int .u64 n15)) ∧
  Calls Try.prog 59 #[(Value.pointer t_2), (Value.int .i64 t13_7)] (World.drew w9) fun e17 w18 =>
  ∃ n16, e17 = Ending.returned (Value.int .u64 n16) ∧
  S10 w18 ∧
  V.when (decide ((0 : Int) ≤ t13_7 ∧ (t13_7 : Int) < ((A13l : Nat) : Int))) (V.ptr A13 fun a19 =>
  (∃ u20, World.cell? w18 (Addr.add (Addr.add a19 ((Int.toNat t13_7) * 1)) 0) = some u20) ∧ World.frozen? w18 (Addr.add (Addr.add a19 ((Int.toNat t13_7) * 1)) 0) = false ∧
  I5 (IntKind.wrap .i64 (t13_7 + 1)) (World.setCell w18 (Addr.add (Addr.add a19 ((Int.toNat t13_7) * 1)) 0) (Value.int .u64 (IntKind.wrap .u64 ((BitVec.toNat (BitVec.ofInt 64 n15 ||| BitVec.ofInt 64 n16) : Nat) : Int)))) ∧ μ6 (IntKind.wrap .i64 (t13_7 + 1)) (World.setCell w18 (Addr.add (Addr.add a19 ((Int.toNat t13_7) * 1)) 0) (Value.int .u64 (IntKind.wrap .u64 ((BitVec.toNat (BitVec.ofInt 64 n15 ||| BitVec.ofInt 64 n16) : Nat) : Int)))) < μ6 t13_7 w9)))
  (V.ptr s_1 fun a21 =>
  ∃ n22, World.cell? w9 (Addr.add a21 0) = some (Value.int .i64 n22) ∧
  V.sel ((Int.tmod n22 64) != 0)
  (V.ptr s_1 fun a23 =>
  ∃ A24, ∃ A24l, ∃ A24c, World.cell? w9 (Addr.add a23 1) = some (Value.slice A24 A24l A24c) ∧
  V.ptr s_1 fun a25 =>
  ∃ A26, ∃ A26l, ∃ A26c, World.cell? w9 (Addr.add a25 1) = some (Value.slice A26 A26l A26c) ∧
  V.when (decide ((0 : Int) ≤ (IntKind.wrap .i64 (((A26l : Nat) : Int) - 1)) ∧ ((IntKind.wrap .i64 (((A26l : Nat) : Int) - 1)) : Int) < ((A24l : Nat) : Int))) (V.ptr A24 fun a27 =>
  ∃ n28, World.cell? w9 (Addr.add a27 ((Int.toNat (IntKind.wrap .i64 (((A26l : Nat) : Int) - 1))) * 1)) = some (Value.int .u64 n28) ∧
  V.when (decide (0 ≤ (Int.tmod n22 64))) (V.when (decide ((0 : Int) ≤ (IntKind.wrap .i64 (((A26l : Nat) : Int) - 1)) ∧ ((IntKind.wrap .i64 (((A26l : Nat) : Int) - 1)) : Int) < ((A24l : Nat) : Int))) (V.ptr A24 fun a29 =>
  (∃ u30, World.cell? (World.drew w9) (Addr.add (Addr.add a29 ((Int.toNat (IntKind.wrap .i64 (((A26l : Nat) : Int) - 1))) * 1)) 0) = some u30) ∧ World.frozen? (World.drew w9) (Addr.add (Addr.add a29 ((Int.toNat (IntKind.wrap .i64 (((A26l : Nat) : Int) - 1))) * 1)) 0) = false ∧
  R (Ending.returned undef) (World.setCell (World.drew w9) (Addr.add (Addr.add a29 ((Int.toNat (IntKind.wrap .i64 (((A26l : Nat) : Int) - 1))) * 1)) 0) (Value.int .u64 (IntKind.wrap .u64 ((BitVec.toNat (BitVec.ofInt 64 n28 &&& BitVec.ofInt 64 (IntKind.wrap .u64 ((IntKind.wrap .u64 (1 * 2 ^ (min (Int.toNat (Int.tmod n22 64)) 64))) - 1))) : Nat) : Int))))))))
  (R (Ending.returned undef) w9))))) :
  Calls Try.prog 49 #[(Value.pointer s_1), (Value.pointer t_2)] w R :=
  V.calls_of_R ⟨V.assoc [(0, [13])], V.assocP [(4, V.line [0, 1, 2, 3, 4, 5, 6, 7, 8, 9, 10, 11, 12]), (8, V.line [0, 1, 2, 3, 4, 5, 6, 7, 8, 9, 10, 11, 12, 13, 14, 15, 16, 17])], V.assocC [], V.assocS [], ⟨[], false⟩⟩ Try.func49 rfl (Eq.mp (by kernel_rfl) h)

theorem bitset_Set_AndWith_nf (s_1 : Option Addr) (t_2 : Option Addr) (w : World) (R : Ending → World → Prop) (h :
  V.sel (Option.isNone s_1)
  (R (Ending.returned undef) w)
  (V.ptr s_1 fun a3 =>
  ∃ A4, ∃ A4l, ∃ A4c, World.cell? w (Addr.add a3 1) = some (Value.slice A4 A4l A4c) ∧
  ∃ I5 : Int → World → Prop, ∃ μ6 : Int → World → Nat, I5 0 w ∧
  ∀ t12_7 (j8 : Nat → Value) (w9 : World), I5 t12_7 w9 →
  (V.sel (decide (t12_7 < ((A4l : Nat) : Int)))
  (∃ S10 : World → Prop, S10 (World.drew w9) ∧
  V.ptr s_1 fun a12 =>
  ∃ A13, ∃ A13l, ∃ A13c, (∀ w11, S10 w11 → World.cell? w11 (Addr.add a12 1) = some (Value.slice A13 A13l A13c)) ∧
  V.when (decide ((0 : Int) ≤ t12_7 ∧ (t12_7 : Int) < ((A13l : Nat) : Int))) (V.ptr A13 fun a14 =>
  ∃ n15, (∀ w11, S10 w11 → World.cell? w11 (Addr.add a14 ((Int.toNat t12_7) * 1)) = some (Value.int .u64 n15)) ∧
  Calls Try.prog 59 #[(Value.pointer t_2), (Value.int .i64 t12_7)] (World.drew w9) fun e17 w18 =>
  ∃ n16, e17 = Ending.returned (Value.int .u64 n16) ∧
  S10 w18 ∧
  V.when (decide ((0 : Int) ≤ t12_7 ∧ (t12_7 : Int) < ((A13l : Nat) : Int))) (V.ptr A13 fun a19 =>
  (∃ u20, World.cell? w18 (Addr.add (Addr.add a19 ((Int.toNat t12_7) * 1)) 0) = some u20) ∧ World.frozen? w18 (Addr.add (Addr.add a19 ((Int.toNat t12_7) * 1)) 0) = false ∧
  I5 (IntKind.wrap .i64 (t12_7 + 1)) (World.setCell w18 (Addr.add (Addr.add a19 ((Int.toNat t12_7) * 1)) 0) (Value.int .u64 (IntKind.wrap .u64 ((BitVec.toNat (BitVec.ofInt 64 n15 &&& BitVec.ofInt 64 n16) : Nat) : Int)))) ∧ μ6 (IntKind.wrap .i64 (t12_7 + 1)) (World.setCell w18 (Addr.add (Addr.add a19 ((Int.toNat t12_7) * 1)) 0) (Value.int .u64 (IntKind.wrap .u64 ((BitVec.toNat (BitVec.ofInt 64 n15 &&& BitVec.ofInt 64 n16) : Nat) : Int)))) < μ6 t12_7 w9)))
  (R (Ending.returned undef) w9)))) :
  Calls Try.prog 50 #[(Value.pointer s_1), (Value.pointer t_2)] w R :=
  V.calls_of_R ⟨V.assoc [(0, [12])], V.assocP [(4, V.line [0, 1, 2, 3, 4, 5, 6, 7, 8, 9, 10, 11, 12])], V.assocC [], V.assocS [], ⟨[], false⟩⟩ Try.func50 rfl (Eq.mp (by kernel_rfl) h)

theorem berthtop_errors1_nf  (w : World) (R : Ending → World → Prop) (h :
  ∃ I1 : Int → World → Prop, ∃ μ2 : Int → World → Nat, I1 0 (World.alloc (World.alloc w (.cells #[(Value.int .i64 0), (Value.int .i64 1), (Value.int .i64 11), (Value.int .i64 12), (Value.int .i64 13), (Value.int .i64 14), (Value.int .i64 20), (Value.int .i64 21), (Value.int .i64 22), (Value.int .i64 23), (Value.int .i64 24), (Value.int .i64 25), (Value.int .i64 26), (Value.int .i64 27), (Value.int .i64 28), (Value.int .i64 29), (Value.int .i64 30), (Value.int .i64 31), (Value.int .i64 32), (Value.int .i64 33), (Value.int .i64 34), (Value.int .i64 35), (Value.int .i64 36), (Value.int .i64 37), (Value.int .i64 38), (Value.int .i64 39), (Value.int .i64 40), (Value.int .i64 41), (Value.int .i64 42), (Value.int .i64 43), (Value.int .i64 44), (Value.int .i64 45), (Value.int .i64 46), (Value.int .i64 47), (Value.int .i64 50), (Value.int .i64 51), (Value.int .i64 52), (Value.int .i64 53), (Value.int .i64 54), (Value.int .i64 60), (Value.int .i64 61), (Value.int .i64 62), (Value.int .i64 63), (Value.int .i64 64), (Value.int .i64 65), (Value.int .i64 66), (Value.int .i64 67), (Value.int .i64 68)] 23)) (.cells #[(Value.int .i64 0), (Value.int .i64 1), (Value.int .i64 11), (Value.int .i64 12), (Value.int .i64 13), (Value.int .i64 14), (Value.int .i64 20), (Value.int .i64 21), (Value.int .i64 22), (Value.int .i64 23), (Value.int .i64 24), (Value.int .i64 25), (Value.int .i64 26), (Value.int .i64 27), (Value.int .i64 28), (Value.int .i64 29), (Value.int .i64 30), (Value.int .i64 31), (Value.int .i64 32), (Value.int .i64 33), (Value.int .i64 34), (Value.int .i64 35), (Value.int .i64 36), (Value.int .i64 37), (Value.int .i64 38), (Value.int .i64 39), (Value.int .i64 40), (Value.int .i64 41), (Value.int .i64 42), (Value.int .i64 43), (Value.int .i64 44), (Value.int .i64 45), (Value.int .i64 46), (Value.int .i64 47), (Value.int .i64 50), (Value.int .i64 51), (Value.int .i64 52), (Value.int .i64 53), (Value.int .i64 54), (Value.int .i64 60), (Value.int .i64 61), (Value.int .i64 62), (Value.int .i64 63), (Value.int .i64 64), (Value.int .i64 65), (Value.int .i64 66), (Value.int .i64 67), (Value.int .i64 68)] 3)) ∧
  ∀ i_3 (j4 : Nat → Value) (w5 : World), I1 i_3 w5 →
  (V.sel (decide (i_3 < 48))
  (V.when (decide ((0 : Int) ≤ i_3 ∧ (i_3 : Int) < 48)) (∃ n6, World.cell? w5 (Addr.add ⟨Array.size (World.heap w), 0, none⟩ ((Int.toNat i_3) * 1)) = some (Value.int .i64 n6) ∧
  V.when (decide ((0 : Int) ≤ i_3 ∧ (i_3 : Int) < 48)) (∃ n7, World.cell? w5 (Addr.add ⟨Array.size (World.heap (World.alloc w (.cells #[(Value.int .i64 0), (Value.int .i64 1), (Value.int .i64 11), (Value.int .i64 12), (Value.int .i64 13), (Value.int .i64 14), (Value.int .i64 20), (Value.int .i64 21), (Value.int .i64 22), (Value.int .i64 23), (Value.int .i64 24), (Value.int .i64 25), (Value.int .i64 26), (Value.int .i64 27), (Value.int .i64 28), (Value.int .i64 29), (Value.int .i64 30), (Value.int .i64 31), (Value.int .i64 32), (Value.int .i64 33), (Value.int .i64 34), (Value.int .i64 35), (Value.int .i64 36), (Value.int .i64 37), (Value.int .i64 38), (Value.int .i64 39), (Value.int .i64 40), (Value.int .i64 41), (Value.int .i64 42), (Value.int .i64 43), (Value.int .i64 44), (Value.int .i64 45), (Value.int .i64 46), (Value.int .i64 47), (Value.int .i64 50), (Value.int .i64 51), (Value.int .i64 52), (Value.int .i64 53), (Value.int .i64 54), (Value.int .i64 60), (Value.int .i64 61), (Value.int .i64 62), (Value.int .i64 63), (Value.int .i64 64), (Value.int .i64 65), (Value.int .i64 66), (Value.int .i64 67), (Value.int .i64 68)] 23))), 0, none⟩ ((Int.toNat i_3) * 1)) = some (Value.int .i64 n7) ∧
  V.sel (n6 != n7)
  (R (Ending.returned (Value.bool false)) (World.drew w5))
  (I1 (IntKind.wrap .i64 (i_3 + 1)) (World.drew w5) ∧ μ2 (IntKind.wrap .i64 (i_3 + 1)) (World.drew w5) < μ2 i_3 w5))))
  (R (Ending.returned (Value.bool true)) w5))) :
  Calls Try.prog 51 #[] w R :=
  V.calls_of_R ⟨V.assoc [(0, [3])], V.assocP [(6, V.line [0, 1, 2, 3, 4, 5, 6, 7, 8])], V.assocC [], V.assocS [], ⟨[], false⟩⟩ Try.func51 rfl (Eq.mp (by kernel_rfl) h)

theorem berthtop_errors2_nf  (w : World) (R : Ending → World → Prop) (h :
  ∃ I1 : Int → World → Prop, ∃ μ2 : Int → World → Nat, I1 0 (World.alloc (World.alloc w (.cells #[(Value.int .i64 69), (Value.int .i64 70), (Value.int .i64 71), (Value.int .i64 72), (Value.int .i64 80), (Value.int .i64 81), (Value.int .i64 82), (Value.int .i64 83), (Value.int .i64 84), (Value.int .i64 90), (Value.int .i64 100), (Value.int .i64 110), (Value.int .i64 111), (Value.int .i64 112), (Value.int .i64 113), (Value.int .i64 114), (Value.int .i64 115), (Value.int .i64 120), (Value.int .i64 121), (Value.int .i64 122), (Value.int .i64 123), (Value.int .i64 124), (Value.int .i64 130), (Value.int .i64 131), (Value.int .i64 140), (Value.int .i64 141), (Value.int .i64 142), (Value.int .i64 143), (Value.int .i64 144), (Value.int .i64 145), (Value.int .i64 146), (Value.int .i64 147), (Value.int .i64 148), (Value.int .i64 149), (Value.int .i64 150), (Value.int .i64 151), (Value.int .i64 170), (Value.int .i64 180), (Value.int .i64 190), (Value.int .i64 191), (Value.int .i64 192), (Value.int .i64 200), (Value.int .i64 201), (Value.int .i64 202), (Value.int .i64 203), (Value.int .i64 204), (Value.int .i64 205), (Value.int .i64 206)] 23)) (.cells #[(Value.int .i64 69), (Value.int .i64 70), (Value.int .i64 71), (Value.int .i64 72), (Value.int .i64 80), (Value.int .i64 81), (Value.int .i64 82), (Value.int .i64 83), (Value.int .i64 84), (Value.int .i64 90), (Value.int .i64 100), (Value.int .i64 110), (Value.int .i64 111), (Value.int .i64 112), (Value.int .i64 113), (Value.int .i64 114), (Value.int .i64 115), (Value.int .i64 120), (Value.int .i64 121), (Value.int .i64 122), (Value.int .i64 123), (Value.int .i64 124), (Value.int .i64 130), (Value.int .i64 131), (Value.int .i64 140), (Value.int .i64 141), (Value.int .i64 142), (Value.int .i64 143), (Value.int .i64 144), (Value.int .i64 145), (Value.int .i64 146), (Value.int .i64 147), (Value.int .i64 148), (Value.int .i64 149), (Value.int .i64 150), (Value.int .i64 151), (Value.int .i64 170), (Value.int .i64 180), (Value.int .i64 190), (Value.int .i64 191), (Value.int .i64 192), (Value.int .i64 200), (Value.int .i64 201), (Value.int .i64 202), (Value.int .i64 203), (Value.int .i64 204), (Value.int .i64 205), (Value.int .i64 206)] 3)) ∧
  ∀ i_3 (j4 : Nat → Value) (w5 : World), I1 i_3 w5 →
  (V.sel (decide (i_3 < 48))
  (V.when (decide ((0 : Int) ≤ i_3 ∧ (i_3 : Int) < 48)) (∃ n6, World.cell? w5 (Addr.add ⟨Array.size (World.heap w), 0, none⟩ ((Int.toNat i_3) * 1)) = some (Value.int .i64 n6) ∧
  V.when (decide ((0 : Int) ≤ i_3 ∧ (i_3 : Int) < 48)) (∃ n7, World.cell? w5 (Addr.add ⟨Array.size (World.heap (World.alloc w (.cells #[(Value.int .i64 69), (Value.int .i64 70), (Value.int .i64 71), (Value.int .i64 72), (Value.int .i64 80), (Value.int .i64 81), (Value.int .i64 82), (Value.int .i64 83), (Value.int .i64 84), (Value.int .i64 90), (Value.int .i64 100), (Value.int .i64 110), (Value.int .i64 111), (Value.int .i64 112), (Value.int .i64 113), (Value.int .i64 114), (Value.int .i64 115), (Value.int .i64 120), (Value.int .i64 121), (Value.int .i64 122), (Value.int .i64 123), (Value.int .i64 124), (Value.int .i64 130), (Value.int .i64 131), (Value.int .i64 140), (Value.int .i64 141), (Value.int .i64 142), (Value.int .i64 143), (Value.int .i64 144), (Value.int .i64 145), (Value.int .i64 146), (Value.int .i64 147), (Value.int .i64 148), (Value.int .i64 149), (Value.int .i64 150), (Value.int .i64 151), (Value.int .i64 170), (Value.int .i64 180), (Value.int .i64 190), (Value.int .i64 191), (Value.int .i64 192), (Value.int .i64 200), (Value.int .i64 201), (Value.int .i64 202), (Value.int .i64 203), (Value.int .i64 204), (Value.int .i64 205), (Value.int .i64 206)] 23))), 0, none⟩ ((Int.toNat i_3) * 1)) = some (Value.int .i64 n7) ∧
  V.sel (n6 != n7)
  (R (Ending.returned (Value.bool false)) (World.drew w5))
  (I1 (IntKind.wrap .i64 (i_3 + 1)) (World.drew w5) ∧ μ2 (IntKind.wrap .i64 (i_3 + 1)) (World.drew w5) < μ2 i_3 w5))))
  (R (Ending.returned (Value.bool true)) w5))) :
  Calls Try.prog 52 #[] w R :=
  V.calls_of_R ⟨V.assoc [(0, [3])], V.assocP [(6, V.line [0, 1, 2, 3, 4, 5, 6, 7, 8])], V.assocC [], V.assocS [], ⟨[], false⟩⟩ Try.func52 rfl (Eq.mp (by kernel_rfl) h)

theorem berthtop_errors3_nf  (w : World) (R : Ending → World → Prop) (h :
  ∃ I1 : Int → World → Prop, ∃ μ2 : Int → World → Nat, I1 0 (World.alloc (World.alloc w (.cells #[(Value.int .i64 207), (Value.int .i64 210), (Value.int .i64 211), (Value.int .i64 212), (Value.int .i64 213), (Value.int .i64 214), (Value.int .i64 215), (Value.int .i64 216), (Value.int .i64 217), (Value.int .i64 218), (Value.int .i64 219), (Value.int .i64 220), (Value.int .i64 230), (Value.int .i64 231), (Value.int .i64 232), (Value.int .i64 233), (Value.int .i64 234), (Value.int .i64 235), (Value.int .i64 240), (Value.int .i64 241), (Value.int .i64 242), (Value.int .i64 250), (Value.int .i64 251), (Value.int .i64 252), (Value.int .i64 253), (Value.int .i64 254), (Value.int .i64 255), (Value.int .i64 260), (Value.int .i64 261), (Value.int .i64 262), (Value.int .i64 263), (Value.int .i64 264), (Value.int .i64 265), (Value.int .i64 270), (Value.int .i64 271), (Value.int .i64 272), (Value.int .i64 273), (Value.int .i64 274), (Value.int .i64 275), (Value.int .i64 276), (Value.int .i64 280), (Value.int .i64 281), (Value.int .i64 282), (Value.int .i64 283), (Value.int .i64 284), (Value.int .i64 285), (Value.int .i64 286)] 23)) (.cells #[(Value.int .i64 207), (Value.int .i64 210), (Value.int .i64 211), (Value.int .i64 212), (Value.int .i64 213), (Value.int .i64 214), (Value.int .i64 215), (Value.int .i64 216), (Value.int .i64 217), (Value.int .i64 218), (Value.int .i64 219), (Value.int .i64 220), (Value.int .i64 230), (Value.int .i64 231), (Value.int .i64 232), (Value.int .i64 233), (Value.int .i64 234), (Value.int .i64 235), (Value.int .i64 240), (Value.int .i64 241), (Value.int .i64 242), (Value.int .i64 250), (Value.int .i64 251), (Value.int .i64 252), (Value.int .i64 253), (Value.int .i64 254), (Value.int .i64 255), (Value.int .i64 260), (Value.int .i64 261), (Value.int .i64 262), (Value.int .i64 263), (Value.int .i64 264), (Value.int .i64 265), (Value.int .i64 270), (Value.int .i64 271), (Value.int .i64 272), (Value.int .i64 273), (Value.int .i64 274), (Value.int .i64 275), (Value.int .i64 276), (Value.int .i64 280), (Value.int .i64 281), (Value.int .i64 282), (Value.int .i64 283), (Value.int .i64 284), (Value.int .i64 285), (Value.int .i64 286)] 3)) ∧
  ∀ i_3 (j4 : Nat → Value) (w5 : World), I1 i_3 w5 →
  (V.sel (decide (i_3 < 47))
  (V.when (decide ((0 : Int) ≤ i_3 ∧ (i_3 : Int) < 47)) (∃ n6, World.cell? w5 (Addr.add ⟨Array.size (World.heap w), 0, none⟩ ((Int.toNat i_3) * 1)) = some (Value.int .i64 n6) ∧
  V.when (decide ((0 : Int) ≤ i_3 ∧ (i_3 : Int) < 47)) (∃ n7, World.cell? w5 (Addr.add ⟨Array.size (World.heap (World.alloc w (.cells #[(Value.int .i64 207), (Value.int .i64 210), (Value.int .i64 211), (Value.int .i64 212), (Value.int .i64 213), (Value.int .i64 214), (Value.int .i64 215), (Value.int .i64 216), (Value.int .i64 217), (Value.int .i64 218), (Value.int .i64 219), (Value.int .i64 220), (Value.int .i64 230), (Value.int .i64 231), (Value.int .i64 232), (Value.int .i64 233), (Value.int .i64 234), (Value.int .i64 235), (Value.int .i64 240), (Value.int .i64 241), (Value.int .i64 242), (Value.int .i64 250), (Value.int .i64 251), (Value.int .i64 252), (Value.int .i64 253), (Value.int .i64 254), (Value.int .i64 255), (Value.int .i64 260), (Value.int .i64 261), (Value.int .i64 262), (Value.int .i64 263), (Value.int .i64 264), (Value.int .i64 265), (Value.int .i64 270), (Value.int .i64 271), (Value.int .i64 272), (Value.int .i64 273), (Value.int .i64 274), (Value.int .i64 275), (Value.int .i64 276), (Value.int .i64 280), (Value.int .i64 281), (Value.int .i64 282), (Value.int .i64 283), (Value.int .i64 284), (Value.int .i64 285), (Value.int .i64 286)] 23))), 0, none⟩ ((Int.toNat i_3) * 1)) = some (Value.int .i64 n7) ∧
  V.sel (n6 != n7)
  (R (Ending.returned (Value.bool false)) (World.drew w5))
  (I1 (IntKind.wrap .i64 (i_3 + 1)) (World.drew w5) ∧ μ2 (IntKind.wrap .i64 (i_3 + 1)) (World.drew w5) < μ2 i_3 w5))))
  (R (Ending.returned (Value.bool true)) w5))) :
  Calls Try.prog 53 #[] w R :=
  V.calls_of_R ⟨V.assoc [(0, [3])], V.assocP [(6, V.line [0, 1, 2, 3, 4, 5, 6, 7, 8])], V.assocC [], V.assocS [], ⟨[], false⟩⟩ Try.func53 rfl (Eq.mp (by kernel_rfl) h)

theorem berthtop_limits_nf  (w : World) (R : Ending → World → Prop) (h :
  ∃ I1 : Int → World → Prop, ∃ μ2 : Int → World → Nat, I1 0 (World.alloc (World.alloc w (.cells #[(Value.int .i64 65536), (Value.int .i64 9223372036854775807), (Value.int .i64 16), (Value.int .i64 32), (Value.int .i64 32), (Value.int .i64 1024), (Value.int .i64 63), (Value.int .i64 127), (Value.int .i64 63), (Value.int .i64 32), (Value.int .i64 8192), (Value.int .i64 15), (Value.int .i64 18), (Value.int .i64 16), (Value.int .i64 256), (Value.int .i64 16), (Value.int .i64 512), (Value.int .i64 2048), (Value.int .i64 2048), (Value.int .i64 4096), (Value.int .i64 127), (Value.int .i64 32), (Value.int .i64 1000), (Value.int .i64 64), (Value.int .i64 2000), (Value.int .i64 128), (Value.int .i64 32768), (Value.int .i64 4096), (Value.int .i64 1024), (Value.int .i64 8), (Value.int .i64 8), (Value.int .i64 100), (Value.int .i64 1000000), (Value.int .i64 1099511627776), (Value.int .i64 64), (Value.int .i64 16777216), (Value.int .i64 1048576)] 3)) (.cells #[(Value.int .i64 65536), (Value.int .i64 9223372036854775807), (Value.int .i64 16), (Value.int .i64 32), (Value.int .i64 32), (Value.int .i64 1024), (Value.int .i64 63), (Value.int .i64 127), (Value.int .i64 63), (Value.int .i64 32), (Value.int .i64 8192), (Value.int .i64 15), (Value.int .i64 18), (Value.int .i64 16), (Value.int .i64 256), (Value.int .i64 16), (Value.int .i64 512), (Value.int .i64 2048), (Value.int .i64 2048), (Value.int .i64 4096), (Value.int .i64 127), (Value.int .i64 32), (Value.int .i64 1000), (Value.int .i64 64), (Value.int .i64 2000), (Value.int .i64 128), (Value.int .i64 32768), (Value.int .i64 4096), (Value.int .i64 1024), (Value.int .i64 8), (Value.int .i64 8), (Value.int .i64 100), (Value.int .i64 1000000), (Value.int .i64 1099511627776), (Value.int .i64 64), (Value.int .i64 16777216), (Value.int .i64 1048576)] 3)) ∧
  ∀ i_3 (j4 : Nat → Value) (w5 : World), I1 i_3 w5 →
  (V.sel (decide (i_3 < 37))
  (V.when (decide ((0 : Int) ≤ i_3 ∧ (i_3 : Int) < 37)) (∃ n6, World.cell? w5 (Addr.add ⟨Array.size (World.heap w), 0, none⟩ ((Int.toNat i_3) * 1)) = some (Value.int .i64 n6) ∧
  V.when (decide ((0 : Int) ≤ i_3 ∧ (i_3 : Int) < 37)) (∃ n7, World.cell? w5 (Addr.add ⟨Array.size (World.heap (World.alloc w (.cells #[(Value.int .i64 65536), (Value.int .i64 9223372036854775807), (Value.int .i64 16), (Value.int .i64 32), (Value.int .i64 32), (Value.int .i64 1024), (Value.int .i64 63), (Value.int .i64 127), (Value.int .i64 63), (Value.int .i64 32), (Value.int .i64 8192), (Value.int .i64 15), (Value.int .i64 18), (Value.int .i64 16), (Value.int .i64 256), (Value.int .i64 16), (Value.int .i64 512), (Value.int .i64 2048), (Value.int .i64 2048), (Value.int .i64 4096), (Value.int .i64 127), (Value.int .i64 32), (Value.int .i64 1000), (Value.int .i64 64), (Value.int .i64 2000), (Value.int .i64 128), (Value.int .i64 32768), (Value.int .i64 4096), (Value.int .i64 1024), (Value.int .i64 8), (Value.int .i64 8), (Value.int .i64 100), (Value.int .i64 1000000), (Value.int .i64 1099511627776), (Value.int .i64 64), (Value.int .i64 16777216), (Value.int .i64 1048576)] 3))), 0, none⟩ ((Int.toNat i_3) * 1)) = some (Value.int .i64 n7) ∧
  V.sel (n6 != n7)
  (R (Ending.returned (Value.bool false)) (World.drew w5))
  (I1 (IntKind.wrap .i64 (i_3 + 1)) (World.drew w5) ∧ μ2 (IntKind.wrap .i64 (i_3 + 1)) (World.drew w5) < μ2 i_3 w5))))
  (R (Ending.returned (Value.bool true)) w5))) :
  Calls Try.prog 54 #[] w R :=
  V.calls_of_R ⟨V.assoc [(0, [3])], V.assocP [(6, V.line [0, 1, 2, 3, 4, 5, 6, 7, 8])], V.assocC [], V.assocS [], ⟨[], false⟩⟩ Try.func54 rfl (Eq.mp (by kernel_rfl) h)

end Go.Proofs.Ytbaglnffgbnekaa
