/- Normal forms of the program's functions, printed by a program of mine; the kernel checks each. -/
import Derived.Test.YtcampkaenlohbaaProg
import Derived.Test.YtcampkaenlohbaaV2
set_option linter.unusedVariables false
set_option maxRecDepth 100000
namespace Go.Proofs.Ytcampkaenlohbaa
open Go

theorem slices_pdqsortOrdered_string__nf (data_1 : Option Addr) (data_1l : Nat) (data_1c : Nat) (a_2 : Int) (b_3 : Int) (limit_4 : Int) (w : World) (R : Ending → World → Prop) (h :
  ∃ I5 : Int → Int → Int → Bool → Bool → World → Prop, ∃ μ6 : Int → Int → Int → Bool → Bool → World → Nat, I5 a_2 b_3 limit_4 true true w ∧
  ∀ a_7 b_8 limit_9 wasBalanced_10 wasPartitioned_11 (j12 : Nat → Value) (w13 : World), I5 a_7 b_8 limit_9 wasBalanced_10 wasPartitioned_11 w13 →
  (V.sel (decide ((IntKind.wrap .i64 (b_8 - a_7)) ≤ 12))
  (Calls Try.prog 47 #[(Value.slice data_1 data_1l data_1c), (Value.int .i64 a_7), (Value.int .i64 b_8)] w13 fun e14 w15 =>
  e14 = Ending.returned undef ∧
  R (Ending.returned undef) w15)
  (V.sel (limit_9 == 0)
  (Calls Try.prog 48 #[(Value.slice data_1 data_1l data_1c), (Value.int .i64 a_7), (Value.int .i64 b_8)] w13 fun e16 w17 =>
  e16 = Ending.returned undef ∧
  R (Ending.returned undef) w17)
  (V.sel (!wasBalanced_10)
  (Calls Try.prog 49 #[(Value.slice data_1 data_1l data_1c), (Value.int .i64 a_7), (Value.int .i64 b_8)] w13 fun e18 w19 =>
  e18 = Ending.returned undef ∧
  Calls Try.prog 50 #[(Value.slice data_1 data_1l data_1c), (Value.int .i64 a_7), (Value.int .i64 b_8)] w19 fun e22 w23 =>
  ∃ n20, ∃ n21, e22 = Ending.returned (Value.tuple #[(Value.int .i64 n20), (Value.int .i64 n21)]) ∧
  V.sel (n21 == 2)
  (Calls Try.prog 51 #[(Value.slice data_1 data_1l data_1c), (Value.int .i64 a_7), (Value.int .i64 b_8)] w23 fun e24 w25 =>
  e24 = Ending.returned undef ∧
  V.lt (IntKind.wrap .i64 ((IntKind.wrap .i64 (b_8 - 1)) - (IntKind.wrap .i64 (n20 - a_7)))) fun x26 =>
  V.sel wasBalanced_10
  (V.sel wasPartitioned_11
  (Calls Try.prog 52 #[(Value.slice data_1 data_1l data_1c), (Value.int .i64 a_7), (Value.int .i64 b_8)] w25 fun e28 w29 =>
  ∃ b27, e28 = Ending.returned (Value.bool b27) ∧
  V.sel b27
  (R (Ending.returned undef) w29)
  (∃ S30 : World → Prop, S30 (World.drew w29) ∧
  V.sel (decide (a_7 > 0))
  (V.when (decide ((0 : Int) ≤ (IntKind.wrap .i64 (a_7 - 1)) ∧ ((IntKind.wrap .i64 (a_7 - 1)) : Int) < ((data_1l : Nat) : Int))) (V.ptr data_1 fun a32 =>
  ∃ s33, (∀ w31, S30 w31 → World.cell? w31 (Addr.add a32 ((Int.toNat (IntKind.wrap .i64 (a_7 - 1))) * 1)) = some (Value.string s33)) ∧
  V.when (decide ((0 : Int) ≤ x26 ∧ (x26 : Int) < ((data_1l : Nat) : Int))) (V.ptr data_1 fun a34 =>
  ∃ s35, (∀ w31, S30 w31 → World.cell? w31 (Addr.add a34 ((Int.toNat x26) * 1)) = some (Value.string s35)) ∧
  Calls Try.prog 53 #[(Value.string s33), (Value.string s35)] (World.drew w29) fun e37 w38 =>
  ∃ b36, e37 = Ending.returned (Value.bool b36) ∧
  S30 w38 ∧
  V.sel (!b36)
  (Calls Try.prog 54 #[(Value.slice data_1 data_1l data_1c), (Value.int .i64 a_7), (Value.int .i64 b_8), (Value.int .i64 x26)] w38 fun e40 w41 =>
  ∃ n39, e40 = Ending.returned (Value.int .i64 n39) ∧
  I5 n39 b_8 (IntKind.wrap .i64 (limit_9 - 1)) wasBalanced_10 wasPartitioned_11 w41 ∧ μ6 n39 b_8 (IntKind.wrap .i64 (limit_9 - 1)) wasBalanced_10 wasPartitioned_11 w41 < μ6 a_7 b_8 limit_9 wasBalanced_10 wasPartitioned_11 w13)
  (Calls Try.prog 55 #[(Value.slice data_1 data_1l data_1c), (Value.int .i64 a_7), (Value.int .i64 b_8), (Value.int .i64 x26)] w38 fun e44 w45 =>
  ∃ n42, ∃ b43, e44 = Ending.returned (Value.tuple #[(Value.int .i64 n42), (Value.bool b43)]) ∧
  V.lt (IntKind.wrap .i64 (Int.tdiv (IntKind.wrap .i64 (b_8 - a_7)) 8)) fun x46 =>
  V.sel (decide ((IntKind.wrap .i64 (n42 - a_7)) < (IntKind.wrap .i64 (b_8 - n42))))
  (Calls Try.prog 42 #[(Value.slice data_1 data_1l data_1c), (Value.int .i64 a_7), (Value.int .i64 n42), (Value.int .i64 (IntKind.wrap .i64 (limit_9 - 1)))] w45 fun e47 w48 =>
  e47 = Ending.returned undef ∧
  I5 (IntKind.wrap .i64 (n42 + 1)) b_8 (IntKind.wrap .i64 (limit_9 - 1)) (decide ((IntKind.wrap .i64 (n42 - a_7)) ≥ x46)) b43 w48 ∧ μ6 (IntKind.wrap .i64 (n42 + 1)) b_8 (IntKind.wrap .i64 (limit_9 - 1)) (decide ((IntKind.wrap .i64 (n42 - a_7)) ≥ x46)) b43 w48 < μ6 a_7 b_8 limit_9 wasBalanced_10 wasPartitioned_11 w13)
  (Calls Try.prog 42 #[(Value.slice data_1 data_1l data_1c), (Value.int .i64 (IntKind.wrap .i64 (n42 + 1))), (Value.int .i64 b_8), (Value.int .i64 (IntKind.wrap .i64 (limit_9 - 1)))] w45 fun e49 w50 =>
  e49 = Ending.returned undef ∧
  I5 a_7 n42 (IntKind.wrap .i64 (limit_9 - 1)) (decide ((IntKind.wrap .i64 (b_8 - n42)) ≥ x46)) b43 w50 ∧ μ6 a_7 n42 (IntKind.wrap .i64 (limit_9 - 1)) (decide ((IntKind.wrap .i64 (b_8 - n42)) ≥ x46)) b43 w50 < μ6 a_7 b_8 limit_9 wasBalanced_10 wasPartitioned_11 w13)))))
  (Calls Try.prog 55 #[(Value.slice data_1 data_1l data_1c), (Value.int .i64 a_7), (Value.int .i64 b_8), (Value.int .i64 x26)] (World.drew w29) fun e53 w54 =>
  ∃ n51, ∃ b52, e53 = Ending.returned (Value.tuple #[(Value.int .i64 n51), (Value.bool b52)]) ∧
  V.lt (IntKind.wrap .i64 (Int.tdiv (IntKind.wrap .i64 (b_8 - a_7)) 8)) fun x55 =>
  V.sel (decide ((IntKind.wrap .i64 (n51 - a_7)) < (IntKind.wrap .i64 (b_8 - n51))))
  (Calls Try.prog 42 #[(Value.slice data_1 data_1l data_1c), (Value.int .i64 a_7), (Value.int .i64 n51), (Value.int .i64 (IntKind.wrap .i64 (limit_9 - 1)))] w54 fun e56 w57 =>
  e56 = Ending.returned undef ∧
  I5 (IntKind.wrap .i64 (n51 + 1)) b_8 (IntKind.wrap .i64 (limit_9 - 1)) (decide ((IntKind.wrap .i64 (n51 - a_7)) ≥ x55)) b52 w57 ∧ μ6 (IntKind.wrap .i64 (n51 + 1)) b_8 (IntKind.wrap .i64 (limit_9 - 1)) (decide ((IntKind.wrap .i64 (n51 - a_7)) ≥ x55)) b52 w57 < μ6 a_7 b_8 limit_9 wasBalanced_10 wasPartitioned_11 w13)
  (Calls Try.prog 42 #[(Value.slice data_1 data_1l data_1c), (Value.int .i64 (IntKind.wrap .i64 (n51 + 1))), (Value.int .i64 b_8), (Value.int .i64 (IntKind.wrap .i64 (limit_9 - 1)))] w54 fun e58 w59 =>
  e58 = Ending.returned undef ∧
  I5 a_7 n51 (IntKind.wrap .i64 (limit_9 - 1)) (decide ((IntKind.wrap .i64 (b_8 - n51)) ≥ x55)) b52 w59 ∧ μ6 a_7 n51 (IntKind.wrap .i64 (limit_9 - 1)) (decide ((IntKind.wrap .i64 (b_8 - n51)) ≥ x55)) b52 w59 < μ6 a_7 b_8 limit_9 wasBalanced_10 wasPartitioned_11 w13))))
  (∃ S60 : World → Prop, S60 (World.drew w25) ∧
  V.sel (decide (a_7 > 0))
  (V.when (decide ((0 : Int) ≤ (IntKind.wrap .i64 (a_7 - 1)) ∧ ((IntKind.wrap .i64 (a_7 - 1)) : Int) < ((data_1l : Nat) : Int))) (V.ptr data_1 fun a62 =>
  ∃ s63, (∀ w61, S60 w61 → World.cell? w61 (Addr.add a62 ((Int.toNat (IntKind.wrap .i64 (a_7 - 1))) * 1)) = some (Value.string s63)) ∧
  V.when (decide ((0 : Int) ≤ x26 ∧ (x26 : Int) < ((data_1l : Nat) : Int))) (V.ptr data_1 fun a64 =>
  ∃ s65, (∀ w61, S60 w61 → World.cell? w61 (Addr.add a64 ((Int.toNat x26) * 1)) = some (Value.string s65)) ∧
  Calls Try.prog 53 #[(Value.string s63), (Value.string s65)] (World.drew w25) fun e67 w68 =>
  ∃ b66, e67 = Ending.returned (Value.bool b66) ∧
  S60 w68 ∧
  V.sel (!b66)
  (Calls Try.prog 54 #[(Value.slice data_1 data_1l data_1c), (Value.int .i64 a_7), (Value.int .i64 b_8), (Value.int .i64 x26)] w68 fun e70 w71 =>
  ∃ n69, e70 = Ending.returned (Value.int .i64 n69) ∧
  I5 n69 b_8 (IntKind.wrap .i64 (limit_9 - 1)) wasBalanced_10 wasPartitioned_11 w71 ∧ μ6 n69 b_8 (IntKind.wrap .i64 (limit_9 - 1)) wasBalanced_10 wasPartitioned_11 w71 < μ6 a_7 b_8 limit_9 wasBalanced_10 wasPartitioned_11 w13)
  (Calls Try.prog 55 #[(Value.slice data_1 data_1l data_1c), (Value.int .i64 a_7), (Value.int .i64 b_8), (Value.int .i64 x26)] w68 fun e74 w75 =>
  ∃ n72, ∃ b73, e74 = Ending.returned (Value.tuple #[(Value.int .i64 n72), (Value.bool b73)]) ∧
  V.lt (IntKind.wrap .i64 (Int.tdiv (IntKind.wrap .i64 (b_8 - a_7)) 8)) fun x76 =>
  V.sel (decide ((IntKind.wrap .i64 (n72 - a_7)) < (IntKind.wrap .i64 (b_8 - n72))))
  (Calls Try.prog 42 #[(Value.slice data_1 data_1l data_1c), (Value.int .i64 a_7), (Value.int .i64 n72), (Value.int .i64 (IntKind.wrap .i64 (limit_9 - 1)))] w75 fun e77 w78 =>
  e77 = Ending.returned undef ∧
  I5 (IntKind.wrap .i64 (n72 + 1)) b_8 (IntKind.wrap .i64 (limit_9 - 1)) (decide ((IntKind.wrap .i64 (n72 - a_7)) ≥ x76)) b73 w78 ∧ μ6 (IntKind.wrap .i64 (n72 + 1)) b_8 (IntKind.wrap .i64 (limit_9 - 1)) (decide ((IntKind.wrap .i64 (n72 - a_7)) ≥ x76)) b73 w78 < μ6 a_7 b_8 limit_9 wasBalanced_10 wasPartitioned_11 w13)
  (Calls Try.prog 42 #[(Value.slice data_1 data_1l data_1c), (Value.int .i64 (IntKind.wrap .i64 (n72 + 1))), (Value.int .i64 b_8), (Value.int .i64 (IntKind.wrap .i64 (limit_9 - 1)))] w75 fun e79 w80 =>
  e79 = Ending.returned undef ∧
  I5 a_7 n72 (IntKind.wrap .i64 (limit_9 - 1)) (decide ((IntKind.wrap .i64 (b_8 - n72)) ≥ x76)) b73 w80 ∧ μ6 a_7 n72 (IntKind.wrap .i64 (limit_9 - 1)) (decide ((IntKind.wrap .i64 (b_8 - n72)) ≥ x76)) b73 w80 < μ6 a_7 b_8 limit_9 wasBalanced_10 wasPartitioned_11 w13)))))
  (Calls Try.prog 55 #[(Value.slice data_1 data_1l data_1c), (Value.int .i64 a_7), (Value.int .i64 b_8), (Value.int .i64 x26)] (World.drew w25) fun e83 w84 =>
  ∃ n81, ∃ b82, e83 = Ending.returned (Value.tuple #[(Value.int .i64 n81), (Value.bool b82)]) ∧
  V.lt (IntKind.wrap .i64 (Int.tdiv (IntKind.wrap .i64 (b_8 - a_7)) 8)) fun x85 =>
  V.sel (decide ((IntKind.wrap .i64 (n81 - a_7)) < (IntKind.wrap .i64 (b_8 - n81))))
  (Calls Try.prog 42 #[(Value.slice data_1 data_1l data_1c), (Value.int .i64 a_7), (Value.int .i64 n81), (Value.int .i64 (IntKind.wrap .i64 (limit_9 - 1)))] w84 fun e86 w87 =>
  e86 = Ending.returned undef ∧
  I5 (IntKind.wrap .i64 (n81 + 1)) b_8 (IntKind.wrap .i64 (limit_9 - 1)) (decide ((IntKind.wrap .i64 (n81 - a_7)) ≥ x85)) b82 w87 ∧ μ6 (IntKind.wrap .i64 (n81 + 1)) b_8 (IntKind.wrap .i64 (limit_9 - 1)) (decide ((IntKind.wrap .i64 (n81 - a_7)) ≥ x85)) b82 w87 < μ6 a_7 b_8 limit_9 wasBalanced_10 wasPartitioned_11 w13)
  (Calls Try.prog 42 #[(Value.slice data_1 data_1l data_1c), (Value.int .i64 (IntKind.wrap .i64 (n81 + 1))), (Value.int .i64 b_8), (Value.int .i64 (IntKind.wrap .i64 (limit_9 - 1)))] w84 fun e88 w89 =>
  e88 = Ending.returned undef ∧
  I5 a_7 n81 (IntKind.wrap .i64 (limit_9 - 1)) (decide ((IntKind.wrap .i64 (b_8 - n81)) ≥ x85)) b82 w89 ∧ μ6 a_7 n81 (IntKind.wrap .i64 (limit_9 - 1)) (decide ((IntKind.wrap .i64 (b_8 - n81)) ≥ x85)) b82 w89 < μ6 a_7 b_8 limit_9 wasBalanced_10 wasPartitioned_11 w13))))
  (∃ S90 : World → Prop, S90 (World.drew w25) ∧
  V.sel (decide (a_7 > 0))
  (V.when (decide ((0 : Int) ≤ (IntKind.wrap .i64 (a_7 - 1)) ∧ ((IntKind.wrap .i64 (a_7 - 1)) : Int) < ((data_1l : Nat) : Int))) (V.ptr data_1 fun a92 =>
  ∃ s93, (∀ w91, S90 w91 → World.cell? w91 (Addr.add a92 ((Int.toNat (IntKind.wrap .i64 (a_7 - 1))) * 1)) = some (Value.string s93)) ∧
  V.when (decide ((0 : Int) ≤ x26 ∧ (x26 : Int) < ((data_1l : Nat) : Int))) (V.ptr data_1 fun a94 =>
  ∃ s95, (∀ w91, S90 w91 → World.cell? w91 (Addr.add a94 ((Int.toNat x26) * 1)) = some (Value.string s95)) ∧
  Calls Try.prog 53 #[(Value.string s93), (Value.string s95)] (World.drew w25) fun e97 w98 =>
  ∃ b96, e97 = Ending.returned (Value.bool b96) ∧
  S90 w98 ∧
  V.sel (!b96)
  (Calls Try.prog 54 #[(Value.slice data_1 data_1l data_1c), (Value.int .i64 a_7), (Value.int .i64 b_8), (Value.int .i64 x26)] w98 fun e100 w101 =>
  ∃ n99, e100 = Ending.returned (Value.int .i64 n99) ∧
  I5 n99 b_8 (IntKind.wrap .i64 (limit_9 - 1)) wasBalanced_10 wasPartitioned_11 w101 ∧ μ6 n99 b_8 (IntKind.wrap .i64 (limit_9 - 1)) wasBalanced_10 wasPartitioned_11 w101 < μ6 a_7 b_8 limit_9 wasBalanced_10 wasPartitioned_11 w13)
  (Calls Try.prog 55 #[(Value.slice data_1 data_1l data_1c), (Value.int .i64 a_7), (Value.int .i64 b_8), (Value.int .i64 x26)] w98 fun e104 w105 =>
  ∃ n102, ∃ b103, e104 = Ending.returned (Value.tuple #[(Value.int .i64 n102), (Value.bool b103)]) ∧
  V.lt (IntKind.wrap .i64 (Int.tdiv (IntKind.wrap .i64 (b_8 - a_7)) 8)) fun x106 =>
  V.sel (decide ((IntKind.wrap .i64 (n102 - a_7)) < (IntKind.wrap .i64 (b_8 - n102))))
  (Calls Try.prog 42 #[(Value.slice data_1 data_1l data_1c), (Value.int .i64 a_7), (Value.int .i64 n102), (Value.int .i64 (IntKind.wrap .i64 (limit_9 - 1)))] w105 fun e107 w108 =>
  e107 = Ending.returned undef ∧
  I5 (IntKind.wrap .i64 (n102 + 1)) b_8 (IntKind.wrap .i64 (limit_9 - 1)) (decide ((IntKind.wrap .i64 (n102 - a_7)) ≥ x106)) b103 w108 ∧ μ6 (IntKind.wrap .i64 (n102 + 1)) b_8 (IntKind.wrap .i64 (limit_9 - 1)) (decide ((IntKind.wrap .i64 (n102 - a_7)) ≥ x106)) b103 w108 < μ6 a_7 b_8 limit_9 wasBalanced_10 wasPartitioned_11 w13)
  (Calls Try.prog 42 #[(Value.slice data_1 data_1l data_1c), (Value.int .i64 (IntKind.wrap .i64 (n102 + 1))), (Value.int .i64 b_8), (Value.int .i64 (IntKind.wrap .i64 (limit_9 - 1)))] w105 fun e109 w110 =>
  e109 = Ending.returned undef ∧
  I5 a_7 n102 (IntKind.wrap .i64 (limit_9 - 1)) (decide ((IntKind.wrap .i64 (b_8 - n102)) ≥ x106)) b103 w110 ∧ μ6 a_7 n102 (IntKind.wrap .i64 (limit_9 - 1)) (decide ((IntKind.wrap .i64 (b_8 - n102)) ≥ x106)) b103 w110 < μ6 a_7 b_8 limit_9 wasBalanced_10 wasPartitioned_11 w13)))))
  (Calls Try.prog 55 #[(Value.slice data_1 data_1l data_1c), (Value.int .i64 a_7), (Value.int .i64 b_8), (Value.int .i64 x26)] (World.drew w25) fun e113 w114 =>
  ∃ n111, ∃ b112, e113 = Ending.returned (Value.tuple #[(Value.int .i64 n111), (Value.bool b112)]) ∧
  V.lt (IntKind.wrap .i64 (Int.tdiv (IntKind.wrap .i64 (b_8 - a_7)) 8)) fun x115 =>
  V.sel (decide ((IntKind.wrap .i64 (n111 - a_7)) < (IntKind.wrap .i64 (b_8 - n111))))
  (Calls Try.prog 42 #[(Value.slice data_1 data_1l data_1c), (Value.int .i64 a_7), (Value.int .i64 n111), (Value.int .i64 (IntKind.wrap .i64 (limit_9 - 1)))] w114 fun e116 w117 =>
  e116 = Ending.returned undef ∧
  I5 (IntKind.wrap .i64 (n111 + 1)) b_8 (IntKind.wrap .i64 (limit_9 - 1)) (decide ((IntKind.wrap .i64 (n111 - a_7)) ≥ x115)) b112 w117 ∧ μ6 (IntKind.wrap .i64 (n111 + 1)) b_8 (IntKind.wrap .i64 (limit_9 - 1)) (decide ((IntKind.wrap .i64 (n111 - a_7)) ≥ x115)) b112 w117 < μ6 a_7 b_8 limit_9 wasBalanced_10 wasPartitioned_11 w13)
  (Calls Try.prog 42 #[(Value.slice data_1 data_1l data_1c), (Value.int .i64 (IntKind.wrap .i64 (n111 + 1))), (Value.int .i64 b_8), (Value.int .i64 (IntKind.wrap .i64 (limit_9 - 1)))] w114 fun e118 w119 =>
  e118 = Ending.returned undef ∧
  I5 a_7 n111 (IntKind.wrap .i64 (limit_9 - 1)) (decide ((IntKind.wrap .i64 (b_8 - n111)) ≥ x115)) b112 w119 ∧ μ6 a_7 n111 (IntKind.wrap .i64 (limit_9 - 1)) (decide ((IntKind.wrap .i64 (b_8 - n111)) ≥ x115)) b112 w119 < μ6 a_7 b_8 limit_9 wasBalanced_10 wasPartitioned_11 w13))))
  (V.sel wasBalanced_10
  (V.sel wasPartitioned_11
  (V.sel (n21 == 1)
  (Calls Try.prog 52 #[(Value.slice data_1 data_1l data_1c), (Value.int .i64 a_7), (Value.int .i64 b_8)] w23 fun e121 w122 =>
  ∃ b120, e121 = Ending.returned (Value.bool b120) ∧
  V.sel b120
  (R (Ending.returned undef) w122)
  (∃ S123 : World → Prop, S123 (World.drew w122) ∧
  V.sel (decide (a_7 > 0))
  (V.when (decide ((0 : Int) ≤ (IntKind.wrap .i64 (a_7 - 1)) ∧ ((IntKind.wrap .i64 (a_7 - 1)) : Int) < ((data_1l : Nat) : Int))) (V.ptr data_1 fun a125 =>
  ∃ s126, (∀ w124, S123 w124 → World.cell? w124 (Addr.add a125 ((Int.toNat (IntKind.wrap .i64 (a_7 - 1))) * 1)) = some (Value.string s126)) ∧
  V.when (decide ((0 : Int) ≤ n20 ∧ (n20 : Int) < ((data_1l : Nat) : Int))) (V.ptr data_1 fun a127 =>
  ∃ s128, (∀ w124, S123 w124 → World.cell? w124 (Addr.add a127 ((Int.toNat n20) * 1)) = some (Value.string s128)) ∧
  Calls Try.prog 53 #[(Value.string s126), (Value.string s128)] (World.drew w122) fun e130 w131 =>
  ∃ b129, e130 = Ending.returned (Value.bool b129) ∧
  S123 w131 ∧
  V.sel (!b129)
  (Calls Try.prog 54 #[(Value.slice data_1 data_1l data_1c), (Value.int .i64 a_7), (Value.int .i64 b_8), (Value.int .i64 n20)] w131 fun e133 w134 =>
  ∃ n132, e133 = Ending.returned (Value.int .i64 n132) ∧
  I5 n132 b_8 (IntKind.wrap .i64 (limit_9 - 1)) wasBalanced_10 wasPartitioned_11 w134 ∧ μ6 n132 b_8 (IntKind.wrap .i64 (limit_9 - 1)) wasBalanced_10 wasPartitioned_11 w134 < μ6 a_7 b_8 limit_9 wasBalanced_10 wasPartitioned_11 w13)
  (Calls Try.prog 55 #[(Value.slice data_1 data_1l data_1c), (Value.int .i64 a_7), (Value.int .i64 b_8), (Value.int .i64 n20)] w131 fun e137 w138 =>
  ∃ n135, ∃ b136, e137 = Ending.returned (Value.tuple #[(Value.int .i64 n135), (Value.bool b136)]) ∧
  V.lt (IntKind.wrap .i64 (Int.tdiv (IntKind.wrap .i64 (b_8 - a_7)) 8)) fun x139 =>
  V.sel (decide ((IntKind.wrap .i64 (n135 - a_7)) < (IntKind.wrap .i64 (b_8 - n135))))
  (Calls Try.prog 42 #[(Value.slice data_1 data_1l data_1c), (Value.int .i64 a_7), (Value.int .i64 n135), (Value.int .i64 (IntKind.wrap .i64 (limit_9 - 1)))] w138 fun e140 w141 =>
  e140 = Ending.returned undef ∧
  I5 (IntKind.wrap .i64 (n135 + 1)) b_8 (IntKind.wrap .i64 (limit_9 - 1)) (decide ((IntKind.wrap .i64 (n135 - a_7)) ≥ x139)) b136 w141 ∧ μ6 (IntKind.wrap .i64 (n135 + 1)) b_8 (IntKind.wrap .i64 (limit_9 - 1)) (decide ((IntKind.wrap .i64 (n135 - a_7)) ≥ x139)) b136 w141 < μ6 a_7 b_8 limit_9 wasBalanced_10 wasPartitioned_11 w13)
  (Calls Try.prog 42 #[(Value.slice data_1 data_1l data_1c), (Value.int .i64 (IntKind.wrap .i64 (n135 + 1))), (Value.int .i64 b_8), (Value.int .i64 (IntKind.wrap .i64 (limit_9 - 1)))] w138 fun e142 w143 =>
  e142 = Ending.returned undef ∧
  I5 a_7 n135 (IntKind.wrap .i64 (limit_9 - 1)) (decide ((IntKind.wrap .i64 (b_8 - n135)) ≥ x139)) b136 w143 ∧ μ6 a_7 n135 (IntKind.wrap .i64 (limit_9 - 1)) (decide ((IntKind.wrap .i64 (b_8 - n135)) ≥ x139)) b136 w143 < μ6 a_7 b_8 limit_9 wasBalanced_10 wasPartitioned_11 w13)))))
  (Calls Try.prog 55 #[(Value.slice data_1 data_1l data_1c), (Value.int .i64 a_7), (Value.int .i64 b_8), (Value.int .i64 n20)] (World.drew w122) fun e146 w147 =>
  ∃ n144, ∃ b145, e146 = Ending.returned (Value.tuple #[(Value.int .i64 n144), (Value.bool b145)]) ∧
  V.lt (IntKind.wrap .i64 (Int.tdiv (IntKind.wrap .i64 (b_8 - a_7)) 8)) fun x148 =>
  V.sel (decide ((IntKind.wrap .i64 (n144 - a_7)) < (IntKind.wrap .i64 (b_8 - n144))))
  (Calls Try.prog 42 #[(Value.slice data_1 data_1l data_1c), (Value.int .i64 a_7), (Value.int .i64 n144), (Value.int .i64 (IntKind.wrap .i64 (limit_9 - 1)))] w147 fun e149 w150 =>
  e149 = Ending.returned undef ∧
  I5 (IntKind.wrap .i64 (n144 + 1)) b_8 (IntKind.wrap .i64 (limit_9 - 1)) (decide ((IntKind.wrap .i64 (n144 - a_7)) ≥ x148)) b145 w150 ∧ μ6 (IntKind.wrap .i64 (n144 + 1)) b_8 (IntKind.wrap .i64 (limit_9 - 1)) (decide ((IntKind.wrap .i64 (n144 - a_7)) ≥ x148)) b145 w150 < μ6 a_7 b_8 limit_9 wasBalanced_10 wasPartitioned_11 w13)
  (Calls Try.prog 42 #[(Value.slice data_1 data_1l data_1c), (Value.int .i64 (IntKind.wrap .i64 (n144 + 1))), (Value.int .i64 b_8), (Value.int .i64 (IntKind.wrap .i64 (limit_9 - 1)))] w147 fun e151 w152 =>
  e151 = Ending.returned undef ∧
  I5 a_7 n144 (IntKind.wrap .i64 (limit_9 - 1)) (decide ((IntKind.wrap .i64 (b_8 - n144)) ≥ x148)) b145 w152 ∧ μ6 a_7 n144 (IntKind.wrap .i64 (limit_9 - 1)) (decide ((IntKind.wrap .i64 (b_8 - n144)) ≥ x148)) b145 w152 < μ6 a_7 b_8 limit_9 wasBalanced_10 wasPartitioned_11 w13))))
  (∃ S153 : World → Prop, S153 (World.drew w23) ∧
  V.sel (decide (a_7 > 0))
  (V.when (decide ((0 : Int) ≤ (IntKind.wrap .i64 (a_7 - 1)) ∧ ((IntKind.wrap .i64 (a_7 - 1)) : Int) < ((data_1l : Nat) : Int))) (V.ptr data_1 fun a155 =>
  ∃ s156, (∀ w154, S153 w154 → World.cell? w154 (Addr.add a155 ((Int.toNat (IntKind.wrap .i64 (a_7 - 1))) * 1)) = some (Value.string s156)) ∧
  V.when (decide ((0 : Int) ≤ n20 ∧ (n20 : Int) < ((data_1l : Nat) : Int))) (V.ptr data_1 fun a157 =>
  ∃ s158, (∀ w154, S153 w154 → World.cell? w154 (Addr.add a157 ((Int.toNat n20) * 1)) = some (Value.string s158)) ∧
  Calls Try.prog 53 #[(Value.string s156), (Value.string s158)] (World.drew w23) fun e160 w161 =>
  ∃ b159, e160 = Ending.returned (Value.bool b159) ∧
  S153 w161 ∧
  V.sel (!b159)
  (Calls Try.prog 54 #[(Value.slice data_1 data_1l data_1c), (Value.int .i64 a_7), (Value.int .i64 b_8), (Value.int .i64 n20)] w161 fun e163 w164 =>
  ∃ n162, e163 = Ending.returned (Value.int .i64 n162) ∧
  I5 n162 b_8 (IntKind.wrap .i64 (limit_9 - 1)) wasBalanced_10 wasPartitioned_11 w164 ∧ μ6 n162 b_8 (IntKind.wrap .i64 (limit_9 - 1)) wasBalanced_10 wasPartitioned_11 w164 < μ6 a_7 b_8 limit_9 wasBalanced_10 wasPartitioned_11 w13)
  (Calls Try.prog 55 #[(Value.slice data_1 data_1l data_1c), (Value.int .i64 a_7), (Value.int .i64 b_8), (Value.int .i64 n20)] w161 fun e167 w168 =>
  ∃ n165, ∃ b166, e167 = Ending.returned (Value.tuple #[(Value.int .i64 n165), (Value.bool b166)]) ∧
  V.lt (IntKind.wrap .i64 (Int.tdiv (IntKind.wrap .i64 (b_8 - a_7)) 8)) fun x169 =>
  V.sel (decide ((IntKind.wrap .i64 (n165 - a_7)) < (IntKind.wrap .i64 (b_8 - n165))))
  (Calls Try.prog 42 #[(Value.slice data_1 data_1l data_1c), (Value.int .i64 a_7), (Value.int .i64 n165), (Value.int .i64 (IntKind.wrap .i64 (limit_9 - 1)))] w168 fun e170 w171 =>
  e170 = Ending.returned undef ∧
  I5 (IntKind.wrap .i64 (n165 + 1)) b_8 (IntKind.wrap .i64 (limit_9 - 1)) (decide ((IntKind.wrap .i64 (n165 - a_7)) ≥ x169)) b166 w171 ∧ μ6 (IntKind.wrap .i64 (n165 + 1)) b_8 (IntKind.wrap .i64 (limit_9 - 1)) (decide ((IntKind.wrap .i64 (n165 - a_7)) ≥ x169)) b166 w171 < μ6 a_7 b_8 limit_9 wasBalanced_10 wasPartitioned_11 w13)
  (Calls Try.prog 42 #[(Value.slice data_1 data_1l data_1c), (Value.int .i64 (IntKind.wrap .i64 (n165 + 1))), (Value.int .i64 b_8), (Value.int .i64 (IntKind.wrap .i64 (limit_9 - 1)))] w168 fun e172 w173 =>
  e172 = Ending.returned undef ∧
  I5 a_7 n165 (IntKind.wrap .i64 (limit_9 - 1)) (decide ((IntKind.wrap .i64 (b_8 - n165)) ≥ x169)) b166 w173 ∧ μ6 a_7 n165 (IntKind.wrap .i64 (limit_9 - 1)) (decide ((IntKind.wrap .i64 (b_8 - n165)) ≥ x169)) b166 w173 < μ6 a_7 b_8 limit_9 wasBalanced_10 wasPartitioned_11 w13)))))
  (Calls Try.prog 55 #[(Value.slice data_1 data_1l data_1c), (Value.int .i64 a_7), (Value.int .i64 b_8), (Value.int .i64 n20)] (World.drew w23) fun e176 w177 =>
  ∃ n174, ∃ b175, e176 = Ending.returned (Value.tuple #[(Value.int .i64 n174), (Value.bool b175)]) ∧
  V.lt (IntKind.wrap .i64 (Int.tdiv (IntKind.wrap .i64 (b_8 - a_7)) 8)) fun x178 =>
  V.sel (decide ((IntKind.wrap .i64 (n174 - a_7)) < (IntKind.wrap .i64 (b_8 - n174))))
  (Calls Try.prog 42 #[(Value.slice data_1 data_1l data_1c), (Value.int .i64 a_7), (Value.int .i64 n174), (Value.int .i64 (IntKind.wrap .i64 (limit_9 - 1)))] w177 fun e179 w180 =>
  e179 = Ending.returned undef ∧
  I5 (IntKind.wrap .i64 (n174 + 1)) b_8 (IntKind.wrap .i64 (limit_9 - 1)) (decide ((IntKind.wrap .i64 (n174 - a_7)) ≥ x178)) b175 w180 ∧ μ6 (IntKind.wrap .i64 (n174 + 1)) b_8 (IntKind.wrap .i64 (limit_9 - 1)) (decide ((IntKind.wrap .i64 (n174 - a_7)) ≥ x178)) b175 w180 < μ6 a_7 b_8 limit_9 wasBalanced_10 wasPartitioned_11 w13)
  (Calls Try.prog 42 #[(Value.slice data_1 data_1l data_1c), (Value.int .i64 (IntKind.wrap .i64 (n174 + 1))), (Value.int .i64 b_8), (Value.int .i64 (IntKind.wrap .i64 (limit_9 - 1)))] w177 fun e181 w182 =>
  e181 = Ending.returned undef ∧
  I5 a_7 n174 (IntKind.wrap .i64 (limit_9 - 1)) (decide ((IntKind.wrap .i64 (b_8 - n174)) ≥ x178)) b175 w182 ∧ μ6 a_7 n174 (IntKind.wrap .i64 (limit_9 - 1)) (decide ((IntKind.wrap .i64 (b_8 - n174)) ≥ x178)) b175 w182 < μ6 a_7 b_8 limit_9 wasBalanced_10 wasPartitioned_11 w13))))
  (∃ S183 : World → Prop, S183 (World.drew w23) ∧
  V.sel (decide (a_7 > 0))
  (V.when (decide ((0 : Int) ≤ (IntKind.wrap .i64 (a_7 - 1)) ∧ ((IntKind.wrap .i64 (a_7 - 1)) : Int) < ((data_1l : Nat) : Int))) (V.ptr data_1 fun a185 =>
  ∃ s186, (∀ w184, S183 w184 → World.cell? w184 (Addr.add a185 ((Int.toNat (IntKind.wrap .i64 (a_7 - 1))) * 1)) = some (Value.string s186)) ∧
  V.when (decide ((0 : Int) ≤ n20 ∧ (n20 : Int) < ((data_1l : Nat) : Int))) (V.ptr data_1 fun a187 =>
  ∃ s188, (∀ w184, S183 w184 → World.cell? w184 (Addr.add a187 ((Int.toNat n20) * 1)) = some (Value.string s188)) ∧
  Calls Try.prog 53 #[(Value.string s186), (Value.string s188)] (World.drew w23) fun e190 w191 =>
  ∃ b189, e190 = Ending.returned (Value.bool b189) ∧
  S183 w191 ∧
  V.sel (!b189)
  (Calls Try.prog 54 #[(Value.slice data_1 data_1l data_1c), (Value.int .i64 a_7), (Value.int .i64 b_8), (Value.int .i64 n20)] w191 fun e193 w194 =>
  ∃ n192, e193 = Ending.returned (Value.int .i64 n192) ∧
  I5 n192 b_8 (IntKind.wrap .i64 (limit_9 - 1)) wasBalanced_10 wasPartitioned_11 w194 ∧ μ6 n192 b_8 (IntKind.wrap .i64 (limit_9 - 1)) wasBalanced_10 wasPartitioned_11 w194 < μ6 a_7 b_8 limit_9 wasBalanced_10 wasPartitioned_11 w13)
  (Calls Try.prog 55 #[(Value.slice data_1 data_1l data_1c), (Value.int .i64 a_7), (Value.int .i64 b_8), (Value.int .i64 n20)] w191 fun e197 w198 =>
  ∃ n195, ∃ b196, e197 = Ending.returned (Value.tuple #[(Value.int .i64 n195), (Value.bool b196)]) ∧
  V.lt (IntKind.wrap .i64 (Int.tdiv (IntKind.wrap .i64 (b_8 - a_7)) 8)) fun x199 =>
  V.sel (decide ((IntKind.wrap .i64 (n195 - a_7)) < (IntKind.wrap .i64 (b_8 - n195))))
  (Calls Try.prog 42 #[(Value.slice data_1 data_1l data_1c), (Value.int .i64 a_7), (Value.int .i64 n195), (Value.int .i64 (IntKind.wrap .i64 (limit_9 - 1)))] w198 fun e200 w201 =>
  e200 = Ending.returned undef ∧
  I5 (IntKind.wrap .i64 (n195 + 1)) b_8 (IntKind.wrap .i64 (limit_9 - 1)) (decide ((IntKind.wrap .i64 (n195 - a_7)) ≥ x199)) b196 w201 ∧ μ6 (IntKind.wrap .i64 (n195 + 1)) b_8 (IntKind.wrap .i64 (limit_9 - 1)) (decide ((IntKind.wrap .i64 (n195 - a_7)) ≥ x199)) b196 w201 < μ6 a_7 b_8 limit_9 wasBalanced_10 wasPartitioned_11 w13)
  (Calls Try.prog 42 #[(Value.slice data_1 data_1l data_1c), (Value.int .i64 (IntKind.wrap .i64 (n195 + 1))), (Value.int .i64 b_8), (Value.int .i64 (IntKind.wrap .i64 (limit_9 - 1)))] w198 fun e202 w203 =>
  e202 = Ending.returned undef ∧
  I5 a_7 n195 (IntKind.wrap .i64 (limit_9 - 1)) (decide ((IntKind.wrap .i64 (b_8 - n195)) ≥ x199)) b196 w203 ∧ μ6 a_7 n195 (IntKind.wrap .i64 (limit_9 - 1)) (decide ((IntKind.wrap .i64 (b_8 - n195)) ≥ x199)) b196 w203 < μ6 a_7 b_8 limit_9 wasBalanced_10 wasPartitioned_11 w13)))))
  (Calls Try.prog 55 #[(Value.slice data_1 data_1l data_1c), (Value.int .i64 a_7), (Value.int .i64 b_8), (Value.int .i64 n20)] (World.drew w23) fun e206 w207 =>
  ∃ n204, ∃ b205, e206 = Ending.returned (Value.tuple #[(Value.int .i64 n204), (Value.bool b205)]) ∧
  V.lt (IntKind.wrap .i64 (Int.tdiv (IntKind.wrap .i64 (b_8 - a_7)) 8)) fun x208 =>
  V.sel (decide ((IntKind.wrap .i64 (n204 - a_7)) < (IntKind.wrap .i64 (b_8 - n204))))
  (Calls Try.prog 42 #[(Value.slice data_1 data_1l data_1c), (Value.int .i64 a_7), (Value.int .i64 n204), (Value.int .i64 (IntKind.wrap .i64 (limit_9 - 1)))] w207 fun e209 w210 =>
  e209 = Ending.returned undef ∧
  I5 (IntKind.wrap .i64 (n204 + 1)) b_8 (IntKind.wrap .i64 (limit_9 - 1)) (decide ((IntKind.wrap .i64 (n204 - a_7)) ≥ x208)) b205 w210 ∧ μ6 (IntKind.wrap .i64 (n204 + 1)) b_8 (IntKind.wrap .i64 (limit_9 - 1)) (decide ((IntKind.wrap .i64 (n204 - a_7)) ≥ x208)) b205 w210 < μ6 a_7 b_8 limit_9 wasBalanced_10 wasPartitioned_11 w13)
  (Calls Try.prog 42 #[(Value.slice data_1 data_1l data_1c), (Value.int .i64 (IntKind.wrap .i64 (n204 + 1))), (Value.int .i64 b_8), (Value.int .i64 (IntKind.wrap .i64 (limit_9 - 1)))] w207 fun e211 w212 =>
  e211 = Ending.returned undef ∧
  I5 a_7 n204 (IntKind.wrap .i64 (limit_9 - 1)) (decide ((IntKind.wrap .i64 (b_8 - n204)) ≥ x208)) b205 w212 ∧ μ6 a_7 n204 (IntKind.wrap .i64 (limit_9 - 1)) (decide ((IntKind.wrap .i64 (b_8 - n204)) ≥ x208)) b205 w212 < μ6 a_7 b_8 limit_9 wasBalanced_10 wasPartitioned_11 w13))))
  (∃ S213 : World → Prop, S213 (World.drew w23) ∧
  V.sel (decide (a_7 > 0))
  (V.when (decide ((0 : Int) ≤ (IntKind.wrap .i64 (a_7 - 1)) ∧ ((IntKind.wrap .i64 (a_7 - 1)) : Int) < ((data_1l : Nat) : Int))) (V.ptr data_1 fun a215 =>
  ∃ s216, (∀ w214, S213 w214 → World.cell? w214 (Addr.add a215 ((Int.toNat (IntKind.wrap .i64 (a_7 - 1))) * 1)) = some (Value.string s216)) ∧
  V.when (decide ((0 : Int) ≤ n20 ∧ (n20 : Int) < ((data_1l : Nat) : Int))) (V.ptr data_1 fun a217 =>
  ∃ s218, (∀ w214, S213 w214 → World.cell? w214 (Addr.add a217 ((Int.toNat n20) * 1)) = some (Value.string s218)) ∧
  Calls Try.prog 53 #[(Value.string s216), (Value.string s218)] (World.drew w23) fun e220 w221 =>
  ∃ b219, e220 = Ending.returned (Value.bool b219) ∧
  S213 w221 ∧
  V.sel (!b219)
  (Calls Try.prog 54 #[(Value.slice data_1 data_1l data_1c), (Value.int .i64 a_7), (Value.int .i64 b_8), (Value.int .i64 n20)] w221 fun e223 w224 =>
  ∃ n222, e223 = Ending.returned (Value.int .i64 n222) ∧
  I5 n222 b_8 (IntKind.wrap .i64 (limit_9 - 1)) wasBalanced_10 wasPartitioned_11 w224 ∧ μ6 n222 b_8 (IntKind.wrap .i64 (limit_9 - 1)) wasBalanced_10 wasPartitioned_11 w224 < μ6 a_7 b_8 limit_9 wasBalanced_10 wasPartitioned_11 w13)
  (Calls Try.prog 55 #[(Value.slice data_1 data_1l data_1c), (Value.int .i64 a_7), (Value.int .i64 b_8), (Value.int .i64 n20)] w221 fun e227 w228 =>
  ∃ n225, ∃ b226, e227 = Ending.returned (Value.tuple #[(Value.int .i64 n225), (Value.bool b226)]) ∧
  V.lt (IntKind.wrap .i64 (Int.tdiv (IntKind.wrap .i64 (b_8 - a_7)) 8)) fun x229 =>
  V.sel (decide ((IntKind.wrap .i64 (n225 - a_7)) < (IntKind.wrap .i64 (b_8 - n225))))
  (Calls Try.prog 42 #[(Value.slice data_1 data_1l data_1c), (Value.int .i64 a_7), (Value.int .i64 n225), (Value.int .i64 (IntKind.wrap .i64 (limit_9 - 1)))] w228 fun e230 w231 =>
  e230 = Ending.returned undef ∧
  I5 (IntKind.wrap .i64 (n225 + 1)) b_8 (IntKind.wrap .i64 (limit_9 - 1)) (decide ((IntKind.wrap .i64 (n225 - a_7)) ≥ x229)) b226 w231 ∧ μ6 (IntKind.wrap .i64 (n225 + 1)) b_8 (IntKind.wrap .i64 (limit_9 - 1)) (decide ((IntKind.wrap .i64 (n225 - a_7)) ≥ x229)) b226 w231 < μ6 a_7 b_8 limit_9 wasBalanced_10 wasPartitioned_11 w13)
  (Calls Try.prog 42 #[(Value.slice data_1 data_1l data_1c), (Value.int .i64 (IntKind.wrap .i64 (n225 + 1))), (Value.int .i64 b_8), (Value.int .i64 (IntKind.wrap .i64 (limit_9 - 1)))] w228 fun e232 w233 =>
  e232 = Ending.returned undef ∧
  I5 a_7 n225 (IntKind.wrap .i64 (limit_9 - 1)) (decide ((IntKind.wrap .i64 (b_8 - n225)) ≥ x229)) b226 w233 ∧ μ6 a_7 n225 (IntKind.wrap .i64 (limit_9 - 1)) (decide ((IntKind.wrap .i64 (b_8 - n225)) ≥ x229)) b226 w233 < μ6 a_7 b_8 limit_9 wasBalanced_10 wasPartitioned_11 w13)))))
  (Calls Try.prog 55 #[(Value.slice data_1 data_1l data_1c), (Value.int .i64 a_7), (Value.int .i64 b_8), (Value.int .i64 n20)] (World.drew w23) fun e236 w237 =>
  ∃ n234, ∃ b235, e236 = Ending.returned (Value.tuple #[(Value.int .i64 n234), (Value.bool b235)]) ∧
  V.lt (IntKind.wrap .i64 (Int.tdiv (IntKind.wrap .i64 (b_8 - a_7)) 8)) fun x238 =>
  V.sel (decide ((IntKind.wrap .i64 (n234 - a_7)) < (IntKind.wrap .i64 (b_8 - n234))))
  (Calls Try.prog 42 #[(Value.slice data_1 data_1l data_1c), (Value.int .i64 a_7), (Value.int .i64 n234), (Value.int .i64 (IntKind.wrap .i64 (limit_9 - 1)))] w237 fun e239 w240 =>
  e239 = Ending.returned undef ∧
  I5 (IntKind.wrap .i64 (n234 + 1)) b_8 (IntKind.wrap .i64 (limit_9 - 1)) (decide ((IntKind.wrap .i64 (n234 - a_7)) ≥ x238)) b235 w240 ∧ μ6 (IntKind.wrap .i64 (n234 + 1)) b_8 (IntKind.wrap .i64 (limit_9 - 1)) (decide ((IntKind.wrap .i64 (n234 - a_7)) ≥ x238)) b235 w240 < μ6 a_7 b_8 limit_9 wasBalanced_10 wasPartitioned_11 w13)
  (Calls Try.prog 42 #[(Value.slice data_1 data_1l data_1c), (Value.int .i64 (IntKind.wrap .i64 (n234 + 1))), (Value.int .i64 b_8), (Value.int .i64 (IntKind.wrap .i64 (limit_9 - 1)))] w237 fun e241 w242 =>
  e241 = Ending.returned undef ∧
  I5 a_7 n234 (IntKind.wrap .i64 (limit_9 - 1)) (decide ((IntKind.wrap .i64 (b_8 - n234)) ≥ x238)) b235 w242 ∧ μ6 a_7 n234 (IntKind.wrap .i64 (limit_9 - 1)) (decide ((IntKind.wrap .i64 (b_8 - n234)) ≥ x238)) b235 w242 < μ6 a_7 b_8 limit_9 wasBalanced_10 wasPartitioned_11 w13)))))
  (Calls Try.prog 50 #[(Value.slice data_1 data_1l data_1c), (Value.int .i64 a_7), (Value.int .i64 b_8)] w13 fun e245 w246 =>
  ∃ n243, ∃ n244, e245 = Ending.returned (Value.tuple #[(Value.int .i64 n243), (Value.int .i64 n244)]) ∧
  V.sel (n244 == 2)
  (Calls Try.prog 51 #[(Value.slice data_1 data_1l data_1c), (Value.int .i64 a_7), (Value.int .i64 b_8)] w246 fun e247 w248 =>
  e247 = Ending.returned undef ∧
  V.lt (IntKind.wrap .i64 ((IntKind.wrap .i64 (b_8 - 1)) - (IntKind.wrap .i64 (n243 - a_7)))) fun x249 =>
  V.sel wasBalanced_10
  (V.sel wasPartitioned_11
  (Calls Try.prog 52 #[(Value.slice data_1 data_1l data_1c), (Value.int .i64 a_7), (Value.int .i64 b_8)] w248 fun e251 w252 =>
  ∃ b250, e251 = Ending.returned (Value.bool b250) ∧
  V.sel b250
  (R (Ending.returned undef) w252)
  (∃ S253 : World → Prop, S253 (World.drew w252) ∧
  V.sel (decide (a_7 > 0))
  (V.when (decide ((0 : Int) ≤ (IntKind.wrap .i64 (a_7 - 1)) ∧ ((IntKind.wrap .i64 (a_7 - 1)) : Int) < ((data_1l : Nat) : Int))) (V.ptr data_1 fun a255 =>
  ∃ s256, (∀ w254, S253 w254 → World.cell? w254 (Addr.add a255 ((Int.toNat (IntKind.wrap .i64 (a_7 - 1))) * 1)) = some (Value.string s256)) ∧
  V.when (decide ((0 : Int) ≤ x249 ∧ (x249 : Int) < ((data_1l : Nat) : Int))) (V.ptr data_1 fun a257 =>
  ∃ s258, (∀ w254, S253 w254 → World.cell? w254 (Addr.add a257 ((Int.toNat x249) * 1)) = some (Value.string s258)) ∧
  Calls Try.prog 53 #[(Value.string s256), (Value.string s258)] (World.drew w252) fun e260 w261 =>
  ∃ b259, e260 = Ending.returned (Value.bool b259) ∧
  S253 w261 ∧
  V.sel (!b259)
  (Calls Try.prog 54 #[(Value.slice data_1 data_1l data_1c), (Value.int .i64 a_7), (Value.int .i64 b_8), (Value.int .i64 x249)] w261 fun e263 w264 =>
  ∃ n262, e263 = Ending.returned (Value.int .i64 n262) ∧
  I5 n262 b_8 limit_9 wasBalanced_10 wasPartitioned_11 w264 ∧ μ6 n262 b_8 limit_9 wasBalanced_10 wasPartitioned_11 w264 < μ6 a_7 b_8 limit_9 wasBalanced_10 wasPartitioned_11 w13)
  (Calls Try.prog 55 #[(Value.slice data_1 data_1l data_1c), (Value.int .i64 a_7), (Value.int .i64 b_8), (Value.int .i64 x249)] w261 fun e267 w268 =>
  ∃ n265, ∃ b266, e267 = Ending.returned (Value.tuple #[(Value.int .i64 n265), (Value.bool b266)]) ∧
  V.lt (IntKind.wrap .i64 (Int.tdiv (IntKind.wrap .i64 (b_8 - a_7)) 8)) fun x269 =>
  V.sel (decide ((IntKind.wrap .i64 (n265 - a_7)) < (IntKind.wrap .i64 (b_8 - n265))))
  (Calls Try.prog 42 #[(Value.slice data_1 data_1l data_1c), (Value.int .i64 a_7), (Value.int .i64 n265), (Value.int .i64 limit_9)] w268 fun e270 w271 =>
  e270 = Ending.returned undef ∧
  I5 (IntKind.wrap .i64 (n265 + 1)) b_8 limit_9 (decide ((IntKind.wrap .i64 (n265 - a_7)) ≥ x269)) b266 w271 ∧ μ6 (IntKind.wrap .i64 (n265 + 1)) b_8 limit_9 (decide ((IntKind.wrap .i64 (n265 - a_7)) ≥ x269)) b266 w271 < μ6 a_7 b_8 limit_9 wasBalanced_10 wasPartitioned_11 w13)
  (Calls Try.prog 42 #[(Value.slice data_1 data_1l data_1c), (Value.int .i64 (IntKind.wrap .i64 (n265 + 1))), (Value.int .i64 b_8), (Value.int .i64 limit_9)] w268 fun e272 w273 =>
  e272 = Ending.returned undef ∧
  I5 a_7 n265 limit_9 (decide ((IntKind.wrap .i64 (b_8 - n265)) ≥ x269)) b266 w273 ∧ μ6 a_7 n265 limit_9 (decide ((IntKind.wrap .i64 (b_8 - n265)) ≥ x269)) b266 w273 < μ6 a_7 b_8 limit_9 wasBalanced_10 wasPartitioned_11 w13)))))
  (Calls Try.prog 55 #[(Value.slice data_1 data_1l data_1c), (Value.int .i64 a_7), (Value.int .i64 b_8), (Value.int .i64 x249)] (World.drew w252) fun e276 w277 =>
  ∃ n274, ∃ b275, e276 = Ending.returned (Value.tuple #[(Value.int .i64 n274), (Value.bool b275)]) ∧
  V.lt (IntKind.wrap .i64 (Int.tdiv (IntKind.wrap .i64 (b_8 - a_7)) 8)) fun x278 =>
  V.sel (decide ((IntKind.wrap .i64 (n274 - a_7)) < (IntKind.wrap .i64 (b_8 - n274))))
  (Calls Try.prog 42 #[(Value.slice data_1 data_1l data_1c), (Value.int .i64 a_7), (Value.int .i64 n274), (Value.int .i64 limit_9)] w277 fun e279 w280 =>
  e279 = Ending.returned undef ∧
  I5 (IntKind.wrap .i64 (n274 + 1)) b_8 limit_9 (decide ((IntKind.wrap .i64 (n274 - a_7)) ≥ x278)) b275 w280 ∧ μ6 (IntKind.wrap .i64 (n274 + 1)) b_8 limit_9 (decide ((IntKind.wrap .i64 (n274 - a_7)) ≥ x278)) b275 w280 < μ6 a_7 b_8 limit_9 wasBalanced_10 wasPartitioned_11 w13)
  (Calls Try.prog 42 #[(Value.slice data_1 data_1l data_1c), (Value.int .i64 (IntKind.wrap .i64 (n274 + 1))), (Value.int .i64 b_8), (Value.int .i64 limit_9)] w277 fun e281 w282 =>
  e281 = Ending.returned undef ∧
  I5 a_7 n274 limit_9 (decide ((IntKind.wrap .i64 (b_8 - n274)) ≥ x278)) b275 w282 ∧ μ6 a_7 n274 limit_9 (decide ((IntKind.wrap .i64 (b_8 - n274)) ≥ x278)) b275 w282 < μ6 a_7 b_8 limit_9 wasBalanced_10 wasPartitioned_11 w13))))
  (∃ S283 : World → Prop, S283 (World.drew w248) ∧
  V.sel (decide (a_7 > 0))
  (V.when (decide ((0 : Int) ≤ (IntKind.wrap .i64 (a_7 - 1)) ∧ ((IntKind.wrap .i64 (a_7 - 1)) : Int) < ((data_1l : Nat) : Int))) (V.ptr data_1 fun a285 =>
  ∃ s286, (∀ w284, S283 w284 → World.cell? w284 (Addr.add a285 ((Int.toNat (IntKind.wrap .i64 (a_7 - 1))) * 1)) = some (Value.string s286)) ∧
  V.when (decide ((0 : Int) ≤ x249 ∧ (x249 : Int) < ((data_1l : Nat) : Int))) (V.ptr data_1 fun a287 =>
  ∃ s288, (∀ w284, S283 w284 → World.cell? w284 (Addr.add a287 ((Int.toNat x249) * 1)) = some (Value.string s288)) ∧
  Calls Try.prog 53 #[(Value.string s286), (Value.string s288)] (World.drew w248) fun e290 w291 =>
  ∃ b289, e290 = Ending.returned (Value.bool b289) ∧
  S283 w291 ∧
  V.sel (!b289)
  (Calls Try.prog 54 #[(Value.slice data_1 data_1l data_1c), (Value.int .i64 a_7), (Value.int .i64 b_8), (Value.int .i64 x249)] w291 fun e293 w294 =>
  ∃ n292, e293 = Ending.returned (Value.int .i64 n292) ∧
  I5 n292 b_8 limit_9 wasBalanced_10 wasPartitioned_11 w294 ∧ μ6 n292 b_8 limit_9 wasBalanced_10 wasPartitioned_11 w294 < μ6 a_7 b_8 limit_9 wasBalanced_10 wasPartitioned_11 w13)
  (Calls Try.prog 55 #[(Value.slice data_1 data_1l data_1c), (Value.int .i64 a_7), (Value.int .i64 b_8), (Value.int .i64 x249)] w291 fun e297 w298 =>
  ∃ n295, ∃ b296, e297 = Ending.returned (Value.tuple #[(Value.int .i64 n295), (Value.bool b296)]) ∧
  V.lt (IntKind.wrap .i64 (Int.tdiv (IntKind.wrap .i64 (b_8 - a_7)) 8)) fun x299 =>
  V.sel (decide ((IntKind.wrap .i64 (n295 - a_7)) < (IntKind.wrap .i64 (b_8 - n295))))
  (Calls Try.prog 42 #[(Value.slice data_1 data_1l data_1c), (Value.int .i64 a_7), (Value.int .i64 n295), (Value.int .i64 limit_9)] w298 fun e300 w301 =>
  e300 = Ending.returned undef ∧
  I5 (IntKind.wrap .i64 (n295 + 1)) b_8 limit_9 (decide ((IntKind.wrap .i64 (n295 - a_7)) ≥ x299)) b296 w301 ∧ μ6 (IntKind.wrap .i64 (n295 + 1)) b_8 limit_9 (decide ((IntKind.wrap .i64 (n295 - a_7)) ≥ x299)) b296 w301 < μ6 a_7 b_8 limit_9 wasBalanced_10 wasPartitioned_11 w13)
  (Calls Try.prog 42 #[(Value.slice data_1 data_1l data_1c), (Value.int .i64 (IntKind.wrap .i64 (n295 + 1))), (Value.int .i64 b_8), (Value.int .i64 limit_9)] w298 fun e302 w303 =>
  e302 = Ending.returned undef ∧
  I5 a_7 n295 limit_9 (decide ((IntKind.wrap .i64 (b_8 - n295)) ≥ x299)) b296 w303 ∧ μ6 a_7 n295 limit_9 (decide ((IntKind.wrap .i64 (b_8 - n295)) ≥ x299)) b296 w303 < μ6 a_7 b_8 limit_9 wasBalanced_10 wasPartitioned_11 w13)))))
  (Calls Try.prog 55 #[(Value.slice data_1 data_1l data_1c), (Value.int .i64 a_7), (Value.int .i64 b_8), (Value.int .i64 x249)] (World.drew w248) fun e306 w307 =>
  ∃ n304, ∃ b305, e306 = Ending.returned (Value.tuple #[(Value.int .i64 n304), (Value.bool b305)]) ∧
  V.lt (IntKind.wrap .i64 (Int.tdiv (IntKind.wrap .i64 (b_8 - a_7)) 8)) fun x308 =>
  V.sel (decide ((IntKind.wrap .i64 (n304 - a_7)) < (IntKind.wrap .i64 (b_8 - n304))))
  (Calls Try.prog 42 #[(Value.slice data_1 data_1l data_1c), (Value.int .i64 a_7), (Value.int .i64 n304), (Value.int .i64 limit_9)] w307 fun e309 w310 =>
  e309 = Ending.returned undef ∧
  I5 (IntKind.wrap .i64 (n304 + 1)) b_8 limit_9 (decide ((IntKind.wrap .i64 (n304 - a_7)) ≥ x308)) b305 w310 ∧ μ6 (IntKind.wrap .i64 (n304 + 1)) b_8 limit_9 (decide ((IntKind.wrap .i64 (n304 - a_7)) ≥ x308)) b305 w310 < μ6 a_7 b_8 limit_9 wasBalanced_10 wasPartitioned_11 w13)
  (Calls Try.prog 42 #[(Value.slice data_1 data_1l data_1c), (Value.int .i64 (IntKind.wrap .i64 (n304 + 1))), (Value.int .i64 b_8), (Value.int .i64 limit_9)] w307 fun e311 w312 =>
  e311 = Ending.returned undef ∧
  I5 a_7 n304 limit_9 (decide ((IntKind.wrap .i64 (b_8 - n304)) ≥ x308)) b305 w312 ∧ μ6 a_7 n304 limit_9 (decide ((IntKind.wrap .i64 (b_8 - n304)) ≥ x308)) b305 w312 < μ6 a_7 b_8 limit_9 wasBalanced_10 wasPartitioned_11 w13))))
  (∃ S313 : World → Prop, S313 (World.drew w248) ∧
  V.sel (decide (a_7 > 0))
  (V.when (decide ((0 : Int) ≤ (IntKind.wrap .i64 (a_7 - 1)) ∧ ((IntKind.wrap .i64 (a_7 - 1)) : Int) < ((data_1l : Nat) : Int))) (V.ptr data_1 fun a315 =>
  ∃ s316, (∀ w314, S313 w314 → World.cell? w314 (Addr.add a315 ((Int.toNat (IntKind.wrap .i64 (a_7 - 1))) * 1)) = some (Value.string s316)) ∧
  V.when (decide ((0 : Int) ≤ x249 ∧ (x249 : Int) < ((data_1l : Nat) : Int))) (V.ptr data_1 fun a317 =>
  ∃ s318, (∀ w314, S313 w314 → World.cell? w314 (Addr.add a317 ((Int.toNat x249) * 1)) = some (Value.string s318)) ∧
  Calls Try.prog 53 #[(Value.string s316), (Value.string s318)] (World.drew w248) fun e320 w321 =>
  ∃ b319, e320 = Ending.returned (Value.bool b319) ∧
  S313 w321 ∧
  V.sel (!b319)
  (Calls Try.prog 54 #[(Value.slice data_1 data_1l data_1c), (Value.int .i64 a_7), (Value.int .i64 b_8), (Value.int .i64 x249)] w321 fun e323 w324 =>
  ∃ n322, e323 = Ending.returned (Value.int .i64 n322) ∧
  I5 n322 b_8 limit_9 wasBalanced_10 wasPartitioned_11 w324 ∧ μ6 n322 b_8 limit_9 wasBalanced_10 wasPartitioned_11 w324 < μ6 a_7 b_8 limit_9 wasBalanced_10 wasPartitioned_11 w13)
  (Calls Try.prog 55 #[(Value.slice data_1 data_1l data_1c), (Value.int .i64 a_7), (Value.int .i64 b_8), (Value.int .i64 x249)] w321 fun e327 w328 =>
  ∃ n325, ∃ b326, e327 = Ending.returned (Value.tuple #[(Value.int .i64 n325), (Value.bool b326)]) ∧
  V.lt (IntKind.wrap .i64 (Int.tdiv (IntKind.wrap .i64 (b_8 - a_7)) 8)) fun x329 =>
  V.sel (decide ((IntKind.wrap .i64 (n325 - a_7)) < (IntKind.wrap .i64 (b_8 - n325))))
  (Calls Try.prog 42 #[(Value.slice data_1 data_1l data_1c), (Value.int .i64 a_7), (Value.int .i64 n325), (Value.int .i64 limit_9)] w328 fun e330 w331 =>
  e330 = Ending.returned undef ∧
  I5 (IntKind.wrap .i64 (n325 + 1)) b_8 limit_9 (decide ((IntKind.wrap .i64 (n325 - a_7)) ≥ x329)) b326 w331 ∧ μ6 (IntKind.wrap .i64 (n325 + 1)) b_8 limit_9 (decide ((IntKind.wrap .i64 (n325 - a_7)) ≥ x329)) b326 w331 < μ6 a_7 b_8 limit_9 wasBalanced_10 wasPartitioned_11 w13)
  (Calls Try.prog 42 #[(Value.slice data_1 data_1l data_1c), (Value.int .i64 (IntKind.wrap .i64 (n325 + 1))), (Value.int .i64 b_8), (Value.int .i64 limit_9)] w328 fun e332 w333 =>
  e332 = Ending.returned undef ∧
  I5 a_7 n325 limit_9 (decide ((IntKind.wrap .i64 (b_8 - n325)) ≥ x329)) b326 w333 ∧ μ6 a_7 n325 limit_9 (decide ((IntKind.wrap .i64 (b_8 - n325)) ≥ x329)) b326 w333 < μ6 a_7 b_8 limit_9 wasBalanced_10 wasPartitioned_11 w13)))))
  (Calls Try.prog 55 #[(Value.slice data_1 data_1l data_1c), (Value.int .i64 a_7), (Value.int .i64 b_8), (Value.int .i64 x249)] (World.drew w248) fun e336 w337 =>
  ∃ n334, ∃ b335, e336 = Ending.returned (Value.tuple #[(Value.int .i64 n334), (Value.bool b335)]) ∧
  V.lt (IntKind.wrap .i64 (Int.tdiv (IntKind.wrap .i64 (b_8 - a_7)) 8)) fun x338 =>
  V.sel (decide ((IntKind.wrap .i64 (n334 - a_7)) < (IntKind.wrap .i64 (b_8 - n334))))
  (Calls Try.prog 42 #[(Value.slice data_1 data_1l data_1c), (Value.int .i64 a_7), (Value.int .i64 n334), (Value.int .i64 limit_9)] w337 fun e339 w340 =>
  e339 = Ending.returned undef ∧
  I5 (IntKind.wrap .i64 (n334 + 1)) b_8 limit_9 (decide ((IntKind.wrap .i64 (n334 - a_7)) ≥ x338)) b335 w340 ∧ μ6 (IntKind.wrap .i64 (n334 + 1)) b_8 limit_9 (decide ((IntKind.wrap .i64 (n334 - a_7)) ≥ x338)) b335 w340 < μ6 a_7 b_8 limit_9 wasBalanced_10 wasPartitioned_11 w13)
  (Calls Try.prog 42 #[(Value.slice data_1 data_1l data_1c), (Value.int .i64 (IntKind.wrap .i64 (n334 + 1))), (Value.int .i64 b_8), (Value.int .i64 limit_9)] w337 fun e341 w342 =>
  e341 = Ending.returned undef ∧
  I5 a_7 n334 limit_9 (decide ((IntKind.wrap .i64 (b_8 - n334)) ≥ x338)) b335 w342 ∧ μ6 a_7 n334 limit_9 (decide ((IntKind.wrap .i64 (b_8 - n334)) ≥ x338)) b335 w342 < μ6 a_7 b_8 limit_9 wasBalanced_10 wasPartitioned_11 w13))))
  (V.sel wasBalanced_10
  (V.sel wasPartitioned_11
  (V.sel (n244 == 1)
  (Calls Try.prog 52 #[(Value.slice data_1 data_1l data_1c), (Value.int .i64 a_7), (Value.int .i64 b_8)] w246 fun e344 w345 =>
  ∃ b343, e344 = Ending.returned (Value.bool b343) ∧
  V.sel b343
  (R (Ending.returned undef) w345)
  (∃ S346 : World → Prop, S346 (World.drew w345) ∧
  V.sel (decide (a_7 > 0))
  (V.when (decide ((0 : Int) ≤ (IntKind.wrap .i64 (a_7 - 1)) ∧ ((IntKind.wrap .i64 (a_7 - 1)) : Int) < ((data_1l : Nat) : Int))) (V.ptr data_1 fun a348 =>
  ∃ s349, (∀ w347, S346 w347 → World.cell? w347 (Addr.add a348 ((Int.toNat (IntKind.wrap .i64 (a_7 - 1))) * 1)) = some (Value.string s349)) ∧
  V.when (decide ((0 : Int) ≤ n243 ∧ (n243 : Int) < ((data_1l : Nat) : Int))) (V.ptr data_1 fun a350 =>
  ∃ s351, (∀ w347, S346 w347 → World.cell? w347 (Addr.add a350 ((Int.toNat n243) * 1)) = some (Value.string s351)) ∧
  Calls Try.prog 53 #[(Value.string s349), (Value.string s351)] (World.drew w345) fun e353 w354 =>
  ∃ b352, e353 = Ending.returned (Value.bool b352) ∧
  S346 w354 ∧
  V.sel (!b352)
  (Calls Try.prog 54 #[(Value.slice data_1 data_1l data_1c), (Value.int .i64 a_7), (Value.int .i64 b_8), (Value.int .i64 n243)] w354 fun e356 w357 =>
  ∃ n355, e356 = Ending.returned (Value.int .i64 n355) ∧
  I5 n355 b_8 limit_9 wasBalanced_10 wasPartitioned_11 w357 ∧ μ6 n355 b_8 limit_9 wasBalanced_10 wasPartitioned_11 w357 < μ6 a_7 b_8 limit_9 wasBalanced_10 wasPartitioned_11 w13)
  (Calls Try.prog 55 #[(Value.slice data_1 data_1l data_1c), (Value.int .i64 a_7), (Value.int .i64 b_8), (Value.int .i64 n243)] w354 fun e360 w361 =>
  ∃ n358, ∃ b359, e360 = Ending.returned (Value.tuple #[(Value.int .i64 n358), (Value.bool b359)]) ∧
  V.lt (IntKind.wrap .i64 (Int.tdiv (IntKind.wrap .i64 (b_8 - a_7)) 8)) fun x362 =>
  V.sel (decide ((IntKind.wrap .i64 (n358 - a_7)) < (IntKind.wrap .i64 (b_8 - n358))))
  (Calls Try.prog 42 #[(Value.slice data_1 data_1l data_1c), (Value.int .i64 a_7), (Value.int .i64 n358), (Value.int .i64 limit_9)] w361 fun e363 w364 =>
  e363 = Ending.returned undef ∧
  I5 (IntKind.wrap .i64 (n358 + 1)) b_8 limit_9 (decide ((IntKind.wrap .i64 (n358 - a_7)) ≥ x362)) b359 w364 ∧ μ6 (IntKind.wrap .i64 (n358 + 1)) b_8 limit_9 (decide ((IntKind.wrap .i64 (n358 - a_7)) ≥ x362)) b359 w364 < μ6 a_7 b_8 limit_9 wasBalanced_10 wasPartitioned_11 w13)
  (Calls Try.prog 42 #[(Value.slice data_1 data_1l data_1c), (Value.int .i64 (IntKind.wrap .i64 (n358 + 1))), (Value.int .i64 b_8), (Value.int .i64 limit_9)] w361 fun e365 w366 =>
  e365 = Ending.returned undef ∧
  I5 a_7 n358 limit_9 (decide ((IntKind.wrap .i64 (b_8 - n358)) ≥ x362)) b359 w366 ∧ μ6 a_7 n358 limit_9 (decide ((IntKind.wrap .i64 (b_8 - n358)) ≥ x362)) b359 w366 < μ6 a_7 b_8 limit_9 wasBalanced_10 wasPartitioned_11 w13)))))
  (Calls Try.prog 55 #[(Value.slice data_1 data_1l data_1c), (Value.int .i64 a_7), (Value.int .i64 b_8), (Value.int .i64 n243)] (World.drew w345) fun e369 w370 =>
  ∃ n367, ∃ b368, e369 = Ending.returned (Value.tuple #[(Value.int .i64 n367), (Value.bool b368)]) ∧
  V.lt (IntKind.wrap .i64 (Int.tdiv (IntKind.wrap .i64 (b_8 - a_7)) 8)) fun x371 =>
  V.sel (decide ((IntKind.wrap .i64 (n367 - a_7)) < (IntKind.wrap .i64 (b_8 - n367))))
  (Calls Try.prog 42 #[(Value.slice data_1 data_1l data_1c), (Value.int .i64 a_7), (Value.int .i64 n367), (Value.int .i64 limit_9)] w370 fun e372 w373 =>
  e372 = Ending.returned undef ∧
  I5 (IntKind.wrap .i64 (n367 + 1)) b_8 limit_9 (decide ((IntKind.wrap .i64 (n367 - a_7)) ≥ x371)) b368 w373 ∧ μ6 (IntKind.wrap .i64 (n367 + 1)) b_8 limit_9 (decide ((IntKind.wrap .i64 (n367 - a_7)) ≥ x371)) b368 w373 < μ6 a_7 b_8 limit_9 wasBalanced_10 wasPartitioned_11 w13)
  (Calls Try.prog 42 #[(Value.slice data_1 data_1l data_1c), (Value.int .i64 (IntKind.wrap .i64 (n367 + 1))), (Value.int .i64 b_8), (Value.int .i64 limit_9)] w370 fun e374 w375 =>
  e374 = Ending.returned undef ∧
  I5 a_7 n367 limit_9 (decide ((IntKind.wrap .i64 (b_8 - n367)) ≥ x371)) b368 w375 ∧ μ6 a_7 n367 limit_9 (decide ((IntKind.wrap .i64 (b_8 - n367)) ≥ x371)) b368 w375 < μ6 a_7 b_8 limit_9 wasBalanced_10 wasPartitioned_11 w13))))
  (∃ S376 : World → Prop, S376 (World.drew w246) ∧
  V.sel (decide (a_7 > 0))
  (V.when (decide ((0 : Int) ≤ (IntKind.wrap .i64 (a_7 - 1)) ∧ ((IntKind.wrap .i64 (a_7 - 1)) : Int) < ((data_1l : Nat) : Int))) (V.ptr data_1 fun a378 =>
  ∃ s379, (∀ w377, S376 w377 → World.cell? w377 (Addr.add a378 ((Int.toNat (IntKind.wrap .i64 (a_7 - 1))) * 1)) = some (Value.string s379)) ∧
  V.when (decide ((0 : Int) ≤ n243 ∧ (n243 : Int) < ((data_1l : Nat) : Int))) (V.ptr data_1 fun a380 =>
  ∃ s381, (∀ w377, S376 w377 → World.cell? w377 (Addr.add a380 ((Int.toNat n243) * 1)) = some (Value.string s381)) ∧
  Calls Try.prog 53 #[(Value.string s379), (Value.string s381)] (World.drew w246) fun e383 w384 =>
  ∃ b382, e383 = Ending.returned (Value.bool b382) ∧
  S376 w384 ∧
  V.sel (!b382)
  (Calls Try.prog 54 #[(Value.slice data_1 data_1l data_1c), (Value.int .i64 a_7), (Value.int .i64 b_8), (Value.int .i64 n243)] w384 fun e386 w387 =>
  ∃ n385, e386 = Ending.returned (Value.int .i64 n385) ∧
  I5 n385 b_8 limit_9 wasBalanced_10 wasPartitioned_11 w387 ∧ μ6 n385 b_8 limit_9 wasBalanced_10 wasPartitioned_11 w387 < μ6 a_7 b_8 limit_9 wasBalanced_10 wasPartitioned_11 w13)
  (Calls Try.prog 55 #[(Value.slice data_1 data_1l data_1c), (Value.int .i64 a_7), (Value.int .i64 b_8), (Value.int .i64 n243)] w384 fun e390 w391 =>
  ∃ n388, ∃ b389, e390 = Ending.returned (Value.tuple #[(Value.int .i64 n388), (Value.bool b389)]) ∧
  V.lt (IntKind.wrap .i64 (Int.tdiv (IntKind.wrap .i64 (b_8 - a_7)) 8)) fun x392 =>
  V.sel (decide ((IntKind.wrap .i64 (n388 - a_7)) < (IntKind.wrap .i64 (b_8 - n388))))
  (Calls Try.prog 42 #[(Value.slice data_1 data_1l data_1c), (Value.int .i64 a_7), (Value.int .i64 n388), (Value.int .i64 limit_9)] w391 fun e393 w394 =>
  e393 = Ending.returned undef ∧
  I5 (IntKind.wrap .i64 (n388 + 1)) b_8 limit_9 (decide ((IntKind.wrap .i64 (n388 - a_7)) ≥ x392)) b389 w394 ∧ μ6 (IntKind.wrap .i64 (n388 + 1)) b_8 limit_9 (decide ((IntKind.wrap .i64 (n388 - a_7)) ≥ x392)) b389 w394 < μ6 a_7 b_8 limit_9 wasBalanced_10 wasPartitioned_11 w13)
  (Calls Try.prog 42 #[(Value.slice data_1 data_1l data_1c), (Value.int .i64 (IntKind.wrap .i64 (n388 + 1))), (Value.int .i64 b_8), (Value.int .i64 limit_9)] w391 fun e395 w396 =>
  e395 = Ending.returned undef ∧
  I5 a_7 n388 limit_9 (decide ((IntKind.wrap .i64 (b_8 - n388)) ≥ x392)) b389 w396 ∧ μ6 a_7 n388 limit_9 (decide ((IntKind.wrap .i64 (b_8 - n388)) ≥ x392)) b389 w396 < μ6 a_7 b_8 limit_9 wasBalanced_10 wasPartitioned_11 w13)))))
  (Calls Try.prog 55 #[(Value.slice data_1 data_1l data_1c), (Value.int .i64 a_7), (Value.int .i64 b_8), (Value.int .i64 n243)] (World.drew w246) fun e399 w400 =>
  ∃ n397, ∃ b398, e399 = Ending.returned (Value.tuple #[(Value.int .i64 n397), (Value.bool b398)]) ∧
  V.lt (IntKind.wrap .i64 (Int.tdiv (IntKind.wrap .i64 (b_8 - a_7)) 8)) fun x401 =>
  V.sel (decide ((IntKind.wrap .i64 (n397 - a_7)) < (IntKind.wrap .i64 (b_8 - n397))))
  (Calls Try.prog 42 #[(Value.slice data_1 data_1l data_1c), (Value.int .i64 a_7), (Value.int .i64 n397), (Value.int .i64 limit_9)] w400 fun e402 w403 =>
  e402 = Ending.returned undef ∧
  I5 (IntKind.wrap .i64 (n397 + 1)) b_8 limit_9 (decide ((IntKind.wrap .i64 (n397 - a_7)) ≥ x401)) b398 w403 ∧ μ6 (IntKind.wrap .i64 (n397 + 1)) b_8 limit_9 (decide ((IntKind.wrap .i64 (n397 - a_7)) ≥ x401)) b398 w403 < μ6 a_7 b_8 limit_9 wasBalanced_10 wasPartitioned_11 w13)
  (Calls Try.prog 42 #[(Value.slice data_1 data_1l data_1c), (Value.int .i64 (IntKind.wrap .i64 (n397 + 1))), (Value.int .i64 b_8), (Value.int .i64 limit_9)] w400 fun e404 w405 =>
  e404 = Ending.returned undef ∧
  I5 a_7 n397 limit_9 (decide ((IntKind.wrap .i64 (b_8 - n397)) ≥ x401)) b398 w405 ∧ μ6 a_7 n397 limit_9 (decide ((IntKind.wrap .i64 (b_8 - n397)) ≥ x401)) b398 w405 < μ6 a_7 b_8 limit_9 wasBalanced_10 wasPartitioned_11 w13))))
  (∃ S406 : World → Prop, S406 (World.drew w246) ∧
  V.sel (decide (a_7 > 0))
  (V.when (decide ((0 : Int) ≤ (IntKind.wrap .i64 (a_7 - 1)) ∧ ((IntKind.wrap .i64 (a_7 - 1)) : Int) < ((data_1l : Nat) : Int))) (V.ptr data_1 fun a408 =>
  ∃ s409, (∀ w407, S406 w407 → World.cell? w407 (Addr.add a408 ((Int.toNat (IntKind.wrap .i64 (a_7 - 1))) * 1)) = some (Value.string s409)) ∧
  V.when (decide ((0 : Int) ≤ n243 ∧ (n243 : Int) < ((data_1l : Nat) : Int))) (V.ptr data_1 fun a410 =>
  ∃ s411, (∀ w407, S406 w407 → World.cell? w407 (Addr.add a410 ((Int.toNat n243) * 1)) = some (Value.string s411)) ∧
  Calls Try.prog 53 #[(Value.string s409), (Value.string s411)] (World.drew w246) fun e413 w414 =>
  ∃ b412, e413 = Ending.returned (Value.bool b412) ∧
  S406 w414 ∧
  V.sel (!b412)
  (Calls Try.prog 54 #[(Value.slice data_1 data_1l data_1c), (Value.int .i64 a_7), (Value.int .i64 b_8), (Value.int .i64 n243)] w414 fun e416 w417 =>
  ∃ n415, e416 = Ending.returned (Value.int .i64 n415) ∧
  I5 n415 b_8 limit_9 wasBalanced_10 wasPartitioned_11 w417 ∧ μ6 n415 b_8 limit_9 wasBalanced_10 wasPartitioned_11 w417 < μ6 a_7 b_8 limit_9 wasBalanced_10 wasPartitioned_11 w13)
  (Calls Try.prog 55 #[(Value.slice data_1 data_1l data_1c), (Value.int .i64 a_7), (Value.int .i64 b_8), (Value.int .i64 n243)] w414 fun e420 w421 =>
  ∃ n418, ∃ b419, e420 = Ending.returned (Value.tuple #[(Value.int .i64 n418), (Value.bool b419)]) ∧
  V.lt (IntKind.wrap .i64 (Int.tdiv (IntKind.wrap .i64 (b_8 - a_7)) 8)) fun x422 =>
  V.sel (decide ((IntKind.wrap .i64 (n418 - a_7)) < (IntKind.wrap .i64 (b_8 - n418))))
  (Calls Try.prog 42 #[(Value.slice data_1 data_1l data_1c), (Value.int .i64 a_7), (Value.int .i64 n418), (Value.int .i64 limit_9)] w421 fun e423 w424 =>
  e423 = Ending.returned undef ∧
  I5 (IntKind.wrap .i64 (n418 + 1)) b_8 limit_9 (decide ((IntKind.wrap .i64 (n418 - a_7)) ≥ x422)) b419 w424 ∧ μ6 (IntKind.wrap .i64 (n418 + 1)) b_8 limit_9 (decide ((IntKind.wrap .i64 (n418 - a_7)) ≥ x422)) b419 w424 < μ6 a_7 b_8 limit_9 wasBalanced_10 wasPartitioned_11 w13)
  (Calls Try.prog 42 #[(Value.slice data_1 data_1l data_1c), (Value.int .i64 (IntKind.wrap .i64 (n418 + 1))), (Value.int .i64 b_8), (Value.int .i64 limit_9)] w421 fun e425 w426 =>
  e425 = Ending.returned undef ∧
  I5 a_7 n418 limit_9 (decide ((IntKind.wrap .i64 (b_8 - n418)) ≥ x422)) b419 w426 ∧ μ6 a_7 n418 limit_9 (decide ((IntKind.wrap .i64 (b_8 - n418)) ≥ x422)) b419 w426 < μ6 a_7 b_8 limit_9 wasBalanced_10 wasPartitioned_11 w13)))))
  (Calls Try.prog 55 #[(Value.slice data_1 data_1l data_1c), (Value.int .i64 a_7), (Value.int .i64 b_8), (Value.int .i64 n243)] (World.drew w246) fun e429 w430 =>
  ∃ n427, ∃ b428, e429 = Ending.returned (Value.tuple #[(Value.int .i64 n427), (Value.bool b428)]) ∧
  V.lt (IntKind.wrap .i64 (Int.tdiv (IntKind.wrap .i64 (b_8 - a_7)) 8)) fun x431 =>
  V.sel (decide ((IntKind.wrap .i64 (n427 - a_7)) < (IntKind.wrap .i64 (b_8 - n427))))
  (Calls Try.prog 42 #[(Value.slice data_1 data_1l data_1c), (Value.int .i64 a_7), (Value.int .i64 n427), (Value.int .i64 limit_9)] w430 fun e432 w433 =>
  e432 = Ending.returned undef ∧
  I5 (IntKind.wrap .i64 (n427 + 1)) b_8 limit_9 (decide ((IntKind.wrap .i64 (n427 - a_7)) ≥ x431)) b428 w433 ∧ μ6 (IntKind.wrap .i64 (n427 + 1)) b_8 limit_9 (decide ((IntKind.wrap .i64 (n427 - a_7)) ≥ x431)) b428 w433 < μ6 a_7 b_8 limit_9 wasBalanced_10 wasPartitioned_11 w13)
  (Calls Try.prog 42 #[(Value.slice data_1 data_1l data_1c), (Value.int .i64 (IntKind.wrap .i64 (n427 + 1))), (Value.int .i64 b_8), (Value.int .i64 limit_9)] w430 fun e434 w435 =>
  e434 = Ending.returned undef ∧
  I5 a_7 n427 limit_9 (decide ((IntKind.wrap .i64 (b_8 - n427)) ≥ x431)) b428 w435 ∧ μ6 a_7 n427 limit_9 (decide ((IntKind.wrap .i64 (b_8 - n427)) ≥ x431)) b428 w435 < μ6 a_7 b_8 limit_9 wasBalanced_10 wasPartitioned_11 w13))))
  (∃ S436 : World → Prop, S436 (World.drew w246) ∧
  V.sel (decide (a_7 > 0))
  (V.when (decide ((0 : Int) ≤ (IntKind.wrap .i64 (a_7 - 1)) ∧ ((IntKind.wrap .i64 (a_7 - 1)) : Int) < ((data_1l : Nat) : Int))) (V.ptr data_1 fun a438 =>
  ∃ s439, (∀ w437, S436 w437 → World.cell? w437 (Addr.add a438 ((Int.toNat (IntKind.wrap .i64 (a_7 - 1))) * 1)) = some (Value.string s439)) ∧
  V.when (decide ((0 : Int) ≤ n243 ∧ (n243 : Int) < ((data_1l : Nat) : Int))) (V.ptr data_1 fun a440 =>
  ∃ s441, (∀ w437, S436 w437 → World.cell? w437 (Addr.add a440 ((Int.toNat n243) * 1)) = some (Value.string s441)) ∧
  Calls Try.prog 53 #[(Value.string s439), (Value.string s441)] (World.drew w246) fun e443 w444 =>
  ∃ b442, e443 = Ending.returned (Value.bool b442) ∧
  S436 w444 ∧
  V.sel (!b442)
  (Calls Try.prog 54 #[(Value.slice data_1 data_1l data_1c), (Value.int .i64 a_7), (Value.int .i64 b_8), (Value.int .i64 n243)] w444 fun e446 w447 =>
  ∃ n445, e446 = Ending.returned (Value.int .i64 n445) ∧
  I5 n445 b_8 limit_9 wasBalanced_10 wasPartitioned_11 w447 ∧ μ6 n445 b_8 limit_9 wasBalanced_10 wasPartitioned_11 w447 < μ6 a_7 b_8 limit_9 wasBalanced_10 wasPartitioned_11 w13)
  (Calls Try.prog 55 #[(Value.slice data_1 data_1l data_1c), (Value.int .i64 a_7), (Value.int .i64 b_8), (Value.int .i64 n243)] w444 fun e450 w451 =>
  ∃ n448, ∃ b449, e450 = Ending.returned (Value.tuple #[(Value.int .i64 n448), (Value.bool b449)]) ∧
  V.lt (IntKind.wrap .i64 (Int.tdiv (IntKind.wrap .i64 (b_8 - a_7)) 8)) fun x452 =>
  V.sel (decide ((IntKind.wrap .i64 (n448 - a_7)) < (IntKind.wrap .i64 (b_8 - n448))))
  (Calls Try.prog 42 #[(Value.slice data_1 data_1l data_1c), (Value.int .i64 a_7), (Value.int .i64 n448), (Value.int .i64 limit_9)] w451 fun e453 w454 =>
  e453 = Ending.returned undef ∧
  I5 (IntKind.wrap .i64 (n448 + 1)) b_8 limit_9 (decide ((IntKind.wrap .i64 (n448 - a_7)) ≥ x452)) b449 w454 ∧ μ6 (IntKind.wrap .i64 (n448 + 1)) b_8 limit_9 (decide ((IntKind.wrap .i64 (n448 - a_7)) ≥ x452)) b449 w454 < μ6 a_7 b_8 limit_9 wasBalanced_10 wasPartitioned_11 w13)
  (Calls Try.prog 42 #[(Value.slice data_1 data_1l data_1c), (Value.int .i64 (IntKind.wrap .i64 (n448 + 1))), (Value.int .i64 b_8), (Value.int .i64 limit_9)] w451 fun e455 w456 =>
  e455 = Ending.returned undef ∧
  I5 a_7 n448 limit_9 (decide ((IntKind.wrap .i64 (b_8 - n448)) ≥ x452)) b449 w456 ∧ μ6 a_7 n448 limit_9 (decide ((IntKind.wrap .i64 (b_8 - n448)) ≥ x452)) b449 w456 < μ6 a_7 b_8 limit_9 wasBalanced_10 wasPartitioned_11 w13)))))
  (Calls Try.prog 55 #[(Value.slice data_1 data_1l data_1c), (Value.int .i64 a_7), (Value.int .i64 b_8), (Value.int .i64 n243)] (World.drew w246) fun e459 w460 =>
  ∃ n457, ∃ b458, e459 = Ending.returned (Value.tuple #[(Value.int .i64 n457), (Value.bool b458)]) ∧
  V.lt (IntKind.wrap .i64 (Int.tdiv (IntKind.wrap .i64 (b_8 - a_7)) 8)) fun x461 =>
  V.sel (decide ((IntKind.wrap .i64 (n457 - a_7)) < (IntKind.wrap .i64 (b_8 - n457))))
  (Calls Try.prog 42 #[(Value.slice data_1 data_1l data_1c), (Value.int .i64 a_7), (Value.int .i64 n457), (Value.int .i64 limit_9)] w460 fun e462 w463 =>
  e462 = Ending.returned undef ∧
  I5 (IntKind.wrap .i64 (n457 + 1)) b_8 limit_9 (decide ((IntKind.wrap .i64 (n457 - a_7)) ≥ x461)) b458 w463 ∧ μ6 (IntKind.wrap .i64 (n457 + 1)) b_8 limit_9 (decide ((IntKind.wrap .i64 (n457 - a_7)) ≥ x461)) b458 w463 < μ6 a_7 b_8 limit_9 wasBalanced_10 wasPartitioned_11 w13)
  (Calls Try.prog 42 #[(Value.slice data_1 data_1l data_1c), (Value.int .i64 (IntKind.wrap .i64 (n457 + 1))), (Value.int .i64 b_8), (Value.int .i64 limit_9)] w460 fun e464 w465 =>
  e464 = Ending.returned undef ∧
  I5 a_7 n457 limit_9 (decide ((IntKind.wrap .i64 (b_8 - n457)) ≥ x461)) b458 w465 ∧ μ6 a_7 n457 limit_9 (decide ((IntKind.wrap .i64 (b_8 - n457)) ≥ x461)) b458 w465 < μ6 a_7 b_8 limit_9 wasBalanced_10 wasPartitioned_11 w13))))))))) :
  Calls Try.prog 42 #[(Value.slice data_1 data_1l data_1c), (Value.int .i64 a_2), (Value.int .i64 b_3), (Value.int .i64 limit_4)] w R :=
  V.calls_of_R ⟨V.assoc [(0, [1, 2, 3, 8, 9])], V.assocP [(17, V.line [0, 1, 2, 3, 4, 5, 6, 7, 8, 9, 10, 11, 12, 13, 14])], V.assocC [], V.assocS [], ⟨[], true⟩⟩ Try.func42 rfl (Eq.mp (by kernel_rfl) h)

theorem math_bits_Len_nf (x_1 : Int) (w : World) (R : Ending → World → Prop) (h :
  Calls Try.prog 57 #[(Value.int .u64 x_1)] w fun e3 w4 =>
  ∃ n2, e3 = Ending.returned (Value.int .i64 n2) ∧
  R (Ending.returned (Value.int .i64 n2)) w4) :
  Calls Try.prog 43 #[(Value.int .u64 x_1)] w R :=
  V.calls_of_R ⟨V.assoc [], V.assocP [], V.assocC [], V.assocS [], ⟨[], true⟩⟩ Try.func43 rfl (Eq.mp (by kernel_rfl) h)

end Go.Proofs.Ytcampkaenlohbaa
