/- Normal forms of the program's functions, printed by a program of mine; the kernel checks each. -/
import Derived.Test.YtbaglnffgbnekaaDoorProg
import Derived.Test.YtbaglnffgbnekaaDoorV2
set_option linter.unusedVariables false
set_option maxRecDepth 100000
namespace Go.Proofs.YtbaglnffgbnekaaDoor
open Go

theorem berthref01_pick_nf (a_1 : Option Addr) (a_1l : Nat) (a_1c : Nat) (b_2 : Option Addr) (b_2l : Nat) (b_2c : Nat) (alone_3 : Bool) (other_4 : Bool) (both_5 : Bool) (w : World) (R : Ending → World → Prop) (h :
  ∃ I6 : Option Addr → Nat → Nat → Int → Int → World → Prop, ∃ μ7 : Option Addr → Nat → Nat → Int → Int → World → Nat, I6 none 0 0 0 0 w ∧
  ∀ m_8 m_8l m_8c i_9 j_10 (j11 : Nat → Value) (w12 : World), I6 m_8 m_8l m_8c i_9 j_10 w12 →
  (V.sel (decide (i_9 < ((a_1l : Nat) : Int)))
  (V.sel (decide (j_10 ≥ ((b_2l : Nat) : Int)))
  (V.sel alone_3
  (V.when (decide ((0 : Int) ≤ i_9 ∧ (i_9 : Int) < ((a_1l : Nat) : Int))) (V.ptr a_1 fun a13 =>
  ∃ n14, World.cell? (World.drew w12) (Addr.add a13 ((Int.toNat i_9) * 1)) = some (Value.int .i64 n14) ∧
  ∀ w15, w15 = (World.alloc (World.drew w12) (.cells #[(Value.int .i64 n14)] 3)) →
  ∃ A16, ∃ A16l, ∃ A16c, ∃ w17, Sem.run Tryd.prog (Builtin.append_ #[22, 22] 22 #[(Value.slice m_8 m_8l m_8c), (Value.slice (some ⟨Array.size (World.heap (World.drew w12)), 0, none⟩) 1 1)]) w15 = .ok (Value.slice A16 A16l A16c) w17 ∧
  I6 A16 A16l A16c (IntKind.wrap .i64 (i_9 + 1)) j_10 w17 ∧ μ7 A16 A16l A16c (IntKind.wrap .i64 (i_9 + 1)) j_10 w17 < μ7 m_8 m_8l m_8c i_9 j_10 w12))
  (I6 m_8 m_8l m_8c (IntKind.wrap .i64 (i_9 + 1)) j_10 (World.drew w12) ∧ μ7 m_8 m_8l m_8c (IntKind.wrap .i64 (i_9 + 1)) j_10 (World.drew w12) < μ7 m_8 m_8l m_8c i_9 j_10 w12))
  (V.sel (decide (i_9 < ((a_1l : Nat) : Int)))
  (V.when (decide ((0 : Int) ≤ i_9 ∧ (i_9 : Int) < ((a_1l : Nat) : Int))) (V.ptr a_1 fun a18 =>
  ∃ n19, World.cell? w12 (Addr.add a18 ((Int.toNat i_9) * 1)) = some (Value.int .i64 n19) ∧
  V.when (decide ((0 : Int) ≤ j_10 ∧ (j_10 : Int) < ((b_2l : Nat) : Int))) (V.ptr b_2 fun a20 =>
  ∃ n21, World.cell? w12 (Addr.add a20 ((Int.toNat j_10) * 1)) = some (Value.int .i64 n21) ∧
  V.sel (decide (n19 < n21))
  (V.sel alone_3
  (V.when (decide ((0 : Int) ≤ i_9 ∧ (i_9 : Int) < ((a_1l : Nat) : Int))) (V.ptr a_1 fun a22 =>
  ∃ n23, World.cell? (World.drew w12) (Addr.add a22 ((Int.toNat i_9) * 1)) = some (Value.int .i64 n23) ∧
  ∀ w24, w24 = (World.alloc (World.drew w12) (.cells #[(Value.int .i64 n23)] 3)) →
  ∃ A25, ∃ A25l, ∃ A25c, ∃ w26, Sem.run Tryd.prog (Builtin.append_ #[22, 22] 22 #[(Value.slice m_8 m_8l m_8c), (Value.slice (some ⟨Array.size (World.heap (World.drew w12)), 0, none⟩) 1 1)]) w24 = .ok (Value.slice A25 A25l A25c) w26 ∧
  I6 A25 A25l A25c (IntKind.wrap .i64 (i_9 + 1)) j_10 w26 ∧ μ7 A25 A25l A25c (IntKind.wrap .i64 (i_9 + 1)) j_10 w26 < μ7 m_8 m_8l m_8c i_9 j_10 w12))
  (I6 m_8 m_8l m_8c (IntKind.wrap .i64 (i_9 + 1)) j_10 (World.drew w12) ∧ μ7 m_8 m_8l m_8c (IntKind.wrap .i64 (i_9 + 1)) j_10 (World.drew w12) < μ7 m_8 m_8l m_8c i_9 j_10 w12))
  (V.sel (decide (i_9 ≥ ((a_1l : Nat) : Int)))
  (V.sel other_4
  (V.when (decide ((0 : Int) ≤ j_10 ∧ (j_10 : Int) < ((b_2l : Nat) : Int))) (V.ptr b_2 fun a27 =>
  ∃ n28, World.cell? (World.drew (World.drew w12)) (Addr.add a27 ((Int.toNat j_10) * 1)) = some (Value.int .i64 n28) ∧
  ∀ w29, w29 = (World.alloc (World.drew (World.drew w12)) (.cells #[(Value.int .i64 n28)] 3)) →
  ∃ A30, ∃ A30l, ∃ A30c, ∃ w31, Sem.run Tryd.prog (Builtin.append_ #[22, 22] 22 #[(Value.slice m_8 m_8l m_8c), (Value.slice (some ⟨Array.size (World.heap (World.drew (World.drew w12))), 0, none⟩) 1 1)]) w29 = .ok (Value.slice A30 A30l A30c) w31 ∧
  I6 A30 A30l A30c i_9 (IntKind.wrap .i64 (j_10 + 1)) w31 ∧ μ7 A30 A30l A30c i_9 (IntKind.wrap .i64 (j_10 + 1)) w31 < μ7 m_8 m_8l m_8c i_9 j_10 w12))
  (I6 m_8 m_8l m_8c i_9 (IntKind.wrap .i64 (j_10 + 1)) (World.drew (World.drew w12)) ∧ μ7 m_8 m_8l m_8c i_9 (IntKind.wrap .i64 (j_10 + 1)) (World.drew (World.drew w12)) < μ7 m_8 m_8l m_8c i_9 j_10 w12))
  (V.when (decide ((0 : Int) ≤ j_10 ∧ (j_10 : Int) < ((b_2l : Nat) : Int))) (V.ptr b_2 fun a32 =>
  ∃ n33, World.cell? (World.drew w12) (Addr.add a32 ((Int.toNat j_10) * 1)) = some (Value.int .i64 n33) ∧
  V.when (decide ((0 : Int) ≤ i_9 ∧ (i_9 : Int) < ((a_1l : Nat) : Int))) (V.ptr a_1 fun a34 =>
  ∃ n35, World.cell? (World.drew w12) (Addr.add a34 ((Int.toNat i_9) * 1)) = some (Value.int .i64 n35) ∧
  V.sel (decide (n33 < n35))
  (V.sel other_4
  (V.when (decide ((0 : Int) ≤ j_10 ∧ (j_10 : Int) < ((b_2l : Nat) : Int))) (V.ptr b_2 fun a36 =>
  ∃ n37, World.cell? (World.drew (World.drew w12)) (Addr.add a36 ((Int.toNat j_10) * 1)) = some (Value.int .i64 n37) ∧
  ∀ w38, w38 = (World.alloc (World.drew (World.drew w12)) (.cells #[(Value.int .i64 n37)] 3)) →
  ∃ A39, ∃ A39l, ∃ A39c, ∃ w40, Sem.run Tryd.prog (Builtin.append_ #[22, 22] 22 #[(Value.slice m_8 m_8l m_8c), (Value.slice (some ⟨Array.size (World.heap (World.drew (World.drew w12))), 0, none⟩) 1 1)]) w38 = .ok (Value.slice A39 A39l A39c) w40 ∧
  I6 A39 A39l A39c i_9 (IntKind.wrap .i64 (j_10 + 1)) w40 ∧ μ7 A39 A39l A39c i_9 (IntKind.wrap .i64 (j_10 + 1)) w40 < μ7 m_8 m_8l m_8c i_9 j_10 w12))
  (I6 m_8 m_8l m_8c i_9 (IntKind.wrap .i64 (j_10 + 1)) (World.drew (World.drew w12)) ∧ μ7 m_8 m_8l m_8c i_9 (IntKind.wrap .i64 (j_10 + 1)) (World.drew (World.drew w12)) < μ7 m_8 m_8l m_8c i_9 j_10 w12))
  (V.sel both_5
  (V.when (decide ((0 : Int) ≤ i_9 ∧ (i_9 : Int) < ((a_1l : Nat) : Int))) (V.ptr a_1 fun a41 =>
  ∃ n42, World.cell? (World.drew (World.drew w12)) (Addr.add a41 ((Int.toNat i_9) * 1)) = some (Value.int .i64 n42) ∧
  ∀ w43, w43 = (World.alloc (World.drew (World.drew w12)) (.cells #[(Value.int .i64 n42)] 3)) →
  ∃ A44, ∃ A44l, ∃ A44c, ∃ w45, Sem.run Tryd.prog (Builtin.append_ #[22, 22] 22 #[(Value.slice m_8 m_8l m_8c), (Value.slice (some ⟨Array.size (World.heap (World.drew (World.drew w12))), 0, none⟩) 1 1)]) w43 = .ok (Value.slice A44 A44l A44c) w45 ∧
  I6 A44 A44l A44c (IntKind.wrap .i64 (i_9 + 1)) (IntKind.wrap .i64 (j_10 + 1)) w45 ∧ μ7 A44 A44l A44c (IntKind.wrap .i64 (i_9 + 1)) (IntKind.wrap .i64 (j_10 + 1)) w45 < μ7 m_8 m_8l m_8c i_9 j_10 w12))
  (I6 m_8 m_8l m_8c (IntKind.wrap .i64 (i_9 + 1)) (IntKind.wrap .i64 (j_10 + 1)) (World.drew (World.drew w12)) ∧ μ7 m_8 m_8l m_8c (IntKind.wrap .i64 (i_9 + 1)) (IntKind.wrap .i64 (j_10 + 1)) (World.drew (World.drew w12)) < μ7 m_8 m_8l m_8c i_9 j_10 w12)))))))))
  (V.sel (decide (i_9 ≥ ((a_1l : Nat) : Int)))
  (V.sel other_4
  (V.when (decide ((0 : Int) ≤ j_10 ∧ (j_10 : Int) < ((b_2l : Nat) : Int))) (V.ptr b_2 fun a46 =>
  ∃ n47, World.cell? (World.drew (World.drew w12)) (Addr.add a46 ((Int.toNat j_10) * 1)) = some (Value.int .i64 n47) ∧
  ∀ w48, w48 = (World.alloc (World.drew (World.drew w12)) (.cells #[(Value.int .i64 n47)] 3)) →
  ∃ A49, ∃ A49l, ∃ A49c, ∃ w50, Sem.run Tryd.prog (Builtin.append_ #[22, 22] 22 #[(Value.slice m_8 m_8l m_8c), (Value.slice (some ⟨Array.size (World.heap (World.drew (World.drew w12))), 0, none⟩) 1 1)]) w48 = .ok (Value.slice A49 A49l A49c) w50 ∧
  I6 A49 A49l A49c i_9 (IntKind.wrap .i64 (j_10 + 1)) w50 ∧ μ7 A49 A49l A49c i_9 (IntKind.wrap .i64 (j_10 + 1)) w50 < μ7 m_8 m_8l m_8c i_9 j_10 w12))
  (I6 m_8 m_8l m_8c i_9 (IntKind.wrap .i64 (j_10 + 1)) (World.drew (World.drew w12)) ∧ μ7 m_8 m_8l m_8c i_9 (IntKind.wrap .i64 (j_10 + 1)) (World.drew (World.drew w12)) < μ7 m_8 m_8l m_8c i_9 j_10 w12))
  (V.when (decide ((0 : Int) ≤ j_10 ∧ (j_10 : Int) < ((b_2l : Nat) : Int))) (V.ptr b_2 fun a51 =>
  ∃ n52, World.cell? (World.drew w12) (Addr.add a51 ((Int.toNat j_10) * 1)) = some (Value.int .i64 n52) ∧
  V.when (decide ((0 : Int) ≤ i_9 ∧ (i_9 : Int) < ((a_1l : Nat) : Int))) (V.ptr a_1 fun a53 =>
  ∃ n54, World.cell? (World.drew w12) (Addr.add a53 ((Int.toNat i_9) * 1)) = some (Value.int .i64 n54) ∧
  V.sel (decide (n52 < n54))
  (V.sel other_4
  (V.when (decide ((0 : Int) ≤ j_10 ∧ (j_10 : Int) < ((b_2l : Nat) : Int))) (V.ptr b_2 fun a55 =>
  ∃ n56, World.cell? (World.drew (World.drew w12)) (Addr.add a55 ((Int.toNat j_10) * 1)) = some (Value.int .i64 n56) ∧
  ∀ w57, w57 = (World.alloc (World.drew (World.drew w12)) (.cells #[(Value.int .i64 n56)] 3)) →
  ∃ A58, ∃ A58l, ∃ A58c, ∃ w59, Sem.run Tryd.prog (Builtin.append_ #[22, 22] 22 #[(Value.slice m_8 m_8l m_8c), (Value.slice (some ⟨Array.size (World.heap (World.drew (World.drew w12))), 0, none⟩) 1 1)]) w57 = .ok (Value.slice A58 A58l A58c) w59 ∧
  I6 A58 A58l A58c i_9 (IntKind.wrap .i64 (j_10 + 1)) w59 ∧ μ7 A58 A58l A58c i_9 (IntKind.wrap .i64 (j_10 + 1)) w59 < μ7 m_8 m_8l m_8c i_9 j_10 w12))
  (I6 m_8 m_8l m_8c i_9 (IntKind.wrap .i64 (j_10 + 1)) (World.drew (World.drew w12)) ∧ μ7 m_8 m_8l m_8c i_9 (IntKind.wrap .i64 (j_10 + 1)) (World.drew (World.drew w12)) < μ7 m_8 m_8l m_8c i_9 j_10 w12))
  (V.sel both_5
  (V.when (decide ((0 : Int) ≤ i_9 ∧ (i_9 : Int) < ((a_1l : Nat) : Int))) (V.ptr a_1 fun a60 =>
  ∃ n61, World.cell? (World.drew (World.drew w12)) (Addr.add a60 ((Int.toNat i_9) * 1)) = some (Value.int .i64 n61) ∧
  ∀ w62, w62 = (World.alloc (World.drew (World.drew w12)) (.cells #[(Value.int .i64 n61)] 3)) →
  ∃ A63, ∃ A63l, ∃ A63c, ∃ w64, Sem.run Tryd.prog (Builtin.append_ #[22, 22] 22 #[(Value.slice m_8 m_8l m_8c), (Value.slice (some ⟨Array.size (World.heap (World.drew (World.drew w12))), 0, none⟩) 1 1)]) w62 = .ok (Value.slice A63 A63l A63c) w64 ∧
  I6 A63 A63l A63c (IntKind.wrap .i64 (i_9 + 1)) (IntKind.wrap .i64 (j_10 + 1)) w64 ∧ μ7 A63 A63l A63c (IntKind.wrap .i64 (i_9 + 1)) (IntKind.wrap .i64 (j_10 + 1)) w64 < μ7 m_8 m_8l m_8c i_9 j_10 w12))
  (I6 m_8 m_8l m_8c (IntKind.wrap .i64 (i_9 + 1)) (IntKind.wrap .i64 (j_10 + 1)) (World.drew (World.drew w12)) ∧ μ7 m_8 m_8l m_8c (IntKind.wrap .i64 (i_9 + 1)) (IntKind.wrap .i64 (j_10 + 1)) (World.drew (World.drew w12)) < μ7 m_8 m_8l m_8c i_9 j_10 w12))))))))
  (V.sel (decide (j_10 < ((b_2l : Nat) : Int)))
  (V.sel (decide (j_10 ≥ ((b_2l : Nat) : Int)))
  (V.sel alone_3
  (V.when (decide ((0 : Int) ≤ i_9 ∧ (i_9 : Int) < ((a_1l : Nat) : Int))) (V.ptr a_1 fun a65 =>
  ∃ n66, World.cell? (World.drew w12) (Addr.add a65 ((Int.toNat i_9) * 1)) = some (Value.int .i64 n66) ∧
  ∀ w67, w67 = (World.alloc (World.drew w12) (.cells #[(Value.int .i64 n66)] 3)) →
  ∃ A68, ∃ A68l, ∃ A68c, ∃ w69, Sem.run Tryd.prog (Builtin.append_ #[22, 22] 22 #[(Value.slice m_8 m_8l m_8c), (Value.slice (some ⟨Array.size (World.heap (World.drew w12)), 0, none⟩) 1 1)]) w67 = .ok (Value.slice A68 A68l A68c) w69 ∧
  I6 A68 A68l A68c (IntKind.wrap .i64 (i_9 + 1)) j_10 w69 ∧ μ7 A68 A68l A68c (IntKind.wrap .i64 (i_9 + 1)) j_10 w69 < μ7 m_8 m_8l m_8c i_9 j_10 w12))
  (I6 m_8 m_8l m_8c (IntKind.wrap .i64 (i_9 + 1)) j_10 (World.drew w12) ∧ μ7 m_8 m_8l m_8c (IntKind.wrap .i64 (i_9 + 1)) j_10 (World.drew w12) < μ7 m_8 m_8l m_8c i_9 j_10 w12))
  (V.sel (decide (i_9 < ((a_1l : Nat) : Int)))
  (V.when (decide ((0 : Int) ≤ i_9 ∧ (i_9 : Int) < ((a_1l : Nat) : Int))) (V.ptr a_1 fun a70 =>
  ∃ n71, World.cell? w12 (Addr.add a70 ((Int.toNat i_9) * 1)) = some (Value.int .i64 n71) ∧
  V.when (decide ((0 : Int) ≤ j_10 ∧ (j_10 : Int) < ((b_2l : Nat) : Int))) (V.ptr b_2 fun a72 =>
  ∃ n73, World.cell? w12 (Addr.add a72 ((Int.toNat j_10) * 1)) = some (Value.int .i64 n73) ∧
  V.sel (decide (n71 < n73))
  (V.sel alone_3
  (V.when (decide ((0 : Int) ≤ i_9 ∧ (i_9 : Int) < ((a_1l : Nat) : Int))) (V.ptr a_1 fun a74 =>
  ∃ n75, World.cell? (World.drew w12) (Addr.add a74 ((Int.toNat i_9) * 1)) = some (Value.int .i64 n75) ∧
  ∀ w76, w76 = (World.alloc (World.drew w12) (.cells #[(Value.int .i64 n75)] 3)) →
  ∃ A77, ∃ A77l, ∃ A77c, ∃ w78, Sem.run Tryd.prog (Builtin.append_ #[22, 22] 22 #[(Value.slice m_8 m_8l m_8c), (Value.slice (some ⟨Array.size (World.heap (World.drew w12)), 0, none⟩) 1 1)]) w76 = .ok (Value.slice A77 A77l A77c) w78 ∧
  I6 A77 A77l A77c (IntKind.wrap .i64 (i_9 + 1)) j_10 w78 ∧ μ7 A77 A77l A77c (IntKind.wrap .i64 (i_9 + 1)) j_10 w78 < μ7 m_8 m_8l m_8c i_9 j_10 w12))
  (I6 m_8 m_8l m_8c (IntKind.wrap .i64 (i_9 + 1)) j_10 (World.drew w12) ∧ μ7 m_8 m_8l m_8c (IntKind.wrap .i64 (i_9 + 1)) j_10 (World.drew w12) < μ7 m_8 m_8l m_8c i_9 j_10 w12))
  (V.sel (decide (i_9 ≥ ((a_1l : Nat) : Int)))
  (V.sel other_4
  (V.when (decide ((0 : Int) ≤ j_10 ∧ (j_10 : Int) < ((b_2l : Nat) : Int))) (V.ptr b_2 fun a79 =>
  ∃ n80, World.cell? (World.drew (World.drew w12)) (Addr.add a79 ((Int.toNat j_10) * 1)) = some (Value.int .i64 n80) ∧
  ∀ w81, w81 = (World.alloc (World.drew (World.drew w12)) (.cells #[(Value.int .i64 n80)] 3)) →
  ∃ A82, ∃ A82l, ∃ A82c, ∃ w83, Sem.run Tryd.prog (Builtin.append_ #[22, 22] 22 #[(Value.slice m_8 m_8l m_8c), (Value.slice (some ⟨Array.size (World.heap (World.drew (World.drew w12))), 0, none⟩) 1 1)]) w81 = .ok (Value.slice A82 A82l A82c) w83 ∧
  I6 A82 A82l A82c i_9 (IntKind.wrap .i64 (j_10 + 1)) w83 ∧ μ7 A82 A82l A82c i_9 (IntKind.wrap .i64 (j_10 + 1)) w83 < μ7 m_8 m_8l m_8c i_9 j_10 w12))
  (I6 m_8 m_8l m_8c i_9 (IntKind.wrap .i64 (j_10 + 1)) (World.drew (World.drew w12)) ∧ μ7 m_8 m_8l m_8c i_9 (IntKind.wrap .i64 (j_10 + 1)) (World.drew (World.drew w12)) < μ7 m_8 m_8l m_8c i_9 j_10 w12))
  (V.when (decide ((0 : Int) ≤ j_10 ∧ (j_10 : Int) < ((b_2l : Nat) : Int))) (V.ptr b_2 fun a84 =>
  ∃ n85, World.cell? (World.drew w12) (Addr.add a84 ((Int.toNat j_10) * 1)) = some (Value.int .i64 n85) ∧
  V.when (decide ((0 : Int) ≤ i_9 ∧ (i_9 : Int) < ((a_1l : Nat) : Int))) (V.ptr a_1 fun a86 =>
  ∃ n87, World.cell? (World.drew w12) (Addr.add a86 ((Int.toNat i_9) * 1)) = some (Value.int .i64 n87) ∧
  V.sel (decide (n85 < n87))
  (V.sel other_4
  (V.when (decide ((0 : Int) ≤ j_10 ∧ (j_10 : Int) < ((b_2l : Nat) : Int))) (V.ptr b_2 fun a88 =>
  ∃ n89, World.cell? (World.drew (World.drew w12)) (Addr.add a88 ((Int.toNat j_10) * 1)) = some (Value.int .i64 n89) ∧
  ∀ w90, w90 = (World.alloc (World.drew (World.drew w12)) (.cells #[(Value.int .i64 n89)] 3)) →
  ∃ A91, ∃ A91l, ∃ A91c, ∃ w92, Sem.run Tryd.prog (Builtin.append_ #[22, 22] 22 #[(Value.slice m_8 m_8l m_8c), (Value.slice (some ⟨Array.size (World.heap (World.drew (World.drew w12))), 0, none⟩) 1 1)]) w90 = .ok (Value.slice A91 A91l A91c) w92 ∧
  I6 A91 A91l A91c i_9 (IntKind.wrap .i64 (j_10 + 1)) w92 ∧ μ7 A91 A91l A91c i_9 (IntKind.wrap .i64 (j_10 + 1)) w92 < μ7 m_8 m_8l m_8c i_9 j_10 w12))
  (I6 m_8 m_8l m_8c i_9 (IntKind.wrap .i64 (j_10 + 1)) (World.drew (World.drew w12)) ∧ μ7 m_8 m_8l m_8c i_9 (IntKind.wrap .i64 (j_10 + 1)) (World.drew (World.drew w12)) < μ7 m_8 m_8l m_8c i_9 j_10 w12))
  (V.sel both_5
  (V.when (decide ((0 : Int) ≤ i_9 ∧ (i_9 : Int) < ((a_1l : Nat) : Int))) (V.ptr a_1 fun a93 =>
  ∃ n94, World.cell? (World.drew (World.drew w12)) (Addr.add a93 ((Int.toNat i_9) * 1)) = some (Value.int .i64 n94) ∧
  ∀ w95, w95 = (World.alloc (World.drew (World.drew w12)) (.cells #[(Value.int .i64 n94)] 3)) →
  ∃ A96, ∃ A96l, ∃ A96c, ∃ w97, Sem.run Tryd.prog (Builtin.append_ #[22, 22] 22 #[(Value.slice m_8 m_8l m_8c), (Value.slice (some ⟨Array.size (World.heap (World.drew (World.drew w12))), 0, none⟩) 1 1)]) w95 = .ok (Value.slice A96 A96l A96c) w97 ∧
  I6 A96 A96l A96c (IntKind.wrap .i64 (i_9 + 1)) (IntKind.wrap .i64 (j_10 + 1)) w97 ∧ μ7 A96 A96l A96c (IntKind.wrap .i64 (i_9 + 1)) (IntKind.wrap .i64 (j_10 + 1)) w97 < μ7 m_8 m_8l m_8c i_9 j_10 w12))
  (I6 m_8 m_8l m_8c (IntKind.wrap .i64 (i_9 + 1)) (IntKind.wrap .i64 (j_10 + 1)) (World.drew (World.drew w12)) ∧ μ7 m_8 m_8l m_8c (IntKind.wrap .i64 (i_9 + 1)) (IntKind.wrap .i64 (j_10 + 1)) (World.drew (World.drew w12)) < μ7 m_8 m_8l m_8c i_9 j_10 w12)))))))))
  (V.sel (decide (i_9 ≥ ((a_1l : Nat) : Int)))
  (V.sel other_4
  (V.when (decide ((0 : Int) ≤ j_10 ∧ (j_10 : Int) < ((b_2l : Nat) : Int))) (V.ptr b_2 fun a98 =>
  ∃ n99, World.cell? (World.drew (World.drew w12)) (Addr.add a98 ((Int.toNat j_10) * 1)) = some (Value.int .i64 n99) ∧
  ∀ w100, w100 = (World.alloc (World.drew (World.drew w12)) (.cells #[(Value.int .i64 n99)] 3)) →
  ∃ A101, ∃ A101l, ∃ A101c, ∃ w102, Sem.run Tryd.prog (Builtin.append_ #[22, 22] 22 #[(Value.slice m_8 m_8l m_8c), (Value.slice (some ⟨Array.size (World.heap (World.drew (World.drew w12))), 0, none⟩) 1 1)]) w100 = .ok (Value.slice A101 A101l A101c) w102 ∧
  I6 A101 A101l A101c i_9 (IntKind.wrap .i64 (j_10 + 1)) w102 ∧ μ7 A101 A101l A101c i_9 (IntKind.wrap .i64 (j_10 + 1)) w102 < μ7 m_8 m_8l m_8c i_9 j_10 w12))
  (I6 m_8 m_8l m_8c i_9 (IntKind.wrap .i64 (j_10 + 1)) (World.drew (World.drew w12)) ∧ μ7 m_8 m_8l m_8c i_9 (IntKind.wrap .i64 (j_10 + 1)) (World.drew (World.drew w12)) < μ7 m_8 m_8l m_8c i_9 j_10 w12))
  (V.when (decide ((0 : Int) ≤ j_10 ∧ (j_10 : Int) < ((b_2l : Nat) : Int))) (V.ptr b_2 fun a103 =>
  ∃ n104, World.cell? (World.drew w12) (Addr.add a103 ((Int.toNat j_10) * 1)) = some (Value.int .i64 n104) ∧
  V.when (decide ((0 : Int) ≤ i_9 ∧ (i_9 : Int) < ((a_1l : Nat) : Int))) (V.ptr a_1 fun a105 =>
  ∃ n106, World.cell? (World.drew w12) (Addr.add a105 ((Int.toNat i_9) * 1)) = some (Value.int .i64 n106) ∧
  V.sel (decide (n104 < n106))
  (V.sel other_4
  (V.when (decide ((0 : Int) ≤ j_10 ∧ (j_10 : Int) < ((b_2l : Nat) : Int))) (V.ptr b_2 fun a107 =>
  ∃ n108, World.cell? (World.drew (World.drew w12)) (Addr.add a107 ((Int.toNat j_10) * 1)) = some (Value.int .i64 n108) ∧
  ∀ w109, w109 = (World.alloc (World.drew (World.drew w12)) (.cells #[(Value.int .i64 n108)] 3)) →
  ∃ A110, ∃ A110l, ∃ A110c, ∃ w111, Sem.run Tryd.prog (Builtin.append_ #[22, 22] 22 #[(Value.slice m_8 m_8l m_8c), (Value.slice (some ⟨Array.size (World.heap (World.drew (World.drew w12))), 0, none⟩) 1 1)]) w109 = .ok (Value.slice A110 A110l A110c) w111 ∧
  I6 A110 A110l A110c i_9 (IntKind.wrap .i64 (j_10 + 1)) w111 ∧ μ7 A110 A110l A110c i_9 (IntKind.wrap .i64 (j_10 + 1)) w111 < μ7 m_8 m_8l m_8c i_9 j_10 w12))
  (I6 m_8 m_8l m_8c i_9 (IntKind.wrap .i64 (j_10 + 1)) (World.drew (World.drew w12)) ∧ μ7 m_8 m_8l m_8c i_9 (IntKind.wrap .i64 (j_10 + 1)) (World.drew (World.drew w12)) < μ7 m_8 m_8l m_8c i_9 j_10 w12))
  (V.sel both_5
  (V.when (decide ((0 : Int) ≤ i_9 ∧ (i_9 : Int) < ((a_1l : Nat) : Int))) (V.ptr a_1 fun a112 =>
  ∃ n113, World.cell? (World.drew (World.drew w12)) (Addr.add a112 ((Int.toNat i_9) * 1)) = some (Value.int .i64 n113) ∧
  ∀ w114, w114 = (World.alloc (World.drew (World.drew w12)) (.cells #[(Value.int .i64 n113)] 3)) →
  ∃ A115, ∃ A115l, ∃ A115c, ∃ w116, Sem.run Tryd.prog (Builtin.append_ #[22, 22] 22 #[(Value.slice m_8 m_8l m_8c), (Value.slice (some ⟨Array.size (World.heap (World.drew (World.drew w12))), 0, none⟩) 1 1)]) w114 = .ok (Value.slice A115 A115l A115c) w116 ∧
  I6 A115 A115l A115c (IntKind.wrap .i64 (i_9 + 1)) (IntKind.wrap .i64 (j_10 + 1)) w116 ∧ μ7 A115 A115l A115c (IntKind.wrap .i64 (i_9 + 1)) (IntKind.wrap .i64 (j_10 + 1)) w116 < μ7 m_8 m_8l m_8c i_9 j_10 w12))
  (I6 m_8 m_8l m_8c (IntKind.wrap .i64 (i_9 + 1)) (IntKind.wrap .i64 (j_10 + 1)) (World.drew (World.drew w12)) ∧ μ7 m_8 m_8l m_8c (IntKind.wrap .i64 (i_9 + 1)) (IntKind.wrap .i64 (j_10 + 1)) (World.drew (World.drew w12)) < μ7 m_8 m_8l m_8c i_9 j_10 w12))))))))
  (R (Ending.returned (Value.slice m_8 m_8l m_8c)) w12)))) :
  Calls Tryd.prog 92 #[(Value.slice a_1 a_1l a_1c), (Value.slice b_2 b_2l b_2c), (Value.bool alone_3), (Value.bool other_4), (Value.bool both_5)] w R :=
  V.calls_of_R ⟨V.assoc [(0, [11, 12, 13])], V.assocP [(8, V.line [0, 1, 2, 3, 4, 5, 6, 7, 8, 9, 10, 11, 12, 13, 14, 15, 16, 17, 18, 19, 20, 21]), (12, V.line [0, 1, 2, 3, 4, 5, 6, 7, 8, 9, 10, 11, 12, 13, 14, 15])], V.assocC [], V.assocS [], ⟨[], true⟩⟩ Tryd.func92 rfl (Eq.mp (by kernel_rfl) h)

theorem berthref01_Members_nf (s_1 : Int) (s_2 : Option Addr) (s_2l : Nat) (s_2c : Nat) (w : World) (R : Ending → World → Prop) (h :
  ∃ A3, ∃ A3l, ∃ A3c, World.cell? (World.alloc (World.alloc w (.cells #[(Value.int .i64 s_1), (Value.slice s_2 s_2l s_2c)] 50)) (.cells #[] 3)) (Addr.add ⟨Array.size (World.heap w), 0, none⟩ 1) = some (Value.slice A3 A3l A3c) ∧
  ∃ A4, ∃ A4l, ∃ A4c, ∃ w5, Sem.run Tryd.prog (Builtin.append_ #[22, 22] 22 #[(Value.slice (some ⟨Array.size (World.heap (World.alloc w (.cells #[(Value.int .i64 s_1), (Value.slice s_2 s_2l s_2c)] 50))), 0, none⟩) 0 0), (Value.slice A3 A3l A3c)]) (World.alloc (World.alloc w (.cells #[(Value.int .i64 s_1), (Value.slice s_2 s_2l s_2c)] 50)) (.cells #[] 3)) = .ok (Value.slice A4 A4l A4c) w5 ∧
  R (Ending.returned (Value.slice A4 A4l A4c)) w5) :
  Calls Tryd.prog 93 #[(Value.agg #[(Value.int .i64 s_1), (Value.slice s_2 s_2l s_2c)])] w R :=
  V.calls_of_R ⟨V.assoc [], V.assocP [], V.assocC [], V.assocS [], ⟨[], false⟩⟩ Tryd.func93 rfl (Eq.mp (by kernel_rfl) h)

theorem berthref01_below_nf (s_1 : Int) (s_2 : Option Addr) (s_2l : Nat) (s_2c : Nat) (i_3 : Int) (w : World) (R : Ending → World → Prop) (h :
  ∀ w4, w4 = (World.alloc w (.cells #[(Value.int .i64 s_1), (Value.slice s_2 s_2l s_2c)] 50)) →
  ∃ A5, ∃ A5l, ∃ A5c, World.cell? w4 (Addr.add ⟨Array.size (World.heap w), 0, none⟩ 1) = some (Value.slice A5 A5l A5c) ∧
  ∃ I6 : Int → Int → World → Prop, ∃ μ7 : Int → Int → World → Nat, I6 0 ((A5l : Nat) : Int) (World.drew w4) ∧
  ∀ lo_8 hi_9 (j10 : Nat → Value) (w11 : World), I6 lo_8 hi_9 w11 →
  (V.sel (decide (lo_8 < hi_9))
  (V.lt (IntKind.wrap .i64 (Int.tdiv (IntKind.wrap .i64 (lo_8 + hi_9)) 2)) fun x12 =>
  ∃ A13, ∃ A13l, ∃ A13c, World.cell? w11 (Addr.add ⟨Array.size (World.heap w), 0, none⟩ 1) = some (Value.slice A13 A13l A13c) ∧
  V.when (decide ((0 : Int) ≤ x12 ∧ (x12 : Int) < ((A13l : Nat) : Int))) (V.ptr A13 fun a14 =>
  ∃ n15, World.cell? w11 (Addr.add a14 ((Int.toNat x12) * 1)) = some (Value.int .i64 n15) ∧
  V.sel (decide (n15 < i_3))
  (I6 (IntKind.wrap .i64 (x12 + 1)) hi_9 w11 ∧ μ7 (IntKind.wrap .i64 (x12 + 1)) hi_9 w11 < μ7 lo_8 hi_9 w11)
  (I6 lo_8 x12 w11 ∧ μ7 lo_8 x12 w11 < μ7 lo_8 hi_9 w11)))
  (R (Ending.returned (Value.int .i64 lo_8)) w11))) :
  Calls Tryd.prog 94 #[(Value.agg #[(Value.int .i64 s_1), (Value.slice s_2 s_2l s_2c)]), (Value.int .i64 i_3)] w R :=
  V.calls_of_R ⟨V.assoc [(0, [5, 6])], V.assocP [(1, V.line [0, 1, 2, 3, 4])], V.assocC [], V.assocS [], ⟨[], true⟩⟩ Tryd.func94 rfl (Eq.mp (by kernel_rfl) h)

theorem berthref01_Within_nf (s_1 : Int) (s_2 : Option Addr) (s_2l : Nat) (s_2c : Nat) (n_3 : Int) (w : World) (R : Ending → World → Prop) (h :
  ∀ w4, w4 = (World.alloc w (.cells #[(Value.int .i64 s_1), (Value.slice s_2 s_2l s_2c)] 50)) →
  ∀ w5, w5 = (World.alloc w4 (.cells #[(Value.int .i64 0), (Value.slice none 0 0)] 50)) →
  ∃ n6, ∃ A7, ∃ A7l, ∃ A7c, V.cellsC (fun a_ x_ => World.cell? w5 a_ = some x_) ⟨Array.size (World.heap w), 0, none⟩ [(Value.int .i64 n6), (Value.slice A7 A7l A7c)] ∧
  Calls Tryd.prog 94 #[(Value.agg #[(Value.int .i64 n6), (Value.slice A7 A7l A7c)]), (Value.int .i64 n_3)] w5 fun e9 w10 =>
  ∃ n8, e9 = Ending.returned (Value.int .i64 n8) ∧
  ∀ w11, w11 = (World.alloc w10 (.cells #[] 3)) →
  ∃ A12, ∃ A12l, ∃ A12c, World.cell? w11 (Addr.add ⟨Array.size (World.heap w), 0, none⟩ 1) = some (Value.slice A12 A12l A12c) ∧
  V.when (decide ((0 : Int) ≤ n8 ∧ (n8 : Int) ≤ ((A12c : Nat) : Int))) (∃ A13, ∃ A13l, ∃ A13c, ∃ w14, Sem.run Tryd.prog (Builtin.append_ #[22, 22] 22 #[(Value.slice (some ⟨Array.size (World.heap w10), 0, none⟩) 0 0), (Value.slice (V.cut A12 A12c 0 1) ((Int.toNat n8) - 0) (A12c - 0))]) w11 = .ok (Value.slice A13 A13l A13c) w14 ∧
  ∃ w15, Sem.run Tryd.prog (Instr.storeAt 50 (Value.pointer (some ⟨Array.size (World.heap w4), 0, none⟩)) (Value.agg #[(Value.int .i64 n_3), (Value.slice A13 A13l A13c)])) w14 = .ok () w15 ∧
  ∃ n16, ∃ A17, ∃ A17l, ∃ A17c, V.cellsC (fun a_ x_ => World.cell? w15 a_ = some x_) ⟨Array.size (World.heap w4), 0, none⟩ [(Value.int .i64 n16), (Value.slice A17 A17l A17c)] ∧
  R (Ending.returned (Value.agg #[(Value.int .i64 n16), (Value.slice A17 A17l A17c)])) w15)) :
  Calls Tryd.prog 95 #[(Value.agg #[(Value.int .i64 s_1), (Value.slice s_2 s_2l s_2c)]), (Value.int .i64 n_3)] w R :=
  V.calls_of_R ⟨V.assoc [], V.assocP [], V.assocC [], V.assocS [], ⟨[], true⟩⟩ Tryd.func95 rfl (Eq.mp (by kernel_rfl) h)

end Go.Proofs.YtbaglnffgbnekaaDoor
