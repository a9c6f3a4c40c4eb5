/- Normal forms of the program's functions, printed by a program of mine; the kernel checks each. -/
import Derived.Test.YtbaglnffgbnekaaDoorProg
import Derived.Test.YtbaglnffgbnekaaDoorV2
set_option linter.unusedVariables false
set_option maxRecDepth 100000
namespace Go.Proofs.YtbaglnffgbnekaaDoor
open Go

theorem bitset_Set_AndWith_nf (s_1 : Option Addr) (t_2 : Option Addr) (w : World) (R : Ending → World → Prop) (h :
  V.sel (Option.isNone s_1)
  (R (Ending.returned undef) w)
  (V.ptr s_1 fun a3 =>
  ∃ A4, ∃ A4l, ∃ A4c, World.cell? w (Addr.add a3 1) = some (Value.slice A4 A4l A4c) ∧
  ∃ I5 : Int → World → Prop, ∃ μ6 : Int → World → Nat, I5 0 w ∧
  ∀ t12_7 (j8 : Nat → Value) (w9 : World), I5 t12_7 w9 →
  (V.sel (decide (t12_7 < ((A4l : Nat) : Int)))
  (∃ S10 : World → Prop, S10 (World.drew w9) ∧
  V.ptr s_1 fun a12 =>
  ∃ A13, ∃ A13l, ∃ A13c, (∀ w11, S10 w11 → World.cell? w11 (Addr.add a12 1) = some (Value.slice A13 A13l A13c)) ∧
  V.when (decide ((0 : Int) ≤ t12_7 ∧ (t12_7 : Int) < ((A13l : Nat) : Int))) (V.ptr A13 fun a14 =>
  ∃ n15, (∀ w11, S10 w11 → World.cell? w11 (Addr.add a14 ((Int.toNat t12_7) * 1)) = some (Value.int .u64 n15)) ∧
  Calls Tryd.prog 44 #[(Value.pointer t_2), (Value.int .i64 t12_7)] (World.drew w9) fun e17 w18 =>
  ∃ n16, e17 = Ending.returned (Value.int .u64 n16) ∧
  S10 w18 ∧
  V.when (decide ((0 : Int) ≤ t12_7 ∧ (t12_7 : Int) < ((A13l : Nat) : Int))) (V.ptr A13 fun a19 =>
  (∃ u20, World.cell? w18 (Addr.add (Addr.add a19 ((Int.toNat t12_7) * 1)) 0) = some u20) ∧ World.frozen? w18 (Addr.add (Addr.add a19 ((Int.toNat t12_7) * 1)) 0) = false ∧
  I5 (IntKind.wrap .i64 (t12_7 + 1)) (World.setCell w18 (Addr.add (Addr.add a19 ((Int.toNat t12_7) * 1)) 0) (Value.int .u64 (IntKind.wrap .u64 ((BitVec.toNat (BitVec.ofInt 64 n15 &&& BitVec.ofInt 64 n16) : Nat) : Int)))) ∧ μ6 (IntKind.wrap .i64 (t12_7 + 1)) (World.setCell w18 (Addr.add (Addr.add a19 ((Int.toNat t12_7) * 1)) 0) (Value.int .u64 (IntKind.wrap .u64 ((BitVec.toNat (BitVec.ofInt 64 n15 &&& BitVec.ofInt 64 n16) : Nat) : Int)))) < μ6 t12_7 w9)))
  (R (Ending.returned undef) w9)))) :
  Calls Tryd.prog 22 #[(Value.pointer s_1), (Value.pointer t_2)] w R :=
  V.calls_of_R ⟨V.assoc [(0, [12])], V.assocP [(4, V.line [0, 1, 2, 3, 4, 5, 6, 7, 8, 9, 10, 11, 12])], V.assocC [], V.assocS [], ⟨[], false⟩⟩ Tryd.func22 rfl (Eq.mp (by kernel_rfl) h)

theorem bitset_Set_OrWith_nf (s_1 : Option Addr) (t_2 : Option Addr) (w : World) (R : Ending → World → Prop) (h :
  V.sel (Option.isNone s_1)
  (R (Ending.returned undef) w)
  (V.ptr s_1 fun a3 =>
  ∃ A4, ∃ A4l, ∃ A4c, World.cell? w (Addr.add a3 1) = some (Value.slice A4 A4l A4c) ∧
  ∃ I5 : Int → World → Prop, ∃ μ6 : Int → World → Nat, I5 0 w ∧
  ∀ t13_7 (j8 : Nat → Value) (w9 : World), I5 t13_7 w9 →
  (V.sel (decide (t13_7 < ((A4l : Nat) : Int)))
  (∃ S10 : World → Prop, S10 (World.drew w9) ∧
  V.ptr s_1 fun a12 =>
  ∃ A13, ∃ A13l, ∃ A13c, (∀ w11, S10 w11 → World.cell? w11 (Addr.add a12 1) = some (Value.slice A13 A13l A13c)) ∧
  V.when (decide ((0 : Int) ≤ t13_7 ∧ (t13_7 : Int) < ((A13l : Nat) : Int))) (V.ptr A13 fun a14 =>
  ∃ n15, (∀ w11, S10 w11 → World.cell? w11 (Addr.add a14 ((Int.toNat t13_7) * 1)) = some (Value.int .u64 n15)) ∧
  Calls Tryd.prog 44 #[(Value.pointer t_2), (Value.int .i64 t13_7)] (World.drew w9) fun e17 w18 =>
  ∃ n16, e17 = Ending.returned (Value.int .u64 n16) ∧
  S10 w18 ∧
  V.when (decide ((0 : Int) ≤ t13_7 ∧ (t13_7 : Int) < ((A13l : Nat) : Int))) (V.ptr A13 fun a19 =>
  (∃ u20, World.cell? w18 (Addr.add (Addr.add a19 ((Int.toNat t13_7) * 1)) 0) = some u20) ∧ World.frozen? w18 (Addr.add (Addr.add a19 ((Int.toNat t13_7) * 1)) 0) = false ∧
  I5 (IntKind.wrap .i64 (t13_7 + 1)) (World.setCell w18 (Addr.add (Addr.add a19 ((Int.toNat t13_7) * 1)) 0) (Value.int .u64 (IntKind.wrap .u64 ((BitVec.toNat (BitVec.ofInt 64 n15 ||| BitVec.ofInt 64 n16) : Nat) : Int)))) ∧ μ6 (IntKind.wrap .i64 (t13_7 + 1)) (World.setCell w18 (Addr.add (Addr.add a19 ((Int.toNat t13_7) * 1)) 0) (Value.int .u64 (IntKind.wrap .u64 ((BitVec.toNat (BitVec.ofInt 64 n15 ||| BitVec.ofInt 64 n16) : Nat) : Int)))) < μ6 t13_7 w9)))
  (V.ptr s_1 fun a21 =>
  ∃ n22, World.cell? w9 (Addr.add a21 0) = some (Value.int .i64 n22) ∧
  V.sel ((Int.tmod n22 64) != 0)
  (V.ptr s_1 fun a23 =>
  ∃ A24, ∃ A24l, ∃ A24c, World.cell? w9 (Addr.add a23 1) = some (Value.slice A24 A24l A24c) ∧
  V.ptr s_1 fun a25 =>
  ∃ A26, ∃ A26l, ∃ A26c, World.cell? w9 (Addr.add a25 1) = some (Value.slice A26 A26l A26c) ∧
  V.when (decide ((0 : Int) ≤ (IntKind.wrap .i64 (((A26l : Nat) : Int) - 1)) ∧ ((IntKind.wrap .i64 (((A26l : Nat) : Int) - 1)) : Int) < ((A24l : Nat) : Int))) (V.ptr A24 fun a27 =>
  ∃ n28, World.cell? w9 (Addr.add a27 ((Int.toNat (IntKind.wrap .i64 (((A26l : Nat) : Int) - 1))) * 1)) = some (Value.int .u64 n28) ∧
  V.when (decide (0 ≤ (Int.tmod n22 64))) (V.when (decide ((0 : Int) ≤ (IntKind.wrap .i64 (((A26l : Nat) : Int) - 1)) ∧ ((IntKind.wrap .i64 (((A26l : Nat) : Int) - 1)) : Int) < ((A24l : Nat) : Int))) (V.ptr A24 fun a29 =>
  (∃ u30, World.cell? (World.drew w9) (Addr.add (Addr.add a29 ((Int.toNat (IntKind.wrap .i64 (((A26l : Nat) : Int) - 1))) * 1)) 0) = some u30) ∧ World.frozen? (World.drew w9) (Addr.add (Addr.add a29 ((Int.toNat (IntKind.wrap .i64 (((A26l : Nat) : Int) - 1))) * 1)) 0) = false ∧
  R (Ending.returned undef) (World.setCell (World.drew w9) (Addr.add (Addr.add a29 ((Int.toNat (IntKind.wrap .i64 (((A26l : Nat) : Int) - 1))) * 1)) 0) (Value.int .u64 (IntKind.wrap .u64 ((BitVec.toNat (BitVec.ofInt 64 n28 &&& BitVec.ofInt 64 (IntKind.wrap .u64 ((IntKind.wrap .u64 (1 * 2 ^ (min (Int.toNat (Int.tmod n22 64)) 64))) - 1))) : Nat) : Int))))))))
  (R (Ending.returned undef) w9))))) :
  Calls Tryd.prog 23 #[(Value.pointer s_1), (Value.pointer t_2)] w R :=
  V.calls_of_R ⟨V.assoc [(0, [13])], V.assocP [(4, V.line [0, 1, 2, 3, 4, 5, 6, 7, 8, 9, 10, 11, 12]), (8, V.line [0, 1, 2, 3, 4, 5, 6, 7, 8, 9, 10, 11, 12, 13, 14, 15, 16, 17])], V.assocC [], V.assocS [], ⟨[], false⟩⟩ Tryd.func23 rfl (Eq.mp (by kernel_rfl) h)

theorem bitset_Set_AndNotWith_nf (s_1 : Option Addr) (t_2 : Option Addr) (w : World) (R : Ending → World → Prop) (h :
  V.sel (Option.isNone s_1)
  (R (Ending.returned undef) w)
  (V.ptr s_1 fun a3 =>
  ∃ A4, ∃ A4l, ∃ A4c, World.cell? w (Addr.add a3 1) = some (Value.slice A4 A4l A4c) ∧
  ∃ I5 : Int → World → Prop, ∃ μ6 : Int → World → Nat, I5 0 w ∧
  ∀ t12_7 (j8 : Nat → Value) (w9 : World), I5 t12_7 w9 →
  (V.sel (decide (t12_7 < ((A4l : Nat) : Int)))
  (∃ S10 : World → Prop, S10 (World.drew w9) ∧
  V.ptr s_1 fun a12 =>
  ∃ A13, ∃ A13l, ∃ A13c, (∀ w11, S10 w11 → World.cell? w11 (Addr.add a12 1) = some (Value.slice A13 A13l A13c)) ∧
  V.when (decide ((0 : Int) ≤ t12_7 ∧ (t12_7 : Int) < ((A13l : Nat) : Int))) (V.ptr A13 fun a14 =>
  ∃ n15, (∀ w11, S10 w11 → World.cell? w11 (Addr.add a14 ((Int.toNat t12_7) * 1)) = some (Value.int .u64 n15)) ∧
  Calls Tryd.prog 44 #[(Value.pointer t_2), (Value.int .i64 t12_7)] (World.drew w9) fun e17 w18 =>
  ∃ n16, e17 = Ending.returned (Value.int .u64 n16) ∧
  S10 w18 ∧
  V.when (decide ((0 : Int) ≤ t12_7 ∧ (t12_7 : Int) < ((A13l : Nat) : Int))) (V.ptr A13 fun a19 =>
  (∃ u20, World.cell? w18 (Addr.add (Addr.add a19 ((Int.toNat t12_7) * 1)) 0) = some u20) ∧ World.frozen? w18 (Addr.add (Addr.add a19 ((Int.toNat t12_7) * 1)) 0) = false ∧
  I5 (IntKind.wrap .i64 (t12_7 + 1)) (World.setCell w18 (Addr.add (Addr.add a19 ((Int.toNat t12_7) * 1)) 0) (Value.int .u64 (IntKind.wrap .u64 ((BitVec.toNat (BitVec.ofInt 64 n15 &&& ~~~(BitVec.ofInt 64 n16)) : Nat) : Int)))) ∧ μ6 (IntKind.wrap .i64 (t12_7 + 1)) (World.setCell w18 (Addr.add (Addr.add a19 ((Int.toNat t12_7) * 1)) 0) (Value.int .u64 (IntKind.wrap .u64 ((BitVec.toNat (BitVec.ofInt 64 n15 &&& ~~~(BitVec.ofInt 64 n16)) : Nat) : Int)))) < μ6 t12_7 w9)))
  (R (Ending.returned undef) w9)))) :
  Calls Tryd.prog 24 #[(Value.pointer s_1), (Value.pointer t_2)] w R :=
  V.calls_of_R ⟨V.assoc [(0, [12])], V.assocP [(4, V.line [0, 1, 2, 3, 4, 5, 6, 7, 8, 9, 10, 11, 12])], V.assocC [], V.assocS [], ⟨[], false⟩⟩ Tryd.func24 rfl (Eq.mp (by kernel_rfl) h)

theorem bitset_Set_Words_nf (s_1 : Option Addr) (w : World) (R : Ending → World → Prop) (h :
  Calls Tryd.prog 27 #[(Value.pointer s_1)] w fun e3 w4 =>
  ∃ p2, e3 = Ending.returned (Value.pointer p2) ∧
  V.ptr p2 fun a5 =>
  ∃ A6, ∃ A6l, ∃ A6c, World.cell? w4 (Addr.add a5 1) = some (Value.slice A6 A6l A6c) ∧
  R (Ending.returned (Value.slice A6 A6l A6c)) w4) :
  Calls Tryd.prog 25 #[(Value.pointer s_1)] w R :=
  V.calls_of_R ⟨V.assoc [], V.assocP [], V.assocC [], V.assocS [], ⟨[], false⟩⟩ Tryd.func25 rfl (Eq.mp (by kernel_rfl) h)

theorem berthlaw01_walk_nf (s_1 : Option Addr) (n_2 : Int) (w : World) (R : Ending → World → Prop) (h :
  ∀ w3, w3 = (World.alloc w (.cells #[(Value.int .i64 n_2)] 3)) →
  ∀ w4, w4 = (World.alloc w3 (.cells #[(Value.slice none 0 0)] 22)) →
  Calls Tryd.prog 45 #[(Value.pointer s_1)] w4 fun e6 w7 =>
  ∃ f5, ∃ f5a, ∃ f5c, e6 = Ending.returned (Value.func (.func f5) f5a f5c) ∧
  V.when (V.hasB Tryd.prog f5 && true) (∀ (Rc8 : Loop) (l9 : Nat) (w10 : World), l9 = Array.size (World.heap w7) + 1 → w10 = World.alloc (World.alloc w7 (.deferred (some []))) (.loop { Rc8 with state := .ready, pending := none }) →
  (∀ y14_13 (W11 : World) (R12 : Ending → World → Prop), V.LoopSt W11 l9 Rc8 .ready none →
  (V.LoopSt W11 l9 Rc8 .ready none ∧
  ∃ A14, ∃ A14l, ∃ A14c, World.cell? (V.setLoop W11 l9 Rc8 .busy none) ⟨Array.size (World.heap w3), 0, none⟩ = some (Value.slice A14 A14l A14c) ∧
  ∀ w15, w15 = (World.alloc (V.setLoop W11 l9 Rc8 .busy none) (.cells #[(Value.int .i64 y14_13)] 3)) →
  ∃ A16, ∃ A16l, ∃ A16c, ∃ w17, Sem.run Tryd.prog (Builtin.append_ #[22, 22] 22 #[(Value.slice A14 A14l A14c), (Value.slice (some ⟨Array.size (World.heap (V.setLoop W11 l9 Rc8 .busy none)), 0, none⟩) 1 1)]) w15 = .ok (Value.slice A16 A16l A16c) w17 ∧
  ∃ w18, Sem.run Tryd.prog (Instr.storeAt 22 (Value.pointer (some ⟨Array.size (World.heap w3), 0, none⟩)) (Value.slice A16 A16l A16c)) w17 = .ok () w18 ∧
  ∃ A19, ∃ A19l, ∃ A19c, World.cell? w18 ⟨Array.size (World.heap w3), 0, none⟩ = some (Value.slice A19 A19l A19c) ∧
  ∃ n20, World.cell? w18 ⟨Array.size (World.heap w), 0, none⟩ = some (Value.int .i64 n20) ∧
  V.sel (decide (((A19l : Nat) : Int) > n20))
  (V.LoopSt w18 l9 Rc8 .busy none ∧ R12 (Ending.returned (Value.bool false)) (V.setLoop w18 l9 Rc8 .done (some (Code.exit 0))))
  (V.LoopSt w18 l9 Rc8 .busy none ∧ R12 (Ending.returned (Value.bool true)) (V.setLoop w18 l9 Rc8 .ready none))) →
  V.Yield Tryd.prog l9 [(Value.int .i64 y14_13)] W11 R12) →
  Calls Tryd.prog f5 ⟨Array.toList f5a ++ [(Value.func (.yield l9) #[] #[])] ++ Array.toList f5c⟩ w10 fun e21 w23 => (∃ v22, e21 = Ending.returned v22) ∧
  ((V.LoopSt w23 l9 Rc8 .ready none ∧
  ∃ A24, ∃ A24l, ∃ A24c, World.cell? (V.setLoop w23 l9 Rc8 .exhausted none) ⟨Array.size (World.heap w3), 0, none⟩ = some (Value.slice A24 A24l A24c) ∧
  V.closeR (Array.size (World.heap w7) :: []) (V.setLoop w23 l9 Rc8 .exhausted none) fun w25 =>
  R (Ending.returned (Value.slice A24 A24l A24c)) w25) ∨
  (V.LoopSt w23 l9 Rc8 .done (some (Code.exit 0)) ∧
  ∃ A26, ∃ A26l, ∃ A26c, World.cell? (V.setLoop w23 l9 Rc8 .exhausted (some (Code.exit 0))) ⟨Array.size (World.heap w3), 0, none⟩ = some (Value.slice A26 A26l A26c) ∧
  V.closeR (Array.size (World.heap w7) :: []) (V.setLoop w23 l9 Rc8 .exhausted (some (Code.exit 0))) fun w27 =>
  R (Ending.returned (Value.slice A26 A26l A26c)) w27) ∨
  False))) :
  Calls Tryd.prog 26 #[(Value.pointer s_1), (Value.int .i64 n_2)] w R :=
  V.calls_of_R ⟨V.assoc [], V.assocP [], V.assocC [], V.assocS [(0, [V.Sh.one (.int .i64)])], ⟨[], true⟩⟩ Tryd.func26 rfl (Eq.mp (by kernel_rfl) h)

theorem bitset_Set_Clone_nf (s_1 : Option Addr) (w : World) (R : Ending → World → Prop) (h :
  Calls Tryd.prog 9 #[(Value.pointer s_1)] w fun e3 w4 =>
  ∃ n2, e3 = Ending.returned (Value.int .i64 n2) ∧
  Calls Tryd.prog 46 #[(Value.int .i64 n2)] w4 fun e6 w7 =>
  ∃ p5, e6 = Ending.returned (Value.pointer p5) ∧
  V.ptr p5 fun a8 =>
  ∃ A9, ∃ A9l, ∃ A9c, World.cell? w7 (Addr.add a8 1) = some (Value.slice A9 A9l A9c) ∧
  ∃ I10 : Int → World → Prop, ∃ μ11 : Int → World → Nat, I10 0 w7 ∧
  ∀ t13_12 (j13 : Nat → Value) (w14 : World), I10 t13_12 w14 →
  (V.sel (decide (t13_12 < ((A9l : Nat) : Int)))
  (V.ptr p5 fun a15 =>
  ∃ A16, ∃ A16l, ∃ A16c, World.cell? w14 (Addr.add a15 1) = some (Value.slice A16 A16l A16c) ∧
  V.ptr s_1 fun a17 =>
  ∃ A18, ∃ A18l, ∃ A18c, World.cell? w14 (Addr.add a17 1) = some (Value.slice A18 A18l A18c) ∧
  V.when (decide ((0 : Int) ≤ t13_12 ∧ (t13_12 : Int) < ((A18l : Nat) : Int))) (V.ptr A18 fun a19 =>
  ∃ n20, World.cell? w14 (Addr.add a19 ((Int.toNat t13_12) * 1)) = some (Value.int .u64 n20) ∧
  V.when (decide ((0 : Int) ≤ t13_12 ∧ (t13_12 : Int) < ((A16l : Nat) : Int))) (V.ptr A16 fun a21 =>
  (∃ u22, World.cell? (World.drew w14) (Addr.add (Addr.add a21 ((Int.toNat t13_12) * 1)) 0) = some u22) ∧ World.frozen? (World.drew w14) (Addr.add (Addr.add a21 ((Int.toNat t13_12) * 1)) 0) = false ∧
  I10 (IntKind.wrap .i64 (t13_12 + 1)) (World.setCell (World.drew w14) (Addr.add (Addr.add a21 ((Int.toNat t13_12) * 1)) 0) (Value.int .u64 n20)) ∧ μ11 (IntKind.wrap .i64 (t13_12 + 1)) (World.setCell (World.drew w14) (Addr.add (Addr.add a21 ((Int.toNat t13_12) * 1)) 0) (Value.int .u64 n20)) < μ11 t13_12 w14)))
  (R (Ending.returned (Value.pointer p5)) w14))) :
  Calls Tryd.prog 27 #[(Value.pointer s_1)] w R :=
  V.calls_of_R ⟨V.assoc [(0, [13])], V.assocP [(5, V.line [0, 1, 2, 3, 4, 5, 6, 7, 8, 9, 10, 11, 12, 13])], V.assocC [], V.assocS [], ⟨[], false⟩⟩ Tryd.func27 rfl (Eq.mp (by kernel_rfl) h)

theorem bitset_And_nf (a_1 : Option Addr) (b_2 : Option Addr) (w : World) (R : Ending → World → Prop) (h :
  Calls Tryd.prog 47 #[(Value.pointer a_1), (Value.pointer b_2), (Value.func (.func 48) #[] #[])] w fun e4 w5 =>
  ∃ p3, e4 = Ending.returned (Value.pointer p3) ∧
  R (Ending.returned (Value.pointer p3)) w5) :
  Calls Tryd.prog 28 #[(Value.pointer a_1), (Value.pointer b_2)] w R :=
  V.calls_of_R ⟨V.assoc [], V.assocP [], V.assocC [], V.assocS [], ⟨[], false⟩⟩ Tryd.func28 rfl (Eq.mp (by kernel_rfl) h)

theorem bitset_Or_nf (a_1 : Option Addr) (b_2 : Option Addr) (w : World) (R : Ending → World → Prop) (h :
  Calls Tryd.prog 47 #[(Value.pointer a_1), (Value.pointer b_2), (Value.func (.func 49) #[] #[])] w fun e4 w5 =>
  ∃ p3, e4 = Ending.returned (Value.pointer p3) ∧
  R (Ending.returned (Value.pointer p3)) w5) :
  Calls Tryd.prog 29 #[(Value.pointer a_1), (Value.pointer b_2)] w R :=
  V.calls_of_R ⟨V.assoc [], V.assocP [], V.assocC [], V.assocS [], ⟨[], false⟩⟩ Tryd.func29 rfl (Eq.mp (by kernel_rfl) h)

theorem bitset_AndNot_nf (a_1 : Option Addr) (b_2 : Option Addr) (w : World) (R : Ending → World → Prop) (h :
  Calls Tryd.prog 47 #[(Value.pointer a_1), (Value.pointer b_2), (Value.func (.func 50) #[] #[])] w fun e4 w5 =>
  ∃ p3, e4 = Ending.returned (Value.pointer p3) ∧
  R (Ending.returned (Value.pointer p3)) w5) :
  Calls Tryd.prog 30 #[(Value.pointer a_1), (Value.pointer b_2)] w R :=
  V.calls_of_R ⟨V.assoc [], V.assocP [], V.assocC [], V.assocS [], ⟨[], false⟩⟩ Tryd.func30 rfl (Eq.mp (by kernel_rfl) h)

theorem bitset_Xor_nf (a_1 : Option Addr) (b_2 : Option Addr) (w : World) (R : Ending → World → Prop) (h :
  Calls Tryd.prog 47 #[(Value.pointer a_1), (Value.pointer b_2), (Value.func (.func 51) #[] #[])] w fun e4 w5 =>
  ∃ p3, e4 = Ending.returned (Value.pointer p3) ∧
  R (Ending.returned (Value.pointer p3)) w5) :
  Calls Tryd.prog 31 #[(Value.pointer a_1), (Value.pointer b_2)] w R :=
  V.calls_of_R ⟨V.assoc [], V.assocP [], V.assocC [], V.assocS [], ⟨[], false⟩⟩ Tryd.func31 rfl (Eq.mp (by kernel_rfl) h)

theorem bitset_Not_nf (a_1 : Option Addr) (live_2 : Option Addr) (w : World) (R : Ending → World → Prop) (h :
  Calls Tryd.prog 9 #[(Value.pointer live_2)] w fun e4 w5 =>
  ∃ n3, e4 = Ending.returned (Value.int .i64 n3) ∧
  Calls Tryd.prog 46 #[(Value.int .i64 n3)] w5 fun e7 w8 =>
  ∃ p6, e7 = Ending.returned (Value.pointer p6) ∧
  V.ptr p6 fun a9 =>
  ∃ A10, ∃ A10l, ∃ A10c, World.cell? w8 (Addr.add a9 1) = some (Value.slice A10 A10l A10c) ∧
  ∃ I11 : Int → World → Prop, ∃ μ12 : Int → World → Nat, I11 0 w8 ∧
  ∀ t15_13 (j14 : Nat → Value) (w15 : World), I11 t15_13 w15 →
  (V.sel (decide (t15_13 < ((A10l : Nat) : Int)))
  (∃ S16 : World → Prop, S16 (World.drew w15) ∧
  V.ptr p6 fun a18 =>
  ∃ A19, ∃ A19l, ∃ A19c, (∀ w17, S16 w17 → World.cell? w17 (Addr.add a18 1) = some (Value.slice A19 A19l A19c)) ∧
  Calls Tryd.prog 44 #[(Value.pointer live_2), (Value.int .i64 t15_13)] (World.drew w15) fun e21 w22 =>
  ∃ n20, e21 = Ending.returned (Value.int .u64 n20) ∧
  S16 w22 ∧
  Calls Tryd.prog 44 #[(Value.pointer a_1), (Value.int .i64 t15_13)] w22 fun e24 w25 =>
  ∃ n23, e24 = Ending.returned (Value.int .u64 n23) ∧
  S16 w25 ∧
  V.when (decide ((0 : Int) ≤ t15_13 ∧ (t15_13 : Int) < ((A19l : Nat) : Int))) (V.ptr A19 fun a26 =>
  (∃ u27, World.cell? w25 (Addr.add (Addr.add a26 ((Int.toNat t15_13) * 1)) 0) = some u27) ∧ World.frozen? w25 (Addr.add (Addr.add a26 ((Int.toNat t15_13) * 1)) 0) = false ∧
  I11 (IntKind.wrap .i64 (t15_13 + 1)) (World.setCell w25 (Addr.add (Addr.add a26 ((Int.toNat t15_13) * 1)) 0) (Value.int .u64 (IntKind.wrap .u64 ((BitVec.toNat (BitVec.ofInt 64 n20 &&& ~~~(BitVec.ofInt 64 n23)) : Nat) : Int)))) ∧ μ12 (IntKind.wrap .i64 (t15_13 + 1)) (World.setCell w25 (Addr.add (Addr.add a26 ((Int.toNat t15_13) * 1)) 0) (Value.int .u64 (IntKind.wrap .u64 ((BitVec.toNat (BitVec.ofInt 64 n20 &&& ~~~(BitVec.ofInt 64 n23)) : Nat) : Int)))) < μ12 t15_13 w15))
  (R (Ending.returned (Value.pointer p6)) w15))) :
  Calls Tryd.prog 32 #[(Value.pointer a_1), (Value.pointer live_2)] w R :=
  V.calls_of_R ⟨V.assoc [(0, [15])], V.assocP [(5, V.line [0, 1, 2, 3, 4, 5, 6, 8, 9, 7, 10, 11, 12, 13])], V.assocC [], V.assocS [], ⟨[], false⟩⟩ Tryd.func32 rfl (Eq.mp (by kernel_rfl) h)

theorem berthlaw01_all_nf (l_1 : Option Addr) (l_1l : Nat) (l_1c : Nat) (w : World) (R : Ending → World → Prop) (h :
  ∃ I2 : Int → World → Prop, ∃ μ3 : Int → World → Nat, I2 0 w ∧
  ∀ i_4 (j5 : Nat → Value) (w6 : World), I2 i_4 w6 →
  (V.sel (decide (i_4 < ((l_1l : Nat) : Int)))
  (V.when (decide ((0 : Int) ≤ i_4 ∧ (i_4 : Int) < ((l_1l : Nat) : Int))) (V.ptr l_1 fun a7 =>
  ∃ p8, World.cell? w6 (Addr.add a7 ((Int.toNat i_4) * 1)) = some (Value.pointer p8) ∧
  V.sel (Option.isNone p8)
  (R (Ending.returned (Value.bool false)) w6)
  (I2 (IntKind.wrap .i64 (i_4 + 1)) w6 ∧ μ3 (IntKind.wrap .i64 (i_4 + 1)) w6 < μ3 i_4 w6)))
  (R (Ending.returned (Value.bool true)) w6))) :
  Calls Tryd.prog 33 #[(Value.slice l_1 l_1l l_1c)] w R :=
  V.calls_of_R ⟨V.assoc [(0, [3])], V.assocP [], V.assocC [], V.assocS [], ⟨[], false⟩⟩ Tryd.func33 rfl (Eq.mp (by kernel_rfl) h)

theorem bitset_Equal_nf (a_1 : Option Addr) (b_2 : Option Addr) (w : World) (R : Ending → World → Prop) (h :
  Calls Tryd.prog 52 #[(Value.pointer a_1), (Value.pointer b_2)] w fun e4 w5 =>
  ∃ n3, e4 = Ending.returned (Value.int .i64 n3) ∧
  ∃ I6 : Int → World → Prop, ∃ μ7 : Int → World → Nat, I6 0 w5 ∧
  ∀ t9_8 (j9 : Nat → Value) (w10 : World), I6 t9_8 w10 →
  (V.sel (decide (t9_8 < n3))
  (Calls Tryd.prog 44 #[(Value.pointer a_1), (Value.int .i64 t9_8)] w10 fun e12 w13 =>
  ∃ n11, e12 = Ending.returned (Value.int .u64 n11) ∧
  Calls Tryd.prog 44 #[(Value.pointer b_2), (Value.int .i64 t9_8)] w13 fun e15 w16 =>
  ∃ n14, e15 = Ending.returned (Value.int .u64 n14) ∧
  V.sel (n11 != n14)
  (R (Ending.returned (Value.bool false)) w16)
  (I6 (IntKind.wrap .i64 (t9_8 + 1)) w16 ∧ μ7 (IntKind.wrap .i64 (t9_8 + 1)) w16 < μ7 t9_8 w10))
  (R (Ending.returned (Value.bool true)) w10))) :
  Calls Tryd.prog 34 #[(Value.pointer a_1), (Value.pointer b_2)] w R :=
  V.calls_of_R ⟨V.assoc [(0, [9])], V.assocP [], V.assocC [], V.assocS [], ⟨[], false⟩⟩ Tryd.func34 rfl (Eq.mp (by kernel_rfl) h)

theorem bitset_Subset_nf (a_1 : Option Addr) (b_2 : Option Addr) (w : World) (R : Ending → World → Prop) (h :
  Calls Tryd.prog 52 #[(Value.pointer a_1), (Value.pointer b_2)] w fun e4 w5 =>
  ∃ n3, e4 = Ending.returned (Value.int .i64 n3) ∧
  ∃ I6 : Int → World → Prop, ∃ μ7 : Int → World → Nat, I6 0 w5 ∧
  ∀ t9_8 (j9 : Nat → Value) (w10 : World), I6 t9_8 w10 →
  (V.sel (decide (t9_8 < n3))
  (Calls Tryd.prog 44 #[(Value.pointer a_1), (Value.int .i64 t9_8)] w10 fun e12 w13 =>
  ∃ n11, e12 = Ending.returned (Value.int .u64 n11) ∧
  Calls Tryd.prog 44 #[(Value.pointer b_2), (Value.int .i64 t9_8)] w13 fun e15 w16 =>
  ∃ n14, e15 = Ending.returned (Value.int .u64 n14) ∧
  V.sel ((IntKind.wrap .u64 ((BitVec.toNat (BitVec.ofInt 64 n11 &&& ~~~(BitVec.ofInt 64 n14)) : Nat) : Int)) != 0)
  (R (Ending.returned (Value.bool false)) w16)
  (I6 (IntKind.wrap .i64 (t9_8 + 1)) w16 ∧ μ7 (IntKind.wrap .i64 (t9_8 + 1)) w16 < μ7 t9_8 w10))
  (R (Ending.returned (Value.bool true)) w10))) :
  Calls Tryd.prog 35 #[(Value.pointer a_1), (Value.pointer b_2)] w R :=
  V.calls_of_R ⟨V.assoc [(0, [9])], V.assocP [], V.assocC [], V.assocS [], ⟨[], false⟩⟩ Tryd.func35 rfl (Eq.mp (by kernel_rfl) h)

theorem bitset_Meets_nf (a_1 : Option Addr) (b_2 : Option Addr) (w : World) (R : Ending → World → Prop) (h :
  Calls Tryd.prog 52 #[(Value.pointer a_1), (Value.pointer b_2)] w fun e4 w5 =>
  ∃ n3, e4 = Ending.returned (Value.int .i64 n3) ∧
  ∃ I6 : Int → World → Prop, ∃ μ7 : Int → World → Nat, I6 0 w5 ∧
  ∀ t9_8 (j9 : Nat → Value) (w10 : World), I6 t9_8 w10 →
  (V.sel (decide (t9_8 < n3))
  (Calls Tryd.prog 44 #[(Value.pointer a_1), (Value.int .i64 t9_8)] w10 fun e12 w13 =>
  ∃ n11, e12 = Ending.returned (Value.int .u64 n11) ∧
  Calls Tryd.prog 44 #[(Value.pointer b_2), (Value.int .i64 t9_8)] w13 fun e15 w16 =>
  ∃ n14, e15 = Ending.returned (Value.int .u64 n14) ∧
  V.sel ((IntKind.wrap .u64 ((BitVec.toNat (BitVec.ofInt 64 n11 &&& BitVec.ofInt 64 n14) : Nat) : Int)) != 0)
  (R (Ending.returned (Value.bool true)) w16)
  (I6 (IntKind.wrap .i64 (t9_8 + 1)) w16 ∧ μ7 (IntKind.wrap .i64 (t9_8 + 1)) w16 < μ7 t9_8 w10))
  (R (Ending.returned (Value.bool false)) w10))) :
  Calls Tryd.prog 36 #[(Value.pointer a_1), (Value.pointer b_2)] w R :=
  V.calls_of_R ⟨V.assoc [(0, [9])], V.assocP [], V.assocC [], V.assocS [], ⟨[], false⟩⟩ Tryd.func36 rfl (Eq.mp (by kernel_rfl) h)

theorem berthlaw01_Regs_step_nf (g_1 : Option Addr) (o_2 : Int) (o_3 : Int) (o_4 : Int) (o_5 : Int) (o_6 : Int) (o_7 : Option Addr) (o_7l : Nat) (o_7c : Nat) (o_8 : Option Addr) (o_8l : Nat) (o_8c : Nat) (w : World) (R : Ending → World → Prop) (h :
  ∀ w9, w9 = (World.alloc w (.cells #[(Value.int .i64 o_2), (Value.int .i64 o_3), (Value.int .i64 o_4), (Value.int .i64 o_5), (Value.int .i64 o_6), (Value.slice o_7 o_7l o_7c), (Value.slice o_8 o_8l o_8c)] 56)) →
  ∃ n10, World.cell? w9 (Addr.add ⟨Array.size (World.heap w), 0, none⟩ 0) = some (Value.int .i64 n10) ∧
  V.sel (decide (n10 ≥ 1))
  (∃ n11, World.cell? w9 (Addr.add ⟨Array.size (World.heap w), 0, none⟩ 0) = some (Value.int .i64 n11) ∧
  V.sel (decide (n11 ≤ 3))
  (∃ n12, ∃ n13, ∃ n14, ∃ n15, ∃ n16, ∃ A17, ∃ A17l, ∃ A17c, ∃ A18, ∃ A18l, ∃ A18c, V.cellsC (fun a_ x_ => World.cell? w9 a_ = some x_) ⟨Array.size (World.heap w), 0, none⟩ [(Value.int .i64 n12), (Value.int .i64 n13), (Value.int .i64 n14), (Value.int .i64 n15), (Value.int .i64 n16), (Value.slice A17 A17l A17c), (Value.slice A18 A18l A18c)] ∧
  Calls Tryd.prog 53 #[(Value.pointer g_1), (Value.agg #[(Value.int .i64 n12), (Value.int .i64 n13), (Value.int .i64 n14), (Value.int .i64 n15), (Value.int .i64 n16), (Value.slice A17 A17l A17c), (Value.slice A18 A18l A18c)])] w9 fun e20 w21 =>
  ∃ b19, e20 = Ending.returned (Value.bool b19) ∧
  R (Ending.returned (Value.bool b19)) w21)
  (∃ n22, World.cell? w9 (Addr.add ⟨Array.size (World.heap w), 0, none⟩ 0) = some (Value.int .i64 n22) ∧
  V.sel (decide (n22 ≥ 4))
  (∃ n23, World.cell? w9 (Addr.add ⟨Array.size (World.heap w), 0, none⟩ 0) = some (Value.int .i64 n23) ∧
  V.sel (decide (n23 ≤ 9))
  (∃ n24, ∃ n25, ∃ n26, ∃ n27, ∃ n28, ∃ A29, ∃ A29l, ∃ A29c, ∃ A30, ∃ A30l, ∃ A30c, V.cellsC (fun a_ x_ => World.cell? w9 a_ = some x_) ⟨Array.size (World.heap w), 0, none⟩ [(Value.int .i64 n24), (Value.int .i64 n25), (Value.int .i64 n26), (Value.int .i64 n27), (Value.int .i64 n28), (Value.slice A29 A29l A29c), (Value.slice A30 A30l A30c)] ∧
  Calls Tryd.prog 54 #[(Value.pointer g_1), (Value.agg #[(Value.int .i64 n24), (Value.int .i64 n25), (Value.int .i64 n26), (Value.int .i64 n27), (Value.int .i64 n28), (Value.slice A29 A29l A29c), (Value.slice A30 A30l A30c)])] w9 fun e32 w33 =>
  ∃ b31, e32 = Ending.returned (Value.bool b31) ∧
  R (Ending.returned (Value.bool b31)) w33)
  (∃ n34, World.cell? w9 (Addr.add ⟨Array.size (World.heap w), 0, none⟩ 0) = some (Value.int .i64 n34) ∧
  V.sel (n34 == 10)
  (∃ S35 : World → Prop, S35 (World.drew w9) ∧
  ∃ n37, (∀ w36, S35 w36 → World.cell? w36 (Addr.add ⟨Array.size (World.heap w), 0, none⟩ 1) = some (Value.int .i64 n37)) ∧
  ∃ n38, (∀ w36, S35 w36 → World.cell? w36 (Addr.add ⟨Array.size (World.heap w), 0, none⟩ 1) = some (Value.int .i64 n38)) ∧
  ∃ n39, (∀ w36, S35 w36 → World.cell? w36 (Addr.add ⟨Array.size (World.heap w), 0, none⟩ 1) = some (Value.int .i64 n39)) ∧
  V.ptr g_1 fun a40 =>
  V.when (decide ((0 : Int) ≤ (IntKind.wrap .i64 ((BitVec.toNat (BitVec.ofInt 64 n37 &&& BitVec.ofInt 64 3) : Nat) : Int)) ∧ ((IntKind.wrap .i64 ((BitVec.toNat (BitVec.ofInt 64 n37 &&& BitVec.ofInt 64 3) : Nat) : Int)) : Int) < 4)) (V.ptr g_1 fun a41 =>
  V.ptr g_1 fun a42 =>
  ∃ w43, Sem.run Tryd.prog (Instr.storeAt 27 (Value.pointer (some (Addr.add (Addr.add a40 0) ((Int.toNat (IntKind.wrap .i64 ((BitVec.toNat (BitVec.ofInt 64 n37 &&& BitVec.ofInt 64 3) : Nat) : Int))) * 1)))) (Value.pointer none)) (World.drew w9) = .ok () w43 ∧
  S35 w43 ∧
  V.when (decide ((0 : Int) ≤ (IntKind.wrap .i64 ((BitVec.toNat (BitVec.ofInt 64 n38 &&& BitVec.ofInt 64 3) : Nat) : Int)) ∧ ((IntKind.wrap .i64 ((BitVec.toNat (BitVec.ofInt 64 n38 &&& BitVec.ofInt 64 3) : Nat) : Int)) : Int) < 4)) (∃ w44, Sem.run Tryd.prog (Instr.storeAt 50 (Value.pointer (some (Addr.add (Addr.add a41 4) ((Int.toNat (IntKind.wrap .i64 ((BitVec.toNat (BitVec.ofInt 64 n38 &&& BitVec.ofInt 64 3) : Nat) : Int))) * 2)))) (Value.agg #[(Value.int .i64 0), (Value.slice none 0 0)])) w43 = .ok () w44 ∧
  S35 w44 ∧
  V.when (decide ((0 : Int) ≤ (IntKind.wrap .i64 ((BitVec.toNat (BitVec.ofInt 64 n39 &&& BitVec.ofInt 64 3) : Nat) : Int)) ∧ ((IntKind.wrap .i64 ((BitVec.toNat (BitVec.ofInt 64 n39 &&& BitVec.ofInt 64 3) : Nat) : Int)) : Int) < 4)) (∃ w45, Sem.run Tryd.prog (Instr.storeAt 4 (Value.pointer (some (Addr.add (Addr.add a42 12) ((Int.toNat (IntKind.wrap .i64 ((BitVec.toNat (BitVec.ofInt 64 n39 &&& BitVec.ofInt 64 3) : Nat) : Int))) * 1)))) (Value.bool true)) w44 = .ok () w45 ∧
  S35 w45 ∧
  R (Ending.returned (Value.bool true)) w45))))
  (∃ n46, World.cell? w9 (Addr.add ⟨Array.size (World.heap w), 0, none⟩ 0) = some (Value.int .i64 n46) ∧
  V.sel (decide (n46 ≥ 11))
  (∃ n47, World.cell? w9 (Addr.add ⟨Array.size (World.heap w), 0, none⟩ 0) = some (Value.int .i64 n47) ∧
  V.sel (decide (n47 ≤ 16))
  (∃ n48, ∃ n49, ∃ n50, ∃ n51, ∃ n52, ∃ A53, ∃ A53l, ∃ A53c, ∃ A54, ∃ A54l, ∃ A54c, V.cellsC (fun a_ x_ => World.cell? w9 a_ = some x_) ⟨Array.size (World.heap w), 0, none⟩ [(Value.int .i64 n48), (Value.int .i64 n49), (Value.int .i64 n50), (Value.int .i64 n51), (Value.int .i64 n52), (Value.slice A53 A53l A53c), (Value.slice A54 A54l A54c)] ∧
  Calls Tryd.prog 55 #[(Value.pointer g_1), (Value.agg #[(Value.int .i64 n48), (Value.int .i64 n49), (Value.int .i64 n50), (Value.int .i64 n51), (Value.int .i64 n52), (Value.slice A53 A53l A53c), (Value.slice A54 A54l A54c)])] w9 fun e56 w57 =>
  ∃ b55, e56 = Ending.returned (Value.bool b55) ∧
  R (Ending.returned (Value.bool b55)) w57)
  (∃ n58, World.cell? w9 (Addr.add ⟨Array.size (World.heap w), 0, none⟩ 0) = some (Value.int .i64 n58) ∧
  V.sel (decide (n58 ≥ 17))
  (∃ n59, World.cell? w9 (Addr.add ⟨Array.size (World.heap w), 0, none⟩ 0) = some (Value.int .i64 n59) ∧
  V.sel (decide (n59 ≤ 26))
  (∃ n60, ∃ n61, ∃ n62, ∃ n63, ∃ n64, ∃ A65, ∃ A65l, ∃ A65c, ∃ A66, ∃ A66l, ∃ A66c, V.cellsC (fun a_ x_ => World.cell? w9 a_ = some x_) ⟨Array.size (World.heap w), 0, none⟩ [(Value.int .i64 n60), (Value.int .i64 n61), (Value.int .i64 n62), (Value.int .i64 n63), (Value.int .i64 n64), (Value.slice A65 A65l A65c), (Value.slice A66 A66l A66c)] ∧
  Calls Tryd.prog 56 #[(Value.pointer g_1), (Value.agg #[(Value.int .i64 n60), (Value.int .i64 n61), (Value.int .i64 n62), (Value.int .i64 n63), (Value.int .i64 n64), (Value.slice A65 A65l A65c), (Value.slice A66 A66l A66c)])] w9 fun e68 w69 =>
  ∃ b67, e68 = Ending.returned (Value.bool b67) ∧
  R (Ending.returned (Value.bool b67)) w69)
  (R (Ending.returned (Value.bool true)) w9))
  (R (Ending.returned (Value.bool true)) w9)))
  (∃ n70, World.cell? w9 (Addr.add ⟨Array.size (World.heap w), 0, none⟩ 0) = some (Value.int .i64 n70) ∧
  V.sel (decide (n70 ≥ 17))
  (∃ n71, World.cell? w9 (Addr.add ⟨Array.size (World.heap w), 0, none⟩ 0) = some (Value.int .i64 n71) ∧
  V.sel (decide (n71 ≤ 26))
  (∃ n72, ∃ n73, ∃ n74, ∃ n75, ∃ n76, ∃ A77, ∃ A77l, ∃ A77c, ∃ A78, ∃ A78l, ∃ A78c, V.cellsC (fun a_ x_ => World.cell? w9 a_ = some x_) ⟨Array.size (World.heap w), 0, none⟩ [(Value.int .i64 n72), (Value.int .i64 n73), (Value.int .i64 n74), (Value.int .i64 n75), (Value.int .i64 n76), (Value.slice A77 A77l A77c), (Value.slice A78 A78l A78c)] ∧
  Calls Tryd.prog 56 #[(Value.pointer g_1), (Value.agg #[(Value.int .i64 n72), (Value.int .i64 n73), (Value.int .i64 n74), (Value.int .i64 n75), (Value.int .i64 n76), (Value.slice A77 A77l A77c), (Value.slice A78 A78l A78c)])] w9 fun e80 w81 =>
  ∃ b79, e80 = Ending.returned (Value.bool b79) ∧
  R (Ending.returned (Value.bool b79)) w81)
  (R (Ending.returned (Value.bool true)) w9))
  (R (Ending.returned (Value.bool true)) w9)))))
  (∃ n82, World.cell? w9 (Addr.add ⟨Array.size (World.heap w), 0, none⟩ 0) = some (Value.int .i64 n82) ∧
  V.sel (n82 == 10)
  (∃ S83 : World → Prop, S83 (World.drew w9) ∧
  ∃ n85, (∀ w84, S83 w84 → World.cell? w84 (Addr.add ⟨Array.size (World.heap w), 0, none⟩ 1) = some (Value.int .i64 n85)) ∧
  ∃ n86, (∀ w84, S83 w84 → World.cell? w84 (Addr.add ⟨Array.size (World.heap w), 0, none⟩ 1) = some (Value.int .i64 n86)) ∧
  ∃ n87, (∀ w84, S83 w84 → World.cell? w84 (Addr.add ⟨Array.size (World.heap w), 0, none⟩ 1) = some (Value.int .i64 n87)) ∧
  V.ptr g_1 fun a88 =>
  V.when (decide ((0 : Int) ≤ (IntKind.wrap .i64 ((BitVec.toNat (BitVec.ofInt 64 n85 &&& BitVec.ofInt 64 3) : Nat) : Int)) ∧ ((IntKind.wrap .i64 ((BitVec.toNat (BitVec.ofInt 64 n85 &&& BitVec.ofInt 64 3) : Nat) : Int)) : Int) < 4)) (V.ptr g_1 fun a89 =>
  V.ptr g_1 fun a90 =>
  ∃ w91, Sem.run Tryd.prog (Instr.storeAt 27 (Value.pointer (some (Addr.add (Addr.add a88 0) ((Int.toNat (IntKind.wrap .i64 ((BitVec.toNat (BitVec.ofInt 64 n85 &&& BitVec.ofInt 64 3) : Nat) : Int))) * 1)))) (Value.pointer none)) (World.drew w9) = .ok () w91 ∧
  S83 w91 ∧
  V.when (decide ((0 : Int) ≤ (IntKind.wrap .i64 ((BitVec.toNat (BitVec.ofInt 64 n86 &&& BitVec.ofInt 64 3) : Nat) : Int)) ∧ ((IntKind.wrap .i64 ((BitVec.toNat (BitVec.ofInt 64 n86 &&& BitVec.ofInt 64 3) : Nat) : Int)) : Int) < 4)) (∃ w92, Sem.run Tryd.prog (Instr.storeAt 50 (Value.pointer (some (Addr.add (Addr.add a89 4) ((Int.toNat (IntKind.wrap .i64 ((BitVec.toNat (BitVec.ofInt 64 n86 &&& BitVec.ofInt 64 3) : Nat) : Int))) * 2)))) (Value.agg #[(Value.int .i64 0), (Value.slice none 0 0)])) w91 = .ok () w92 ∧
  S83 w92 ∧
  V.when (decide ((0 : Int) ≤ (IntKind.wrap .i64 ((BitVec.toNat (BitVec.ofInt 64 n87 &&& BitVec.ofInt 64 3) : Nat) : Int)) ∧ ((IntKind.wrap .i64 ((BitVec.toNat (BitVec.ofInt 64 n87 &&& BitVec.ofInt 64 3) : Nat) : Int)) : Int) < 4)) (∃ w93, Sem.run Tryd.prog (Instr.storeAt 4 (Value.pointer (some (Addr.add (Addr.add a90 12) ((Int.toNat (IntKind.wrap .i64 ((BitVec.toNat (BitVec.ofInt 64 n87 &&& BitVec.ofInt 64 3) : Nat) : Int))) * 1)))) (Value.bool true)) w92 = .ok () w93 ∧
  S83 w93 ∧
  R (Ending.returned (Value.bool true)) w93))))
  (∃ n94, World.cell? w9 (Addr.add ⟨Array.size (World.heap w), 0, none⟩ 0) = some (Value.int .i64 n94) ∧
  V.sel (decide (n94 ≥ 11))
  (∃ n95, World.cell? w9 (Addr.add ⟨Array.size (World.heap w), 0, none⟩ 0) = some (Value.int .i64 n95) ∧
  V.sel (decide (n95 ≤ 16))
  (∃ n96, ∃ n97, ∃ n98, ∃ n99, ∃ n100, ∃ A101, ∃ A101l, ∃ A101c, ∃ A102, ∃ A102l, ∃ A102c, V.cellsC (fun a_ x_ => World.cell? w9 a_ = some x_) ⟨Array.size (World.heap w), 0, none⟩ [(Value.int .i64 n96), (Value.int .i64 n97), (Value.int .i64 n98), (Value.int .i64 n99), (Value.int .i64 n100), (Value.slice A101 A101l A101c), (Value.slice A102 A102l A102c)] ∧
  Calls Tryd.prog 55 #[(Value.pointer g_1), (Value.agg #[(Value.int .i64 n96), (Value.int .i64 n97), (Value.int .i64 n98), (Value.int .i64 n99), (Value.int .i64 n100), (Value.slice A101 A101l A101c), (Value.slice A102 A102l A102c)])] w9 fun e104 w105 =>
  ∃ b103, e104 = Ending.returned (Value.bool b103) ∧
  R (Ending.returned (Value.bool b103)) w105)
  (∃ n106, World.cell? w9 (Addr.add ⟨Array.size (World.heap w), 0, none⟩ 0) = some (Value.int .i64 n106) ∧
  V.sel (decide (n106 ≥ 17))
  (∃ n107, World.cell? w9 (Addr.add ⟨Array.size (World.heap w), 0, none⟩ 0) = some (Value.int .i64 n107) ∧
  V.sel (decide (n107 ≤ 26))
  (∃ n108, ∃ n109, ∃ n110, ∃ n111, ∃ n112, ∃ A113, ∃ A113l, ∃ A113c, ∃ A114, ∃ A114l, ∃ A114c, V.cellsC (fun a_ x_ => World.cell? w9 a_ = some x_) ⟨Array.size (World.heap w), 0, none⟩ [(Value.int .i64 n108), (Value.int .i64 n109), (Value.int .i64 n110), (Value.int .i64 n111), (Value.int .i64 n112), (Value.slice A113 A113l A113c), (Value.slice A114 A114l A114c)] ∧
  Calls Tryd.prog 56 #[(Value.pointer g_1), (Value.agg #[(Value.int .i64 n108), (Value.int .i64 n109), (Value.int .i64 n110), (Value.int .i64 n111), (Value.int .i64 n112), (Value.slice A113 A113l A113c), (Value.slice A114 A114l A114c)])] w9 fun e116 w117 =>
  ∃ b115, e116 = Ending.returned (Value.bool b115) ∧
  R (Ending.returned (Value.bool b115)) w117)
  (R (Ending.returned (Value.bool true)) w9))
  (R (Ending.returned (Value.bool true)) w9)))
  (∃ n118, World.cell? w9 (Addr.add ⟨Array.size (World.heap w), 0, none⟩ 0) = some (Value.int .i64 n118) ∧
  V.sel (decide (n118 ≥ 17))
  (∃ n119, World.cell? w9 (Addr.add ⟨Array.size (World.heap w), 0, none⟩ 0) = some (Value.int .i64 n119) ∧
  V.sel (decide (n119 ≤ 26))
  (∃ n120, ∃ n121, ∃ n122, ∃ n123, ∃ n124, ∃ A125, ∃ A125l, ∃ A125c, ∃ A126, ∃ A126l, ∃ A126c, V.cellsC (fun a_ x_ => World.cell? w9 a_ = some x_) ⟨Array.size (World.heap w), 0, none⟩ [(Value.int .i64 n120), (Value.int .i64 n121), (Value.int .i64 n122), (Value.int .i64 n123), (Value.int .i64 n124), (Value.slice A125 A125l A125c), (Value.slice A126 A126l A126c)] ∧
  Calls Tryd.prog 56 #[(Value.pointer g_1), (Value.agg #[(Value.int .i64 n120), (Value.int .i64 n121), (Value.int .i64 n122), (Value.int .i64 n123), (Value.int .i64 n124), (Value.slice A125 A125l A125c), (Value.slice A126 A126l A126c)])] w9 fun e128 w129 =>
  ∃ b127, e128 = Ending.returned (Value.bool b127) ∧
  R (Ending.returned (Value.bool b127)) w129)
  (R (Ending.returned (Value.bool true)) w9))
  (R (Ending.returned (Value.bool true)) w9))))))
  (∃ n130, World.cell? w9 (Addr.add ⟨Array.size (World.heap w), 0, none⟩ 0) = some (Value.int .i64 n130) ∧
  V.sel (decide (n130 ≥ 4))
  (∃ n131, World.cell? w9 (Addr.add ⟨Array.size (World.heap w), 0, none⟩ 0) = some (Value.int .i64 n131) ∧
  V.sel (decide (n131 ≤ 9))
  (∃ n132, ∃ n133, ∃ n134, ∃ n135, ∃ n136, ∃ A137, ∃ A137l, ∃ A137c, ∃ A138, ∃ A138l, ∃ A138c, V.cellsC (fun a_ x_ => World.cell? w9 a_ = some x_) ⟨Array.size (World.heap w), 0, none⟩ [(Value.int .i64 n132), (Value.int .i64 n133), (Value.int .i64 n134), (Value.int .i64 n135), (Value.int .i64 n136), (Value.slice A137 A137l A137c), (Value.slice A138 A138l A138c)] ∧
  Calls Tryd.prog 54 #[(Value.pointer g_1), (Value.agg #[(Value.int .i64 n132), (Value.int .i64 n133), (Value.int .i64 n134), (Value.int .i64 n135), (Value.int .i64 n136), (Value.slice A137 A137l A137c), (Value.slice A138 A138l A138c)])] w9 fun e140 w141 =>
  ∃ b139, e140 = Ending.returned (Value.bool b139) ∧
  R (Ending.returned (Value.bool b139)) w141)
  (∃ n142, World.cell? w9 (Addr.add ⟨Array.size (World.heap w), 0, none⟩ 0) = some (Value.int .i64 n142) ∧
  V.sel (n142 == 10)
  (∃ S143 : World → Prop, S143 (World.drew w9) ∧
  ∃ n145, (∀ w144, S143 w144 → World.cell? w144 (Addr.add ⟨Array.size (World.heap w), 0, none⟩ 1) = some (Value.int .i64 n145)) ∧
  ∃ n146, (∀ w144, S143 w144 → World.cell? w144 (Addr.add ⟨Array.size (World.heap w), 0, none⟩ 1) = some (Value.int .i64 n146)) ∧
  ∃ n147, (∀ w144, S143 w144 → World.cell? w144 (Addr.add ⟨Array.size (World.heap w), 0, none⟩ 1) = some (Value.int .i64 n147)) ∧
  V.ptr g_1 fun a148 =>
  V.when (decide ((0 : Int) ≤ (IntKind.wrap .i64 ((BitVec.toNat (BitVec.ofInt 64 n145 &&& BitVec.ofInt 64 3) : Nat) : Int)) ∧ ((IntKind.wrap .i64 ((BitVec.toNat (BitVec.ofInt 64 n145 &&& BitVec.ofInt 64 3) : Nat) : Int)) : Int) < 4)) (V.ptr g_1 fun a149 =>
  V.ptr g_1 fun a150 =>
  ∃ w151, Sem.run Tryd.prog (Instr.storeAt 27 (Value.pointer (some (Addr.add (Addr.add a148 0) ((Int.toNat (IntKind.wrap .i64 ((BitVec.toNat (BitVec.ofInt 64 n145 &&& BitVec.ofInt 64 3) : Nat) : Int))) * 1)))) (Value.pointer none)) (World.drew w9) = .ok () w151 ∧
  S143 w151 ∧
  V.when (decide ((0 : Int) ≤ (IntKind.wrap .i64 ((BitVec.toNat (BitVec.ofInt 64 n146 &&& BitVec.ofInt 64 3) : Nat) : Int)) ∧ ((IntKind.wrap .i64 ((BitVec.toNat (BitVec.ofInt 64 n146 &&& BitVec.ofInt 64 3) : Nat) : Int)) : Int) < 4)) (∃ w152, Sem.run Tryd.prog (Instr.storeAt 50 (Value.pointer (some (Addr.add (Addr.add a149 4) ((Int.toNat (IntKind.wrap .i64 ((BitVec.toNat (BitVec.ofInt 64 n146 &&& BitVec.ofInt 64 3) : Nat) : Int))) * 2)))) (Value.agg #[(Value.int .i64 0), (Value.slice none 0 0)])) w151 = .ok () w152 ∧
  S143 w152 ∧
  V.when (decide ((0 : Int) ≤ (IntKind.wrap .i64 ((BitVec.toNat (BitVec.ofInt 64 n147 &&& BitVec.ofInt 64 3) : Nat) : Int)) ∧ ((IntKind.wrap .i64 ((BitVec.toNat (BitVec.ofInt 64 n147 &&& BitVec.ofInt 64 3) : Nat) : Int)) : Int) < 4)) (∃ w153, Sem.run Tryd.prog (Instr.storeAt 4 (Value.pointer (some (Addr.add (Addr.add a150 12) ((Int.toNat (IntKind.wrap .i64 ((BitVec.toNat (BitVec.ofInt 64 n147 &&& BitVec.ofInt 64 3) : Nat) : Int))) * 1)))) (Value.bool true)) w152 = .ok () w153 ∧
  S143 w153 ∧
  R (Ending.returned (Value.bool true)) w153))))
  (∃ n154, World.cell? w9 (Addr.add ⟨Array.size (World.heap w), 0, none⟩ 0) = some (Value.int .i64 n154) ∧
  V.sel (decide (n154 ≥ 11))
  (∃ n155, World.cell? w9 (Addr.add ⟨Array.size (World.heap w), 0, none⟩ 0) = some (Value.int .i64 n155) ∧
  V.sel (decide (n155 ≤ 16))
  (∃ n156, ∃ n157, ∃ n158, ∃ n159, ∃ n160, ∃ A161, ∃ A161l, ∃ A161c, ∃ A162, ∃ A162l, ∃ A162c, V.cellsC (fun a_ x_ => World.cell? w9 a_ = some x_) ⟨Array.size (World.heap w), 0, none⟩ [(Value.int .i64 n156), (Value.int .i64 n157), (Value.int .i64 n158), (Value.int .i64 n159), (Value.int .i64 n160), (Value.slice A161 A161l A161c), (Value.slice A162 A162l A162c)] ∧
  Calls Tryd.prog 55 #[(Value.pointer g_1), (Value.agg #[(Value.int .i64 n156), (Value.int .i64 n157), (Value.int .i64 n158), (Value.int .i64 n159), (Value.int .i64 n160), (Value.slice A161 A161l A161c), (Value.slice A162 A162l A162c)])] w9 fun e164 w165 =>
  ∃ b163, e164 = Ending.returned (Value.bool b163) ∧
  R (Ending.returned (Value.bool b163)) w165)
  (∃ n166, World.cell? w9 (Addr.add ⟨Array.size (World.heap w), 0, none⟩ 0) = some (Value.int .i64 n166) ∧
  V.sel (decide (n166 ≥ 17))
  (∃ n167, World.cell? w9 (Addr.add ⟨Array.size (World.heap w), 0, none⟩ 0) = some (Value.int .i64 n167) ∧
  V.sel (decide (n167 ≤ 26))
  (∃ n168, ∃ n169, ∃ n170, ∃ n171, ∃ n172, ∃ A173, ∃ A173l, ∃ A173c, ∃ A174, ∃ A174l, ∃ A174c, V.cellsC (fun a_ x_ => World.cell? w9 a_ = some x_) ⟨Array.size (World.heap w), 0, none⟩ [(Value.int .i64 n168), (Value.int .i64 n169), (Value.int .i64 n170), (Value.int .i64 n171), (Value.int .i64 n172), (Value.slice A173 A173l A173c), (Value.slice A174 A174l A174c)] ∧
  Calls Tryd.prog 56 #[(Value.pointer g_1), (Value.agg #[(Value.int .i64 n168), (Value.int .i64 n169), (Value.int .i64 n170), (Value.int .i64 n171), (Value.int .i64 n172), (Value.slice A173 A173l A173c), (Value.slice A174 A174l A174c)])] w9 fun e176 w177 =>
  ∃ b175, e176 = Ending.returned (Value.bool b175) ∧
  R (Ending.returned (Value.bool b175)) w177)
  (R (Ending.returned (Value.bool true)) w9))
  (R (Ending.returned (Value.bool true)) w9)))
  (∃ n178, World.cell? w9 (Addr.add ⟨Array.size (World.heap w), 0, none⟩ 0) = some (Value.int .i64 n178) ∧
  V.sel (decide (n178 ≥ 17))
  (∃ n179, World.cell? w9 (Addr.add ⟨Array.size (World.heap w), 0, none⟩ 0) = some (Value.int .i64 n179) ∧
  V.sel (decide (n179 ≤ 26))
  (∃ n180, ∃ n181, ∃ n182, ∃ n183, ∃ n184, ∃ A185, ∃ A185l, ∃ A185c, ∃ A186, ∃ A186l, ∃ A186c, V.cellsC (fun a_ x_ => World.cell? w9 a_ = some x_) ⟨Array.size (World.heap w), 0, none⟩ [(Value.int .i64 n180), (Value.int .i64 n181), (Value.int .i64 n182), (Value.int .i64 n183), (Value.int .i64 n184), (Value.slice A185 A185l A185c), (Value.slice A186 A186l A186c)] ∧
  Calls Tryd.prog 56 #[(Value.pointer g_1), (Value.agg #[(Value.int .i64 n180), (Value.int .i64 n181), (Value.int .i64 n182), (Value.int .i64 n183), (Value.int .i64 n184), (Value.slice A185 A185l A185c), (Value.slice A186 A186l A186c)])] w9 fun e188 w189 =>
  ∃ b187, e188 = Ending.returned (Value.bool b187) ∧
  R (Ending.returned (Value.bool b187)) w189)
  (R (Ending.returned (Value.bool true)) w9))
  (R (Ending.returned (Value.bool true)) w9)))))
  (∃ n190, World.cell? w9 (Addr.add ⟨Array.size (World.heap w), 0, none⟩ 0) = some (Value.int .i64 n190) ∧
  V.sel (n190 == 10)
  (∃ S191 : World → Prop, S191 (World.drew w9) ∧
  ∃ n193, (∀ w192, S191 w192 → World.cell? w192 (Addr.add ⟨Array.size (World.heap w), 0, none⟩ 1) = some (Value.int .i64 n193)) ∧
  ∃ n194, (∀ w192, S191 w192 → World.cell? w192 (Addr.add ⟨Array.size (World.heap w), 0, none⟩ 1) = some (Value.int .i64 n194)) ∧
  ∃ n195, (∀ w192, S191 w192 → World.cell? w192 (Addr.add ⟨Array.size (World.heap w), 0, none⟩ 1) = some (Value.int .i64 n195)) ∧
  V.ptr g_1 fun a196 =>
  V.when (decide ((0 : Int) ≤ (IntKind.wrap .i64 ((BitVec.toNat (BitVec.ofInt 64 n193 &&& BitVec.ofInt 64 3) : Nat) : Int)) ∧ ((IntKind.wrap .i64 ((BitVec.toNat (BitVec.ofInt 64 n193 &&& BitVec.ofInt 64 3) : Nat) : Int)) : Int) < 4)) (V.ptr g_1 fun a197 =>
  V.ptr g_1 fun a198 =>
  ∃ w199, Sem.run Tryd.prog (Instr.storeAt 27 (Value.pointer (some (Addr.add (Addr.add a196 0) ((Int.toNat (IntKind.wrap .i64 ((BitVec.toNat (BitVec.ofInt 64 n193 &&& BitVec.ofInt 64 3) : Nat) : Int))) * 1)))) (Value.pointer none)) (World.drew w9) = .ok () w199 ∧
  S191 w199 ∧
  V.when (decide ((0 : Int) ≤ (IntKind.wrap .i64 ((BitVec.toNat (BitVec.ofInt 64 n194 &&& BitVec.ofInt 64 3) : Nat) : Int)) ∧ ((IntKind.wrap .i64 ((BitVec.toNat (BitVec.ofInt 64 n194 &&& BitVec.ofInt 64 3) : Nat) : Int)) : Int) < 4)) (∃ w200, Sem.run Tryd.prog (Instr.storeAt 50 (Value.pointer (some (Addr.add (Addr.add a197 4) ((Int.toNat (IntKind.wrap .i64 ((BitVec.toNat (BitVec.ofInt 64 n194 &&& BitVec.ofInt 64 3) : Nat) : Int))) * 2)))) (Value.agg #[(Value.int .i64 0), (Value.slice none 0 0)])) w199 = .ok () w200 ∧
  S191 w200 ∧
  V.when (decide ((0 : Int) ≤ (IntKind.wrap .i64 ((BitVec.toNat (BitVec.ofInt 64 n195 &&& BitVec.ofInt 64 3) : Nat) : Int)) ∧ ((IntKind.wrap .i64 ((BitVec.toNat (BitVec.ofInt 64 n195 &&& BitVec.ofInt 64 3) : Nat) : Int)) : Int) < 4)) (∃ w201, Sem.run Tryd.prog (Instr.storeAt 4 (Value.pointer (some (Addr.add (Addr.add a198 12) ((Int.toNat (IntKind.wrap .i64 ((BitVec.toNat (BitVec.ofInt 64 n195 &&& BitVec.ofInt 64 3) : Nat) : Int))) * 1)))) (Value.bool true)) w200 = .ok () w201 ∧
  S191 w201 ∧
  R (Ending.returned (Value.bool true)) w201))))
  (∃ n202, World.cell? w9 (Addr.add ⟨Array.size (World.heap w), 0, none⟩ 0) = some (Value.int .i64 n202) ∧
  V.sel (decide (n202 ≥ 11))
  (∃ n203, World.cell? w9 (Addr.add ⟨Array.size (World.heap w), 0, none⟩ 0) = some (Value.int .i64 n203) ∧
  V.sel (decide (n203 ≤ 16))
  (∃ n204, ∃ n205, ∃ n206, ∃ n207, ∃ n208, ∃ A209, ∃ A209l, ∃ A209c, ∃ A210, ∃ A210l, ∃ A210c, V.cellsC (fun a_ x_ => World.cell? w9 a_ = some x_) ⟨Array.size (World.heap w), 0, none⟩ [(Value.int .i64 n204), (Value.int .i64 n205), (Value.int .i64 n206), (Value.int .i64 n207), (Value.int .i64 n208), (Value.slice A209 A209l A209c), (Value.slice A210 A210l A210c)] ∧
  Calls Tryd.prog 55 #[(Value.pointer g_1), (Value.agg #[(Value.int .i64 n204), (Value.int .i64 n205), (Value.int .i64 n206), (Value.int .i64 n207), (Value.int .i64 n208), (Value.slice A209 A209l A209c), (Value.slice A210 A210l A210c)])] w9 fun e212 w213 =>
  ∃ b211, e212 = Ending.returned (Value.bool b211) ∧
  R (Ending.returned (Value.bool b211)) w213)
  (∃ n214, World.cell? w9 (Addr.add ⟨Array.size (World.heap w), 0, none⟩ 0) = some (Value.int .i64 n214) ∧
  V.sel (decide (n214 ≥ 17))
  (∃ n215, World.cell? w9 (Addr.add ⟨Array.size (World.heap w), 0, none⟩ 0) = some (Value.int .i64 n215) ∧
  V.sel (decide (n215 ≤ 26))
  (∃ n216, ∃ n217, ∃ n218, ∃ n219, ∃ n220, ∃ A221, ∃ A221l, ∃ A221c, ∃ A222, ∃ A222l, ∃ A222c, V.cellsC (fun a_ x_ => World.cell? w9 a_ = some x_) ⟨Array.size (World.heap w), 0, none⟩ [(Value.int .i64 n216), (Value.int .i64 n217), (Value.int .i64 n218), (Value.int .i64 n219), (Value.int .i64 n220), (Value.slice A221 A221l A221c), (Value.slice A222 A222l A222c)] ∧
  Calls Tryd.prog 56 #[(Value.pointer g_1), (Value.agg #[(Value.int .i64 n216), (Value.int .i64 n217), (Value.int .i64 n218), (Value.int .i64 n219), (Value.int .i64 n220), (Value.slice A221 A221l A221c), (Value.slice A222 A222l A222c)])] w9 fun e224 w225 =>
  ∃ b223, e224 = Ending.returned (Value.bool b223) ∧
  R (Ending.returned (Value.bool b223)) w225)
  (R (Ending.returned (Value.bool true)) w9))
  (R (Ending.returned (Value.bool true)) w9)))
  (∃ n226, World.cell? w9 (Addr.add ⟨Array.size (World.heap w), 0, none⟩ 0) = some (Value.int .i64 n226) ∧
  V.sel (decide (n226 ≥ 17))
  (∃ n227, World.cell? w9 (Addr.add ⟨Array.size (World.heap w), 0, none⟩ 0) = some (Value.int .i64 n227) ∧
  V.sel (decide (n227 ≤ 26))
  (∃ n228, ∃ n229, ∃ n230, ∃ n231, ∃ n232, ∃ A233, ∃ A233l, ∃ A233c, ∃ A234, ∃ A234l, ∃ A234c, V.cellsC (fun a_ x_ => World.cell? w9 a_ = some x_) ⟨Array.size (World.heap w), 0, none⟩ [(Value.int .i64 n228), (Value.int .i64 n229), (Value.int .i64 n230), (Value.int .i64 n231), (Value.int .i64 n232), (Value.slice A233 A233l A233c), (Value.slice A234 A234l A234c)] ∧
  Calls Tryd.prog 56 #[(Value.pointer g_1), (Value.agg #[(Value.int .i64 n228), (Value.int .i64 n229), (Value.int .i64 n230), (Value.int .i64 n231), (Value.int .i64 n232), (Value.slice A233 A233l A233c), (Value.slice A234 A234l A234c)])] w9 fun e236 w237 =>
  ∃ b235, e236 = Ending.returned (Value.bool b235) ∧
  R (Ending.returned (Value.bool b235)) w237)
  (R (Ending.returned (Value.bool true)) w9))
  (R (Ending.returned (Value.bool true)) w9)))))) :
  Calls Tryd.prog 37 #[(Value.pointer g_1), (Value.agg #[(Value.int .i64 o_2), (Value.int .i64 o_3), (Value.int .i64 o_4), (Value.int .i64 o_5), (Value.int .i64 o_6), (Value.slice o_7 o_7l o_7c), (Value.slice o_8 o_8l o_8c)])] w R :=
  V.calls_of_R ⟨V.assoc [], V.assocP [(6, V.line [0, 1, 2, 3, 4, 5, 6, 7, 8, 9, 10, 11, 12, 13, 14, 15, 17, 18, 21, 22, 16, 19, 20, 23, 24])], V.assocC [], V.assocS [], ⟨[], true⟩⟩ Tryd.func37 rfl (Eq.mp (by kernel_rfl) h)

theorem bitset_From_nf (n_1 : Int) (places_2 : Option Addr) (places_2l : Nat) (places_2c : Nat) (w : World) (R : Ending → World → Prop) (h :
  Calls Tryd.prog 57 #[(Value.int .i64 n_1)] w fun e5 w6 =>
  ∃ p3, ∃ n4, e5 = Ending.returned (Value.tuple #[(Value.pointer p3), (Value.int .i64 n4)]) ∧
  V.sel (n4 != 0)
  (R (Ending.returned (Value.tuple #[(Value.pointer none), (Value.int .i64 n4)])) w6)
  (∃ I7 : Int → World → Prop, ∃ μ8 : Int → World → Nat, I7 0 w6 ∧
  ∀ t20_9 (j10 : Nat → Value) (w11 : World), I7 t20_9 w11 →
  (V.sel (decide (t20_9 < ((places_2l : Nat) : Int)))
  (V.when (decide ((0 : Int) ≤ t20_9 ∧ (t20_9 : Int) < ((places_2l : Nat) : Int))) (V.ptr places_2 fun a12 =>
  ∃ n13, World.cell? w11 (Addr.add a12 ((Int.toNat t20_9) * 1)) = some (Value.int .i64 n13) ∧
  V.sel (decide (n13 < 0))
  (R (Ending.returned (Value.tuple #[(Value.pointer none), (Value.int .i64 12)])) w11)
  (V.sel (decide (n13 ≥ n_1))
  (R (Ending.returned (Value.tuple #[(Value.pointer none), (Value.int .i64 12)])) w11)
  (V.ptr p3 fun a14 =>
  ∃ A15, ∃ A15l, ∃ A15c, World.cell? w11 (Addr.add a14 1) = some (Value.slice A15 A15l A15c) ∧
  V.when (decide ((0 : Int) ≤ (IntKind.wrap .i64 (Int.tdiv n13 64)) ∧ ((IntKind.wrap .i64 (Int.tdiv n13 64)) : Int) < ((A15l : Nat) : Int))) (V.ptr A15 fun a16 =>
  ∃ n17, World.cell? w11 (Addr.add a16 ((Int.toNat (IntKind.wrap .i64 (Int.tdiv n13 64))) * 1)) = some (Value.int .u64 n17) ∧
  V.when (decide (0 ≤ (Int.tmod n13 64))) (V.when (decide ((0 : Int) ≤ (IntKind.wrap .i64 (Int.tdiv n13 64)) ∧ ((IntKind.wrap .i64 (Int.tdiv n13 64)) : Int) < ((A15l : Nat) : Int))) (V.ptr A15 fun a18 =>
  (∃ u19, World.cell? (World.drew w11) (Addr.add (Addr.add a18 ((Int.toNat (IntKind.wrap .i64 (Int.tdiv n13 64))) * 1)) 0) = some u19) ∧ World.frozen? (World.drew w11) (Addr.add (Addr.add a18 ((Int.toNat (IntKind.wrap .i64 (Int.tdiv n13 64))) * 1)) 0) = false ∧
  I7 (IntKind.wrap .i64 (t20_9 + 1)) (World.setCell (World.drew w11) (Addr.add (Addr.add a18 ((Int.toNat (IntKind.wrap .i64 (Int.tdiv n13 64))) * 1)) 0) (Value.int .u64 (IntKind.wrap .u64 ((BitVec.toNat (BitVec.ofInt 64 n17 ||| BitVec.ofInt 64 (IntKind.wrap .u64 (1 * 2 ^ (min (Int.toNat (Int.tmod n13 64)) 64)))) : Nat) : Int)))) ∧ μ8 (IntKind.wrap .i64 (t20_9 + 1)) (World.setCell (World.drew w11) (Addr.add (Addr.add a18 ((Int.toNat (IntKind.wrap .i64 (Int.tdiv n13 64))) * 1)) 0) (Value.int .u64 (IntKind.wrap .u64 ((BitVec.toNat (BitVec.ofInt 64 n17 ||| BitVec.ofInt 64 (IntKind.wrap .u64 (1 * 2 ^ (min (Int.toNat (Int.tmod n13 64)) 64)))) : Nat) : Int)))) < μ8 t20_9 w11)))))))
  (R (Ending.returned (Value.tuple #[(Value.pointer p3), (Value.int .i64 0)])) w11)))) :
  Calls Tryd.prog 38 #[(Value.int .i64 n_1), (Value.slice places_2 places_2l places_2c)] w R :=
  V.calls_of_R ⟨V.assoc [(0, [20])], V.assocP [(9, V.line [0, 1, 2, 3, 4, 5, 6, 7, 8, 9, 10, 11, 12, 13])], V.assocC [], V.assocS [], ⟨[], false⟩⟩ Tryd.func38 rfl (Eq.mp (by kernel_rfl) h)

theorem math_bits_OnesCount64_nf (x_1 : Int) (w : World) (R : Ending → World → Prop) (h :
  V.lt (IntKind.wrap .u64 ((IntKind.wrap .u64 ((BitVec.toNat (BitVec.ofInt 64 (Int.fdiv x_1 (2 ^ 1)) &&& BitVec.ofInt 64 6148914691236517205) : Nat) : Int)) + (IntKind.wrap .u64 ((BitVec.toNat (BitVec.ofInt 64 x_1 &&& BitVec.ofInt 64 6148914691236517205) : Nat) : Int)))) fun x2 =>
  V.lt (IntKind.wrap .u64 ((IntKind.wrap .u64 ((BitVec.toNat (BitVec.ofInt 64 (Int.fdiv x2 (2 ^ 2)) &&& BitVec.ofInt 64 3689348814741910323) : Nat) : Int)) + (IntKind.wrap .u64 ((BitVec.toNat (BitVec.ofInt 64 x2 &&& BitVec.ofInt 64 3689348814741910323) : Nat) : Int)))) fun x3 =>
  V.lt (IntKind.wrap .u64 ((BitVec.toNat (BitVec.ofInt 64 (IntKind.wrap .u64 ((Int.fdiv x3 (2 ^ 4)) + x3)) &&& BitVec.ofInt 64 1085102592571150095) : Nat) : Int)) fun x4 =>
  V.lt (IntKind.wrap .u64 (x4 + (Int.fdiv x4 (2 ^ 8)))) fun x5 =>
  V.lt (IntKind.wrap .u64 (x5 + (Int.fdiv x5 (2 ^ 16)))) fun x6 =>
  V.lt (IntKind.wrap .u64 (x6 + (Int.fdiv x6 (2 ^ 32)))) fun x7 =>
  V.lt (IntKind.wrap .i64 ((BitVec.toNat (BitVec.ofInt 64 (IntKind.wrap .i64 (x7)) &&& BitVec.ofInt 64 127) : Nat) : Int)) fun x8 =>
  R (Ending.returned (Value.int .i64 x8)) w) :
  Calls Tryd.prog 39 #[(Value.int .u64 x_1)] w R :=
  V.calls_of_R ⟨V.assoc [], V.assocP [], V.assocC [], V.assocS [], ⟨[], false⟩⟩ Tryd.func39 rfl (Eq.mp (by kernel_rfl) h)

theorem bitset_Set_inside_nf (s_1 : Option Addr) (i_2 : Int) (w : World) (R : Ending → World → Prop) (h :
  V.sel (decide (i_2 ≥ 0))
  (Calls Tryd.prog 9 #[(Value.pointer s_1)] w fun e4 w5 =>
  ∃ n3, e4 = Ending.returned (Value.int .i64 n3) ∧
  R (Ending.returned (Value.bool (decide (i_2 < n3)))) w5)
  (R (Ending.returned (Value.bool false)) w)) :
  Calls Tryd.prog 41 #[(Value.pointer s_1), (Value.int .i64 i_2)] w R :=
  V.calls_of_R ⟨V.assoc [], V.assocP [], V.assocC [], V.assocS [], ⟨[], false⟩⟩ Tryd.func41 rfl (Eq.mp (by kernel_rfl) h)

theorem bitset_wordCount_nf (n_1 : Int) (w : World) (R : Ending → World → Prop) (h :
  V.lt (IntKind.wrap .i64 (Int.tdiv (IntKind.wrap .i64 (n_1 + 63)) 64)) fun x2 =>
  R (Ending.returned (Value.int .i64 x2)) w) :
  Calls Tryd.prog 43 #[(Value.int .i64 n_1)] w R :=
  V.calls_of_R ⟨V.assoc [], V.assocP [], V.assocC [], V.assocS [], ⟨[], false⟩⟩ Tryd.func43 rfl (Eq.mp (by kernel_rfl) h)

theorem bitset_Set_word_nf (s_1 : Option Addr) (w_2 : Int) (w : World) (R : Ending → World → Prop) (h :
  V.sel (Option.isNone s_1)
  (R (Ending.returned (Value.int .u64 0)) w)
  (V.ptr s_1 fun a3 =>
  ∃ A4, ∃ A4l, ∃ A4c, World.cell? w (Addr.add a3 1) = some (Value.slice A4 A4l A4c) ∧
  V.sel (decide (w_2 ≥ ((A4l : Nat) : Int)))
  (R (Ending.returned (Value.int .u64 0)) w)
  (V.ptr s_1 fun a5 =>
  ∃ A6, ∃ A6l, ∃ A6c, World.cell? w (Addr.add a5 1) = some (Value.slice A6 A6l A6c) ∧
  V.when (decide ((0 : Int) ≤ w_2 ∧ (w_2 : Int) < ((A6l : Nat) : Int))) (V.ptr A6 fun a7 =>
  ∃ n8, World.cell? w (Addr.add a7 ((Int.toNat w_2) * 1)) = some (Value.int .u64 n8) ∧
  R (Ending.returned (Value.int .u64 n8)) w)))) :
  Calls Tryd.prog 44 #[(Value.pointer s_1), (Value.int .i64 w_2)] w R :=
  V.calls_of_R ⟨V.assoc [], V.assocP [], V.assocC [], V.assocS [], ⟨[], false⟩⟩ Tryd.func44 rfl (Eq.mp (by kernel_rfl) h)

theorem bitset_Set_All_nf (s_1 : Option Addr) (w : World) (R : Ending → World → Prop) (h :
  Calls Tryd.prog 10 #[(Value.pointer s_1)] w fun e3 w4 =>
  ∃ A2, ∃ A2l, ∃ A2c, e3 = Ending.returned (Value.slice A2 A2l A2c) ∧
  ∀ w5, w5 = (World.alloc w4 (.cells #[(Value.slice none 0 0)] 22)) →
  ∃ w6, Sem.run Tryd.prog (Instr.storeAt 22 (Value.pointer (some ⟨Array.size (World.heap w4), 0, none⟩)) (Value.slice A2 A2l A2c)) w5 = .ok () w6 ∧
  R (Ending.returned (Value.func (.func 59) #[] #[(Value.pointer (some ⟨Array.size (World.heap w4), 0, none⟩))])) w6) :
  Calls Tryd.prog 45 #[(Value.pointer s_1)] w R :=
  V.calls_of_R ⟨V.assoc [], V.assocP [], V.assocC [], V.assocS [], ⟨[], true⟩⟩ Tryd.func45 rfl (Eq.mp (by kernel_rfl) h)

theorem bitset_blank_nf (n_1 : Int) (w : World) (R : Ending → World → Prop) (h :
  Calls Tryd.prog 43 #[(Value.int .i64 n_1)] w fun e3 w4 =>
  ∃ n2, e3 = Ending.returned (Value.int .i64 n2) ∧
  V.when (decide ((0 : Int) ≤ n2 ∧ (n2 : Int) ≤ n2 ∧ (n2 : Int) ≤ 281474976710656 ∧ (8 : Int) * n2 ≤ 281474976710656)) (R (Ending.returned (Value.pointer (some ⟨Array.size (World.heap (World.alloc w4 (.cells ⟨V.rep (Int.toNat n2) [(Value.int .u64 0)]⟩ 63))), 0, none⟩))) (World.alloc (World.alloc w4 (.cells ⟨V.rep (Int.toNat n2) [(Value.int .u64 0)]⟩ 63)) (.cells #[(Value.int .i64 n_1), (Value.slice (some ⟨Array.size (World.heap w4), 0, none⟩) (Int.toNat n2) (Int.toNat n2))] 61)))) :
  Calls Tryd.prog 46 #[(Value.int .i64 n_1)] w R :=
  V.calls_of_R ⟨V.assoc [], V.assocP [], V.assocC [], V.assocS [], ⟨[], false⟩⟩ Tryd.func46 rfl (Eq.mp (by kernel_rfl) h)

theorem bitset_joined_nf (a_1 : Option Addr) (b_2 : Option Addr) (one_f3 : Nat) (one_a4 : Array Value) (one_c5 : Array Value) (w : World) (R : Ending → World → Prop) (h :
  Calls Tryd.prog 9 #[(Value.pointer a_1)] w fun e7 w8 =>
  ∃ n6, e7 = Ending.returned (Value.int .i64 n6) ∧
  Calls Tryd.prog 9 #[(Value.pointer b_2)] w8 fun e10 w11 =>
  ∃ n9, e10 = Ending.returned (Value.int .i64 n9) ∧
  Calls Tryd.prog 46 #[(Value.int .i64 (if n9 > n6 then n9 else n6))] w11 fun e13 w14 =>
  ∃ p12, e13 = Ending.returned (Value.pointer p12) ∧
  V.ptr p12 fun a15 =>
  ∃ A16, ∃ A16l, ∃ A16c, World.cell? w14 (Addr.add a15 1) = some (Value.slice A16 A16l A16c) ∧
  ∃ I17 : Int → World → Prop, ∃ μ18 : Int → World → Nat, I17 0 w14 ∧
  ∀ t20_19 (j20 : Nat → Value) (w21 : World), I17 t20_19 w21 →
  (V.sel (decide (t20_19 < ((A16l : Nat) : Int)))
  (∃ S22 : World → Prop, S22 (World.drew w21) ∧
  V.ptr p12 fun a24 =>
  ∃ A25, ∃ A25l, ∃ A25c, (∀ w23, S22 w23 → World.cell? w23 (Addr.add a24 1) = some (Value.slice A25 A25l A25c)) ∧
  Calls Tryd.prog 44 #[(Value.pointer a_1), (Value.int .i64 t20_19)] (World.drew w21) fun e27 w28 =>
  ∃ n26, e27 = Ending.returned (Value.int .u64 n26) ∧
  S22 w28 ∧
  Calls Tryd.prog 44 #[(Value.pointer b_2), (Value.int .i64 t20_19)] w28 fun e30 w31 =>
  ∃ n29, e30 = Ending.returned (Value.int .u64 n29) ∧
  S22 w31 ∧
  V.when (V.hasB Tryd.prog one_f3) (Calls Tryd.prog one_f3 ⟨Array.toList one_a4 ++ [(Value.int .u64 n26), (Value.int .u64 n29)] ++ Array.toList one_c5⟩ w31 fun e33 w34 =>
  ∃ n32, e33 = Ending.returned (Value.int .u64 n32) ∧
  S22 w34 ∧
  V.when (decide ((0 : Int) ≤ t20_19 ∧ (t20_19 : Int) < ((A25l : Nat) : Int))) (V.ptr A25 fun a35 =>
  (∃ u36, World.cell? w34 (Addr.add (Addr.add a35 ((Int.toNat t20_19) * 1)) 0) = some u36) ∧ World.frozen? w34 (Addr.add (Addr.add a35 ((Int.toNat t20_19) * 1)) 0) = false ∧
  I17 (IntKind.wrap .i64 (t20_19 + 1)) (World.setCell w34 (Addr.add (Addr.add a35 ((Int.toNat t20_19) * 1)) 0) (Value.int .u64 n32)) ∧ μ18 (IntKind.wrap .i64 (t20_19 + 1)) (World.setCell w34 (Addr.add (Addr.add a35 ((Int.toNat t20_19) * 1)) 0) (Value.int .u64 n32)) < μ18 t20_19 w21)))
  (R (Ending.returned (Value.pointer p12)) w21))) :
  Calls Tryd.prog 47 #[(Value.pointer a_1), (Value.pointer b_2), (Value.func (.func one_f3) one_a4 one_c5)] w R :=
  V.calls_of_R ⟨V.assoc [(0, [20])], V.assocP [(5, V.line [0, 1, 2, 3, 4, 5, 6, 7, 9, 10, 8, 11, 12, 13, 14])], V.assocC [], V.assocS [], ⟨[], false⟩⟩ Tryd.func47 rfl (Eq.mp (by kernel_rfl) h)

theorem bitset_And_l1_nf (x_1 : Int) (y_2 : Int) (w : World) (R : Ending → World → Prop) (h :
  V.lt (IntKind.wrap .u64 ((BitVec.toNat (BitVec.ofInt 64 x_1 &&& BitVec.ofInt 64 y_2) : Nat) : Int)) fun x3 =>
  R (Ending.returned (Value.int .u64 x3)) w) :
  Calls Tryd.prog 48 #[(Value.int .u64 x_1), (Value.int .u64 y_2)] w R :=
  V.calls_of_R ⟨V.assoc [], V.assocP [], V.assocC [], V.assocS [], ⟨[], false⟩⟩ Tryd.func48 rfl (Eq.mp (by kernel_rfl) h)

theorem bitset_Or_l1_nf (x_1 : Int) (y_2 : Int) (w : World) (R : Ending → World → Prop) (h :
  V.lt (IntKind.wrap .u64 ((BitVec.toNat (BitVec.ofInt 64 x_1 ||| BitVec.ofInt 64 y_2) : Nat) : Int)) fun x3 =>
  R (Ending.returned (Value.int .u64 x3)) w) :
  Calls Tryd.prog 49 #[(Value.int .u64 x_1), (Value.int .u64 y_2)] w R :=
  V.calls_of_R ⟨V.assoc [], V.assocP [], V.assocC [], V.assocS [], ⟨[], false⟩⟩ Tryd.func49 rfl (Eq.mp (by kernel_rfl) h)

theorem bitset_AndNot_l1_nf (x_1 : Int) (y_2 : Int) (w : World) (R : Ending → World → Prop) (h :
  V.lt (IntKind.wrap .u64 ((BitVec.toNat (BitVec.ofInt 64 x_1 &&& ~~~(BitVec.ofInt 64 y_2)) : Nat) : Int)) fun x3 =>
  R (Ending.returned (Value.int .u64 x3)) w) :
  Calls Tryd.prog 50 #[(Value.int .u64 x_1), (Value.int .u64 y_2)] w R :=
  V.calls_of_R ⟨V.assoc [], V.assocP [], V.assocC [], V.assocS [], ⟨[], false⟩⟩ Tryd.func50 rfl (Eq.mp (by kernel_rfl) h)

theorem bitset_Xor_l1_nf (x_1 : Int) (y_2 : Int) (w : World) (R : Ending → World → Prop) (h :
  V.lt (IntKind.wrap .u64 ((BitVec.toNat (BitVec.ofInt 64 x_1 ^^^ BitVec.ofInt 64 y_2) : Nat) : Int)) fun x3 =>
  R (Ending.returned (Value.int .u64 x3)) w) :
  Calls Tryd.prog 51 #[(Value.int .u64 x_1), (Value.int .u64 y_2)] w R :=
  V.calls_of_R ⟨V.assoc [], V.assocP [], V.assocC [], V.assocS [], ⟨[], false⟩⟩ Tryd.func51 rfl (Eq.mp (by kernel_rfl) h)

theorem bitset_spanOf_nf (a_1 : Option Addr) (b_2 : Option Addr) (w : World) (R : Ending → World → Prop) (h :
  Calls Tryd.prog 9 #[(Value.pointer a_1)] w fun e4 w5 =>
  ∃ n3, e4 = Ending.returned (Value.int .i64 n3) ∧
  Calls Tryd.prog 9 #[(Value.pointer b_2)] w5 fun e7 w8 =>
  ∃ n6, e7 = Ending.returned (Value.int .i64 n6) ∧
  Calls Tryd.prog 43 #[(Value.int .i64 (if n6 > n3 then n6 else n3))] w8 fun e10 w11 =>
  ∃ n9, e10 = Ending.returned (Value.int .i64 n9) ∧
  R (Ending.returned (Value.int .i64 n9)) w11) :
  Calls Tryd.prog 52 #[(Value.pointer a_1), (Value.pointer b_2)] w R :=
  V.calls_of_R ⟨V.assoc [], V.assocP [], V.assocC [], V.assocS [], ⟨[], false⟩⟩ Tryd.func52 rfl (Eq.mp (by kernel_rfl) h)

end Go.Proofs.YtbaglnffgbnekaaDoor
