/- Normal forms of the program's functions, printed by a program of mine; the kernel checks each. -/
import Derived.Test.YtcampkaenlohbaaProg
import Derived.Test.YtcampkaenlohbaaV2
set_option linter.unusedVariables false
set_option maxRecDepth 100000
namespace Go.Proofs.Ytcampkaenlohbaa
open Go

theorem slices_partitionEqualOrdered_string__nf (data_1 : Option Addr) (data_1l : Nat) (data_1c : Nat) (a_2 : Int) (b_3 : Int) (pivot_4 : Int) (w : World) (R : Ending → World → Prop) (h :
  ∃ S5 : World → Prop, S5 (World.drew w) ∧
  V.when (decide ((0 : Int) ≤ pivot_4 ∧ (pivot_4 : Int) < ((data_1l : Nat) : Int))) (V.ptr data_1 fun a7 =>
  ∃ s8, (∀ w6, S5 w6 → World.cell? w6 (Addr.add a7 ((Int.toNat pivot_4) * 1)) = some (Value.string s8)) ∧
  V.when (decide ((0 : Int) ≤ a_2 ∧ (a_2 : Int) < ((data_1l : Nat) : Int))) (V.ptr data_1 fun a9 =>
  ∃ s10, (∀ w6, S5 w6 → World.cell? w6 (Addr.add a9 ((Int.toNat a_2) * 1)) = some (Value.string s10)) ∧
  V.when (decide ((0 : Int) ≤ a_2 ∧ (a_2 : Int) < ((data_1l : Nat) : Int))) (V.ptr data_1 fun a11 =>
  ∃ w12, Sem.run Try.prog (Instr.storeAt 9 (Value.pointer (some (Addr.add a11 ((Int.toNat a_2) * 1)))) (Value.string s8)) (World.drew w) = .ok () w12 ∧
  S5 w12 ∧
  V.when (decide ((0 : Int) ≤ pivot_4 ∧ (pivot_4 : Int) < ((data_1l : Nat) : Int))) (V.ptr data_1 fun a13 =>
  ∃ w14, Sem.run Try.prog (Instr.storeAt 9 (Value.pointer (some (Addr.add a13 ((Int.toNat pivot_4) * 1)))) (Value.string s10)) w12 = .ok () w14 ∧
  ∃ I15 : Int → Int → World → Prop, ∃ μ16 : Int → Int → World → Nat, I15 (IntKind.wrap .i64 (a_2 + 1)) (IntKind.wrap .i64 (b_3 - 1)) w14 ∧
  ∀ i_17 j_18 (j19 : Nat → Value) (w20 : World), I15 i_17 j_18 w20 →
  (∃ I21 : Int → World → Prop, ∃ μ22 : Int → World → Nat, I21 i_17 w20 ∧
  ∀ i_23 (j24 : Nat → Value) (w25 : World), I21 i_23 w25 →
  (∃ S26 : World → Prop, S26 (World.drew w25) ∧
  V.sel (decide (i_23 ≤ j_18))
  (V.when (decide ((0 : Int) ≤ a_2 ∧ (a_2 : Int) < ((data_1l : Nat) : Int))) (V.ptr data_1 fun a28 =>
  ∃ s29, (∀ w27, S26 w27 → World.cell? w27 (Addr.add a28 ((Int.toNat a_2) * 1)) = some (Value.string s29)) ∧
  V.when (decide ((0 : Int) ≤ i_23 ∧ (i_23 : Int) < ((data_1l : Nat) : Int))) (V.ptr data_1 fun a30 =>
  ∃ s31, (∀ w27, S26 w27 → World.cell? w27 (Addr.add a30 ((Int.toNat i_23) * 1)) = some (Value.string s31)) ∧
  Calls Try.prog 53 #[(Value.string s29), (Value.string s31)] (World.drew w25) fun e33 w34 =>
  ∃ b32, e33 = Ending.returned (Value.bool b32) ∧
  S26 w34 ∧
  V.sel (!b32)
  (I21 (IntKind.wrap .i64 (i_23 + 1)) w34 ∧ μ22 (IntKind.wrap .i64 (i_23 + 1)) w34 < μ22 i_23 w25)
  (∃ I35 : Int → World → Prop, ∃ μ36 : Int → World → Nat, I35 j_18 w34 ∧
  ∀ j_37 (j38 : Nat → Value) (w39 : World), I35 j_37 w39 →
  (∃ S40 : World → Prop, S40 (World.drew w39) ∧
  V.sel (decide (i_23 ≤ j_37))
  (V.when (decide ((0 : Int) ≤ a_2 ∧ (a_2 : Int) < ((data_1l : Nat) : Int))) (V.ptr data_1 fun a42 =>
  ∃ s43, (∀ w41, S40 w41 → World.cell? w41 (Addr.add a42 ((Int.toNat a_2) * 1)) = some (Value.string s43)) ∧
  V.when (decide ((0 : Int) ≤ j_37 ∧ (j_37 : Int) < ((data_1l : Nat) : Int))) (V.ptr data_1 fun a44 =>
  ∃ s45, (∀ w41, S40 w41 → World.cell? w41 (Addr.add a44 ((Int.toNat j_37) * 1)) = some (Value.string s45)) ∧
  Calls Try.prog 53 #[(Value.string s43), (Value.string s45)] (World.drew w39) fun e47 w48 =>
  ∃ b46, e47 = Ending.returned (Value.bool b46) ∧
  S40 w48 ∧
  V.sel b46
  (I35 (IntKind.wrap .i64 (j_37 - 1)) w48 ∧ μ36 (IntKind.wrap .i64 (j_37 - 1)) w48 < μ36 j_37 w39)
  (V.sel (decide (i_23 > j_37))
  (R (Ending.returned (Value.int .i64 i_23)) w48)
  (∃ S49 : World → Prop, S49 (World.drew w48) ∧
  V.when (decide ((0 : Int) ≤ j_37 ∧ (j_37 : Int) < ((data_1l : Nat) : Int))) (V.ptr data_1 fun a51 =>
  ∃ s52, (∀ w50, S49 w50 → World.cell? w50 (Addr.add a51 ((Int.toNat j_37) * 1)) = some (Value.string s52)) ∧
  V.when (decide ((0 : Int) ≤ i_23 ∧ (i_23 : Int) < ((data_1l : Nat) : Int))) (V.ptr data_1 fun a53 =>
  ∃ s54, (∀ w50, S49 w50 → World.cell? w50 (Addr.add a53 ((Int.toNat i_23) * 1)) = some (Value.string s54)) ∧
  V.when (decide ((0 : Int) ≤ i_23 ∧ (i_23 : Int) < ((data_1l : Nat) : Int))) (V.ptr data_1 fun a55 =>
  ∃ w56, Sem.run Try.prog (Instr.storeAt 9 (Value.pointer (some (Addr.add a55 ((Int.toNat i_23) * 1)))) (Value.string s52)) (World.drew w48) = .ok () w56 ∧
  S49 w56 ∧
  V.when (decide ((0 : Int) ≤ j_37 ∧ (j_37 : Int) < ((data_1l : Nat) : Int))) (V.ptr data_1 fun a57 =>
  ∃ w58, Sem.run Try.prog (Instr.storeAt 9 (Value.pointer (some (Addr.add a57 ((Int.toNat j_37) * 1)))) (Value.string s54)) w56 = .ok () w58 ∧
  I15 (IntKind.wrap .i64 (i_23 + 1)) (IntKind.wrap .i64 (j_37 - 1)) w58 ∧ μ16 (IntKind.wrap .i64 (i_23 + 1)) (IntKind.wrap .i64 (j_37 - 1)) w58 < μ16 i_17 j_18 w20)))))))))
  (V.sel (decide (i_23 > j_37))
  (R (Ending.returned (Value.int .i64 i_23)) (World.drew w39))
  (∃ S59 : World → Prop, S59 (World.drew (World.drew w39)) ∧
  V.when (decide ((0 : Int) ≤ j_37 ∧ (j_37 : Int) < ((data_1l : Nat) : Int))) (V.ptr data_1 fun a61 =>
  ∃ s62, (∀ w60, S59 w60 → World.cell? w60 (Addr.add a61 ((Int.toNat j_37) * 1)) = some (Value.string s62)) ∧
  V.when (decide ((0 : Int) ≤ i_23 ∧ (i_23 : Int) < ((data_1l : Nat) : Int))) (V.ptr data_1 fun a63 =>
  ∃ s64, (∀ w60, S59 w60 → World.cell? w60 (Addr.add a63 ((Int.toNat i_23) * 1)) = some (Value.string s64)) ∧
  V.when (decide ((0 : Int) ≤ i_23 ∧ (i_23 : Int) < ((data_1l : Nat) : Int))) (V.ptr data_1 fun a65 =>
  ∃ w66, Sem.run Try.prog (Instr.storeAt 9 (Value.pointer (some (Addr.add a65 ((Int.toNat i_23) * 1)))) (Value.string s62)) (World.drew (World.drew w39)) = .ok () w66 ∧
  S59 w66 ∧
  V.when (decide ((0 : Int) ≤ j_37 ∧ (j_37 : Int) < ((data_1l : Nat) : Int))) (V.ptr data_1 fun a67 =>
  ∃ w68, Sem.run Try.prog (Instr.storeAt 9 (Value.pointer (some (Addr.add a67 ((Int.toNat j_37) * 1)))) (Value.string s64)) w66 = .ok () w68 ∧
  I15 (IntKind.wrap .i64 (i_23 + 1)) (IntKind.wrap .i64 (j_37 - 1)) w68 ∧ μ16 (IntKind.wrap .i64 (i_23 + 1)) (IntKind.wrap .i64 (j_37 - 1)) w68 < μ16 i_17 j_18 w20)))))))))))
  (∃ I69 : Int → World → Prop, ∃ μ70 : Int → World → Nat, I69 j_18 (World.drew w25) ∧
  ∀ j_71 (j72 : Nat → Value) (w73 : World), I69 j_71 w73 →
  (∃ S74 : World → Prop, S74 (World.drew w73) ∧
  V.sel (decide (i_23 ≤ j_71))
  (V.when (decide ((0 : Int) ≤ a_2 ∧ (a_2 : Int) < ((data_1l : Nat) : Int))) (V.ptr data_1 fun a76 =>
  ∃ s77, (∀ w75, S74 w75 → World.cell? w75 (Addr.add a76 ((Int.toNat a_2) * 1)) = some (Value.string s77)) ∧
  V.when (decide ((0 : Int) ≤ j_71 ∧ (j_71 : Int) < ((data_1l : Nat) : Int))) (V.ptr data_1 fun a78 =>
  ∃ s79, (∀ w75, S74 w75 → World.cell? w75 (Addr.add a78 ((Int.toNat j_71) * 1)) = some (Value.string s79)) ∧
  Calls Try.prog 53 #[(Value.string s77), (Value.string s79)] (World.drew w73) fun e81 w82 =>
  ∃ b80, e81 = Ending.returned (Value.bool b80) ∧
  S74 w82 ∧
  V.sel b80
  (I69 (IntKind.wrap .i64 (j_71 - 1)) w82 ∧ μ70 (IntKind.wrap .i64 (j_71 - 1)) w82 < μ70 j_71 w73)
  (V.sel (decide (i_23 > j_71))
  (R (Ending.returned (Value.int .i64 i_23)) w82)
  (∃ S83 : World → Prop, S83 (World.drew w82) ∧
  V.when (decide ((0 : Int) ≤ j_71 ∧ (j_71 : Int) < ((data_1l : Nat) : Int))) (V.ptr data_1 fun a85 =>
  ∃ s86, (∀ w84, S83 w84 → World.cell? w84 (Addr.add a85 ((Int.toNat j_71) * 1)) = some (Value.string s86)) ∧
  V.when (decide ((0 : Int) ≤ i_23 ∧ (i_23 : Int) < ((data_1l : Nat) : Int))) (V.ptr data_1 fun a87 =>
  ∃ s88, (∀ w84, S83 w84 → World.cell? w84 (Addr.add a87 ((Int.toNat i_23) * 1)) = some (Value.string s88)) ∧
  V.when (decide ((0 : Int) ≤ i_23 ∧ (i_23 : Int) < ((data_1l : Nat) : Int))) (V.ptr data_1 fun a89 =>
  ∃ w90, Sem.run Try.prog (Instr.storeAt 9 (Value.pointer (some (Addr.add a89 ((Int.toNat i_23) * 1)))) (Value.string s86)) (World.drew w82) = .ok () w90 ∧
  S83 w90 ∧
  V.when (decide ((0 : Int) ≤ j_71 ∧ (j_71 : Int) < ((data_1l : Nat) : Int))) (V.ptr data_1 fun a91 =>
  ∃ w92, Sem.run Try.prog (Instr.storeAt 9 (Value.pointer (some (Addr.add a91 ((Int.toNat j_71) * 1)))) (Value.string s88)) w90 = .ok () w92 ∧
  I15 (IntKind.wrap .i64 (i_23 + 1)) (IntKind.wrap .i64 (j_71 - 1)) w92 ∧ μ16 (IntKind.wrap .i64 (i_23 + 1)) (IntKind.wrap .i64 (j_71 - 1)) w92 < μ16 i_17 j_18 w20)))))))))
  (V.sel (decide (i_23 > j_71))
  (R (Ending.returned (Value.int .i64 i_23)) (World.drew w73))
  (∃ S93 : World → Prop, S93 (World.drew (World.drew w73)) ∧
  V.when (decide ((0 : Int) ≤ j_71 ∧ (j_71 : Int) < ((data_1l : Nat) : Int))) (V.ptr data_1 fun a95 =>
  ∃ s96, (∀ w94, S93 w94 → World.cell? w94 (Addr.add a95 ((Int.toNat j_71) * 1)) = some (Value.string s96)) ∧
  V.when (decide ((0 : Int) ≤ i_23 ∧ (i_23 : Int) < ((data_1l : Nat) : Int))) (V.ptr data_1 fun a97 =>
  ∃ s98, (∀ w94, S93 w94 → World.cell? w94 (Addr.add a97 ((Int.toNat i_23) * 1)) = some (Value.string s98)) ∧
  V.when (decide ((0 : Int) ≤ i_23 ∧ (i_23 : Int) < ((data_1l : Nat) : Int))) (V.ptr data_1 fun a99 =>
  ∃ w100, Sem.run Try.prog (Instr.storeAt 9 (Value.pointer (some (Addr.add a99 ((Int.toNat i_23) * 1)))) (Value.string s96)) (World.drew (World.drew w73)) = .ok () w100 ∧
  S93 w100 ∧
  V.when (decide ((0 : Int) ≤ j_71 ∧ (j_71 : Int) < ((data_1l : Nat) : Int))) (V.ptr data_1 fun a101 =>
  ∃ w102, Sem.run Try.prog (Instr.storeAt 9 (Value.pointer (some (Addr.add a101 ((Int.toNat j_71) * 1)))) (Value.string s98)) w100 = .ok () w102 ∧
  I15 (IntKind.wrap .i64 (i_23 + 1)) (IntKind.wrap .i64 (j_71 - 1)) w102 ∧ μ16 (IntKind.wrap .i64 (i_23 + 1)) (IntKind.wrap .i64 (j_71 - 1)) w102 < μ16 i_17 j_18 w20))))))))))))))) :
  Calls Try.prog 54 #[(Value.slice data_1 data_1l data_1c), (Value.int .i64 a_2), (Value.int .i64 b_3), (Value.int .i64 pivot_4)] w R :=
  V.calls_of_R ⟨V.assoc [(0, [9, 10]), (1, [9]), (2, [10])], V.assocP [(1, V.line [0, 1, 2, 3, 4, 5, 6, 7, 8, 9, 10, 11, 12, 13, 14, 15]), (3, V.line [0, 1, 2, 3, 4, 5, 6, 7, 8, 9, 10, 11, 12, 13, 14]), (5, V.line [0, 1, 2, 3, 4, 5, 6, 7, 8, 9, 10, 11, 12, 13]), (8, V.line [0, 1, 2, 3, 4, 5, 6, 7, 8, 9, 10, 11, 12, 13, 14, 15])], V.assocC [], V.assocS [], ⟨[], true⟩⟩ Try.func54 rfl (Eq.mp (by kernel_rfl) h)

end Go.Proofs.Ytcampkaenlohbaa
