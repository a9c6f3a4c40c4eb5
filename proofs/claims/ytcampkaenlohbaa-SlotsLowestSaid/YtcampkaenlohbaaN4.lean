/- Normal forms of the program's functions, printed by a program of mine; the kernel checks each. -/
import Derived.Test.YtcampkaenlohbaaProg
import Derived.Test.YtcampkaenlohbaaV2
set_option linter.unusedVariables false
set_option maxRecDepth 100000
namespace Go.Proofs.Ytcampkaenlohbaa
open Go

theorem slices_partialInsertionSortOrdered_string__nf (data_1 : Option Addr) (data_1l : Nat) (data_1c : Nat) (a_2 : Int) (b_3 : Int) (w : World) (R : Ending → World → Prop) (h :
  ∃ I4 : Int → Int → World → Prop, ∃ μ5 : Int → Int → World → Nat, I4 (IntKind.wrap .i64 (a_2 + 1)) 0 w ∧
  ∀ i_6 j_7 (j8 : Nat → Value) (w9 : World), I4 i_6 j_7 w9 →
  (V.sel (decide (j_7 < 5))
  (∃ I10 : Int → World → Prop, ∃ μ11 : Int → World → Nat, I10 i_6 w9 ∧
  ∀ i_12 (j13 : Nat → Value) (w14 : World), I10 i_12 w14 →
  (∃ S15 : World → Prop, S15 (World.drew w14) ∧
  V.sel (decide (i_12 < b_3))
  (V.when (decide ((0 : Int) ≤ i_12 ∧ (i_12 : Int) < ((data_1l : Nat) : Int))) (V.ptr data_1 fun a17 =>
  ∃ s18, (∀ w16, S15 w16 → World.cell? w16 (Addr.add a17 ((Int.toNat i_12) * 1)) = some (Value.string s18)) ∧
  V.when (decide ((0 : Int) ≤ (IntKind.wrap .i64 (i_12 - 1)) ∧ ((IntKind.wrap .i64 (i_12 - 1)) : Int) < ((data_1l : Nat) : Int))) (V.ptr data_1 fun a19 =>
  ∃ s20, (∀ w16, S15 w16 → World.cell? w16 (Addr.add a19 ((Int.toNat (IntKind.wrap .i64 (i_12 - 1))) * 1)) = some (Value.string s20)) ∧
  Calls Try.prog 53 #[(Value.string s18), (Value.string s20)] (World.drew w14) fun e22 w23 =>
  ∃ b21, e22 = Ending.returned (Value.bool b21) ∧
  S15 w23 ∧
  V.sel (!b21)
  (I10 (IntKind.wrap .i64 (i_12 + 1)) w23 ∧ μ11 (IntKind.wrap .i64 (i_12 + 1)) w23 < μ11 i_12 w14)
  (V.sel (i_12 == b_3)
  (R (Ending.returned (Value.bool true)) w23)
  (V.sel (decide ((IntKind.wrap .i64 (b_3 - a_2)) < 50))
  (R (Ending.returned (Value.bool false)) w23)
  (∃ S24 : World → Prop, S24 (World.drew w23) ∧
  V.when (decide ((0 : Int) ≤ (IntKind.wrap .i64 (i_12 - 1)) ∧ ((IntKind.wrap .i64 (i_12 - 1)) : Int) < ((data_1l : Nat) : Int))) (V.ptr data_1 fun a26 =>
  ∃ s27, (∀ w25, S24 w25 → World.cell? w25 (Addr.add a26 ((Int.toNat (IntKind.wrap .i64 (i_12 - 1))) * 1)) = some (Value.string s27)) ∧
  V.when (decide ((0 : Int) ≤ i_12 ∧ (i_12 : Int) < ((data_1l : Nat) : Int))) (V.ptr data_1 fun a28 =>
  ∃ s29, (∀ w25, S24 w25 → World.cell? w25 (Addr.add a28 ((Int.toNat i_12) * 1)) = some (Value.string s29)) ∧
  V.when (decide ((0 : Int) ≤ i_12 ∧ (i_12 : Int) < ((data_1l : Nat) : Int))) (V.ptr data_1 fun a30 =>
  ∃ w31, Sem.run Try.prog (Instr.storeAt 9 (Value.pointer (some (Addr.add a30 ((Int.toNat i_12) * 1)))) (Value.string s27)) (World.drew w23) = .ok () w31 ∧
  S24 w31 ∧
  V.when (decide ((0 : Int) ≤ (IntKind.wrap .i64 (i_12 - 1)) ∧ ((IntKind.wrap .i64 (i_12 - 1)) : Int) < ((data_1l : Nat) : Int))) (V.ptr data_1 fun a32 =>
  ∃ w33, Sem.run Try.prog (Instr.storeAt 9 (Value.pointer (some (Addr.add a32 ((Int.toNat (IntKind.wrap .i64 (i_12 - 1))) * 1)))) (Value.string s29)) w31 = .ok () w33 ∧
  V.sel (decide ((IntKind.wrap .i64 (i_12 - a_2)) ≥ 2))
  (∃ I34 : Int → World → Prop, ∃ μ35 : Int → World → Nat, I34 (IntKind.wrap .i64 (i_12 - 1)) w33 ∧
  ∀ j_36 (j37 : Nat → Value) (w38 : World), I34 j_36 w38 →
  (V.sel (decide (j_36 ≥ 1))
  (∃ S39 : World → Prop, S39 (World.drew w38) ∧
  V.when (decide ((0 : Int) ≤ j_36 ∧ (j_36 : Int) < ((data_1l : Nat) : Int))) (V.ptr data_1 fun a41 =>
  ∃ s42, (∀ w40, S39 w40 → World.cell? w40 (Addr.add a41 ((Int.toNat j_36) * 1)) = some (Value.string s42)) ∧
  V.when (decide ((0 : Int) ≤ (IntKind.wrap .i64 (j_36 - 1)) ∧ ((IntKind.wrap .i64 (j_36 - 1)) : Int) < ((data_1l : Nat) : Int))) (V.ptr data_1 fun a43 =>
  ∃ s44, (∀ w40, S39 w40 → World.cell? w40 (Addr.add a43 ((Int.toNat (IntKind.wrap .i64 (j_36 - 1))) * 1)) = some (Value.string s44)) ∧
  Calls Try.prog 53 #[(Value.string s42), (Value.string s44)] (World.drew w38) fun e46 w47 =>
  ∃ b45, e46 = Ending.returned (Value.bool b45) ∧
  S39 w47 ∧
  V.sel (!b45)
  (V.sel (decide ((IntKind.wrap .i64 (b_3 - i_12)) ≥ 2))
  (∃ I48 : Int → World → Prop, ∃ μ49 : Int → World → Nat, I48 (IntKind.wrap .i64 (i_12 + 1)) w47 ∧
  ∀ j_50 (j51 : Nat → Value) (w52 : World), I48 j_50 w52 →
  (V.sel (decide (j_50 < b_3))
  (∃ S53 : World → Prop, S53 (World.drew w52) ∧
  V.when (decide ((0 : Int) ≤ j_50 ∧ (j_50 : Int) < ((data_1l : Nat) : Int))) (V.ptr data_1 fun a55 =>
  ∃ s56, (∀ w54, S53 w54 → World.cell? w54 (Addr.add a55 ((Int.toNat j_50) * 1)) = some (Value.string s56)) ∧
  V.when (decide ((0 : Int) ≤ (IntKind.wrap .i64 (j_50 - 1)) ∧ ((IntKind.wrap .i64 (j_50 - 1)) : Int) < ((data_1l : Nat) : Int))) (V.ptr data_1 fun a57 =>
  ∃ s58, (∀ w54, S53 w54 → World.cell? w54 (Addr.add a57 ((Int.toNat (IntKind.wrap .i64 (j_50 - 1))) * 1)) = some (Value.string s58)) ∧
  Calls Try.prog 53 #[(Value.string s56), (Value.string s58)] (World.drew w52) fun e60 w61 =>
  ∃ b59, e60 = Ending.returned (Value.bool b59) ∧
  S53 w61 ∧
  V.sel (!b59)
  (I4 i_12 (IntKind.wrap .i64 (j_7 + 1)) w61 ∧ μ5 i_12 (IntKind.wrap .i64 (j_7 + 1)) w61 < μ5 i_6 j_7 w9)
  (∃ S62 : World → Prop, S62 (World.drew w61) ∧
  V.when (decide ((0 : Int) ≤ (IntKind.wrap .i64 (j_50 - 1)) ∧ ((IntKind.wrap .i64 (j_50 - 1)) : Int) < ((data_1l : Nat) : Int))) (V.ptr data_1 fun a64 =>
  ∃ s65, (∀ w63, S62 w63 → World.cell? w63 (Addr.add a64 ((Int.toNat (IntKind.wrap .i64 (j_50 - 1))) * 1)) = some (Value.string s65)) ∧
  V.when (decide ((0 : Int) ≤ j_50 ∧ (j_50 : Int) < ((data_1l : Nat) : Int))) (V.ptr data_1 fun a66 =>
  ∃ s67, (∀ w63, S62 w63 → World.cell? w63 (Addr.add a66 ((Int.toNat j_50) * 1)) = some (Value.string s67)) ∧
  V.when (decide ((0 : Int) ≤ j_50 ∧ (j_50 : Int) < ((data_1l : Nat) : Int))) (V.ptr data_1 fun a68 =>
  ∃ w69, Sem.run Try.prog (Instr.storeAt 9 (Value.pointer (some (Addr.add a68 ((Int.toNat j_50) * 1)))) (Value.string s65)) (World.drew w61) = .ok () w69 ∧
  S62 w69 ∧
  V.when (decide ((0 : Int) ≤ (IntKind.wrap .i64 (j_50 - 1)) ∧ ((IntKind.wrap .i64 (j_50 - 1)) : Int) < ((data_1l : Nat) : Int))) (V.ptr data_1 fun a70 =>
  ∃ w71, Sem.run Try.prog (Instr.storeAt 9 (Value.pointer (some (Addr.add a70 ((Int.toNat (IntKind.wrap .i64 (j_50 - 1))) * 1)))) (Value.string s67)) w69 = .ok () w71 ∧
  I48 (IntKind.wrap .i64 (j_50 + 1)) w71 ∧ μ49 (IntKind.wrap .i64 (j_50 + 1)) w71 < μ49 j_50 w52))))))))
  (I4 i_12 (IntKind.wrap .i64 (j_7 + 1)) w52 ∧ μ5 i_12 (IntKind.wrap .i64 (j_7 + 1)) w52 < μ5 i_6 j_7 w9)))
  (I4 i_12 (IntKind.wrap .i64 (j_7 + 1)) w47 ∧ μ5 i_12 (IntKind.wrap .i64 (j_7 + 1)) w47 < μ5 i_6 j_7 w9))
  (∃ S72 : World → Prop, S72 (World.drew w47) ∧
  V.when (decide ((0 : Int) ≤ (IntKind.wrap .i64 (j_36 - 1)) ∧ ((IntKind.wrap .i64 (j_36 - 1)) : Int) < ((data_1l : Nat) : Int))) (V.ptr data_1 fun a74 =>
  ∃ s75, (∀ w73, S72 w73 → World.cell? w73 (Addr.add a74 ((Int.toNat (IntKind.wrap .i64 (j_36 - 1))) * 1)) = some (Value.string s75)) ∧
  V.when (decide ((0 : Int) ≤ j_36 ∧ (j_36 : Int) < ((data_1l : Nat) : Int))) (V.ptr data_1 fun a76 =>
  ∃ s77, (∀ w73, S72 w73 → World.cell? w73 (Addr.add a76 ((Int.toNat j_36) * 1)) = some (Value.string s77)) ∧
  V.when (decide ((0 : Int) ≤ j_36 ∧ (j_36 : Int) < ((data_1l : Nat) : Int))) (V.ptr data_1 fun a78 =>
  ∃ w79, Sem.run Try.prog (Instr.storeAt 9 (Value.pointer (some (Addr.add a78 ((Int.toNat j_36) * 1)))) (Value.string s75)) (World.drew w47) = .ok () w79 ∧
  S72 w79 ∧
  V.when (decide ((0 : Int) ≤ (IntKind.wrap .i64 (j_36 - 1)) ∧ ((IntKind.wrap .i64 (j_36 - 1)) : Int) < ((data_1l : Nat) : Int))) (V.ptr data_1 fun a80 =>
  ∃ w81, Sem.run Try.prog (Instr.storeAt 9 (Value.pointer (some (Addr.add a80 ((Int.toNat (IntKind.wrap .i64 (j_36 - 1))) * 1)))) (Value.string s77)) w79 = .ok () w81 ∧
  I34 (IntKind.wrap .i64 (j_36 - 1)) w81 ∧ μ35 (IntKind.wrap .i64 (j_36 - 1)) w81 < μ35 j_36 w38))))))))
  (V.sel (decide ((IntKind.wrap .i64 (b_3 - i_12)) ≥ 2))
  (∃ I82 : Int → World → Prop, ∃ μ83 : Int → World → Nat, I82 (IntKind.wrap .i64 (i_12 + 1)) w38 ∧
  ∀ j_84 (j85 : Nat → Value) (w86 : World), I82 j_84 w86 →
  (V.sel (decide (j_84 < b_3))
  (∃ S87 : World → Prop, S87 (World.drew w86) ∧
  V.when (decide ((0 : Int) ≤ j_84 ∧ (j_84 : Int) < ((data_1l : Nat) : Int))) (V.ptr data_1 fun a89 =>
  ∃ s90, (∀ w88, S87 w88 → World.cell? w88 (Addr.add a89 ((Int.toNat j_84) * 1)) = some (Value.string s90)) ∧
  V.when (decide ((0 : Int) ≤ (IntKind.wrap .i64 (j_84 - 1)) ∧ ((IntKind.wrap .i64 (j_84 - 1)) : Int) < ((data_1l : Nat) : Int))) (V.ptr data_1 fun a91 =>
  ∃ s92, (∀ w88, S87 w88 → World.cell? w88 (Addr.add a91 ((Int.toNat (IntKind.wrap .i64 (j_84 - 1))) * 1)) = some (Value.string s92)) ∧
  Calls Try.prog 53 #[(Value.string s90), (Value.string s92)] (World.drew w86) fun e94 w95 =>
  ∃ b93, e94 = Ending.returned (Value.bool b93) ∧
  S87 w95 ∧
  V.sel (!b93)
  (I4 i_12 (IntKind.wrap .i64 (j_7 + 1)) w95 ∧ μ5 i_12 (IntKind.wrap .i64 (j_7 + 1)) w95 < μ5 i_6 j_7 w9)
  (∃ S96 : World → Prop, S96 (World.drew w95) ∧
  V.when (decide ((0 : Int) ≤ (IntKind.wrap .i64 (j_84 - 1)) ∧ ((IntKind.wrap .i64 (j_84 - 1)) : Int) < ((data_1l : Nat) : Int))) (V.ptr data_1 fun a98 =>
  ∃ s99, (∀ w97, S96 w97 → World.cell? w97 (Addr.add a98 ((Int.toNat (IntKind.wrap .i64 (j_84 - 1))) * 1)) = some (Value.string s99)) ∧
  V.when (decide ((0 : Int) ≤ j_84 ∧ (j_84 : Int) < ((data_1l : Nat) : Int))) (V.ptr data_1 fun a100 =>
  ∃ s101, (∀ w97, S96 w97 → World.cell? w97 (Addr.add a100 ((Int.toNat j_84) * 1)) = some (Value.string s101)) ∧
  V.when (decide ((0 : Int) ≤ j_84 ∧ (j_84 : Int) < ((data_1l : Nat) : Int))) (V.ptr data_1 fun a102 =>
  ∃ w103, Sem.run Try.prog (Instr.storeAt 9 (Value.pointer (some (Addr.add a102 ((Int.toNat j_84) * 1)))) (Value.string s99)) (World.drew w95) = .ok () w103 ∧
  S96 w103 ∧
  V.when (decide ((0 : Int) ≤ (IntKind.wrap .i64 (j_84 - 1)) ∧ ((IntKind.wrap .i64 (j_84 - 1)) : Int) < ((data_1l : Nat) : Int))) (V.ptr data_1 fun a104 =>
  ∃ w105, Sem.run Try.prog (Instr.storeAt 9 (Value.pointer (some (Addr.add a104 ((Int.toNat (IntKind.wrap .i64 (j_84 - 1))) * 1)))) (Value.string s101)) w103 = .ok () w105 ∧
  I82 (IntKind.wrap .i64 (j_84 + 1)) w105 ∧ μ83 (IntKind.wrap .i64 (j_84 + 1)) w105 < μ83 j_84 w86))))))))
  (I4 i_12 (IntKind.wrap .i64 (j_7 + 1)) w86 ∧ μ5 i_12 (IntKind.wrap .i64 (j_7 + 1)) w86 < μ5 i_6 j_7 w9)))
  (I4 i_12 (IntKind.wrap .i64 (j_7 + 1)) w38 ∧ μ5 i_12 (IntKind.wrap .i64 (j_7 + 1)) w38 < μ5 i_6 j_7 w9))))
  (V.sel (decide ((IntKind.wrap .i64 (b_3 - i_12)) ≥ 2))
  (∃ I106 : Int → World → Prop, ∃ μ107 : Int → World → Nat, I106 (IntKind.wrap .i64 (i_12 + 1)) w33 ∧
  ∀ j_108 (j109 : Nat → Value) (w110 : World), I106 j_108 w110 →
  (V.sel (decide (j_108 < b_3))
  (∃ S111 : World → Prop, S111 (World.drew w110) ∧
  V.when (decide ((0 : Int) ≤ j_108 ∧ (j_108 : Int) < ((data_1l : Nat) : Int))) (V.ptr data_1 fun a113 =>
  ∃ s114, (∀ w112, S111 w112 → World.cell? w112 (Addr.add a113 ((Int.toNat j_108) * 1)) = some (Value.string s114)) ∧
  V.when (decide ((0 : Int) ≤ (IntKind.wrap .i64 (j_108 - 1)) ∧ ((IntKind.wrap .i64 (j_108 - 1)) : Int) < ((data_1l : Nat) : Int))) (V.ptr data_1 fun a115 =>
  ∃ s116, (∀ w112, S111 w112 → World.cell? w112 (Addr.add a115 ((Int.toNat (IntKind.wrap .i64 (j_108 - 1))) * 1)) = some (Value.string s116)) ∧
  Calls Try.prog 53 #[(Value.string s114), (Value.string s116)] (World.drew w110) fun e118 w119 =>
  ∃ b117, e118 = Ending.returned (Value.bool b117) ∧
  S111 w119 ∧
  V.sel (!b117)
  (I4 i_12 (IntKind.wrap .i64 (j_7 + 1)) w119 ∧ μ5 i_12 (IntKind.wrap .i64 (j_7 + 1)) w119 < μ5 i_6 j_7 w9)
  (∃ S120 : World → Prop, S120 (World.drew w119) ∧
  V.when (decide ((0 : Int) ≤ (IntKind.wrap .i64 (j_108 - 1)) ∧ ((IntKind.wrap .i64 (j_108 - 1)) : Int) < ((data_1l : Nat) : Int))) (V.ptr data_1 fun a122 =>
  ∃ s123, (∀ w121, S120 w121 → World.cell? w121 (Addr.add a122 ((Int.toNat (IntKind.wrap .i64 (j_108 - 1))) * 1)) = some (Value.string s123)) ∧
  V.when (decide ((0 : Int) ≤ j_108 ∧ (j_108 : Int) < ((data_1l : Nat) : Int))) (V.ptr data_1 fun a124 =>
  ∃ s125, (∀ w121, S120 w121 → World.cell? w121 (Addr.add a124 ((Int.toNat j_108) * 1)) = some (Value.string s125)) ∧
  V.when (decide ((0 : Int) ≤ j_108 ∧ (j_108 : Int) < ((data_1l : Nat) : Int))) (V.ptr data_1 fun a126 =>
  ∃ w127, Sem.run Try.prog (Instr.storeAt 9 (Value.pointer (some (Addr.add a126 ((Int.toNat j_108) * 1)))) (Value.string s123)) (World.drew w119) = .ok () w127 ∧
  S120 w127 ∧
  V.when (decide ((0 : Int) ≤ (IntKind.wrap .i64 (j_108 - 1)) ∧ ((IntKind.wrap .i64 (j_108 - 1)) : Int) < ((data_1l : Nat) : Int))) (V.ptr data_1 fun a128 =>
  ∃ w129, Sem.run Try.prog (Instr.storeAt 9 (Value.pointer (some (Addr.add a128 ((Int.toNat (IntKind.wrap .i64 (j_108 - 1))) * 1)))) (Value.string s125)) w127 = .ok () w129 ∧
  I106 (IntKind.wrap .i64 (j_108 + 1)) w129 ∧ μ107 (IntKind.wrap .i64 (j_108 + 1)) w129 < μ107 j_108 w110))))))))
  (I4 i_12 (IntKind.wrap .i64 (j_7 + 1)) w110 ∧ μ5 i_12 (IntKind.wrap .i64 (j_7 + 1)) w110 < μ5 i_6 j_7 w9)))
  (I4 i_12 (IntKind.wrap .i64 (j_7 + 1)) w33 ∧ μ5 i_12 (IntKind.wrap .i64 (j_7 + 1)) w33 < μ5 i_6 j_7 w9))))))))))))
  (V.sel (i_12 == b_3)
  (R (Ending.returned (Value.bool true)) (World.drew w14))
  (V.sel (decide ((IntKind.wrap .i64 (b_3 - a_2)) < 50))
  (R (Ending.returned (Value.bool false)) (World.drew w14))
  (∃ S130 : World → Prop, S130 (World.drew (World.drew w14)) ∧
  V.when (decide ((0 : Int) ≤ (IntKind.wrap .i64 (i_12 - 1)) ∧ ((IntKind.wrap .i64 (i_12 - 1)) : Int) < ((data_1l : Nat) : Int))) (V.ptr data_1 fun a132 =>
  ∃ s133, (∀ w131, S130 w131 → World.cell? w131 (Addr.add a132 ((Int.toNat (IntKind.wrap .i64 (i_12 - 1))) * 1)) = some (Value.string s133)) ∧
  V.when (decide ((0 : Int) ≤ i_12 ∧ (i_12 : Int) < ((data_1l : Nat) : Int))) (V.ptr data_1 fun a134 =>
  ∃ s135, (∀ w131, S130 w131 → World.cell? w131 (Addr.add a134 ((Int.toNat i_12) * 1)) = some (Value.string s135)) ∧
  V.when (decide ((0 : Int) ≤ i_12 ∧ (i_12 : Int) < ((data_1l : Nat) : Int))) (V.ptr data_1 fun a136 =>
  ∃ w137, Sem.run Try.prog (Instr.storeAt 9 (Value.pointer (some (Addr.add a136 ((Int.toNat i_12) * 1)))) (Value.string s133)) (World.drew (World.drew w14)) = .ok () w137 ∧
  S130 w137 ∧
  V.when (decide ((0 : Int) ≤ (IntKind.wrap .i64 (i_12 - 1)) ∧ ((IntKind.wrap .i64 (i_12 - 1)) : Int) < ((data_1l : Nat) : Int))) (V.ptr data_1 fun a138 =>
  ∃ w139, Sem.run Try.prog (Instr.storeAt 9 (Value.pointer (some (Addr.add a138 ((Int.toNat (IntKind.wrap .i64 (i_12 - 1))) * 1)))) (Value.string s135)) w137 = .ok () w139 ∧
  V.sel (decide ((IntKind.wrap .i64 (i_12 - a_2)) ≥ 2))
  (∃ I140 : Int → World → Prop, ∃ μ141 : Int → World → Nat, I140 (IntKind.wrap .i64 (i_12 - 1)) w139 ∧
  ∀ j_142 (j143 : Nat → Value) (w144 : World), I140 j_142 w144 →
  (V.sel (decide (j_142 ≥ 1))
  (∃ S145 : World → Prop, S145 (World.drew w144) ∧
  V.when (decide ((0 : Int) ≤ j_142 ∧ (j_142 : Int) < ((data_1l : Nat) : Int))) (V.ptr data_1 fun a147 =>
  ∃ s148, (∀ w146, S145 w146 → World.cell? w146 (Addr.add a147 ((Int.toNat j_142) * 1)) = some (Value.string s148)) ∧
  V.when (decide ((0 : Int) ≤ (IntKind.wrap .i64 (j_142 - 1)) ∧ ((IntKind.wrap .i64 (j_142 - 1)) : Int) < ((data_1l : Nat) : Int))) (V.ptr data_1 fun a149 =>
  ∃ s150, (∀ w146, S145 w146 → World.cell? w146 (Addr.add a149 ((Int.toNat (IntKind.wrap .i64 (j_142 - 1))) * 1)) = some (Value.string s150)) ∧
  Calls Try.prog 53 #[(Value.string s148), (Value.string s150)] (World.drew w144) fun e152 w153 =>
  ∃ b151, e152 = Ending.returned (Value.bool b151) ∧
  S145 w153 ∧
  V.sel (!b151)
  (V.sel (decide ((IntKind.wrap .i64 (b_3 - i_12)) ≥ 2))
  (∃ I154 : Int → World → Prop, ∃ μ155 : Int → World → Nat, I154 (IntKind.wrap .i64 (i_12 + 1)) w153 ∧
  ∀ j_156 (j157 : Nat → Value) (w158 : World), I154 j_156 w158 →
  (V.sel (decide (j_156 < b_3))
  (∃ S159 : World → Prop, S159 (World.drew w158) ∧
  V.when (decide ((0 : Int) ≤ j_156 ∧ (j_156 : Int) < ((data_1l : Nat) : Int))) (V.ptr data_1 fun a161 =>
  ∃ s162, (∀ w160, S159 w160 → World.cell? w160 (Addr.add a161 ((Int.toNat j_156) * 1)) = some (Value.string s162)) ∧
  V.when (decide ((0 : Int) ≤ (IntKind.wrap .i64 (j_156 - 1)) ∧ ((IntKind.wrap .i64 (j_156 - 1)) : Int) < ((data_1l : Nat) : Int))) (V.ptr data_1 fun a163 =>
  ∃ s164, (∀ w160, S159 w160 → World.cell? w160 (Addr.add a163 ((Int.toNat (IntKind.wrap .i64 (j_156 - 1))) * 1)) = some (Value.string s164)) ∧
  Calls Try.prog 53 #[(Value.string s162), (Value.string s164)] (World.drew w158) fun e166 w167 =>
  ∃ b165, e166 = Ending.returned (Value.bool b165) ∧
  S159 w167 ∧
  V.sel (!b165)
  (I4 i_12 (IntKind.wrap .i64 (j_7 + 1)) w167 ∧ μ5 i_12 (IntKind.wrap .i64 (j_7 + 1)) w167 < μ5 i_6 j_7 w9)
  (∃ S168 : World → Prop, S168 (World.drew w167) ∧
  V.when (decide ((0 : Int) ≤ (IntKind.wrap .i64 (j_156 - 1)) ∧ ((IntKind.wrap .i64 (j_156 - 1)) : Int) < ((data_1l : Nat) : Int))) (V.ptr data_1 fun a170 =>
  ∃ s171, (∀ w169, S168 w169 → World.cell? w169 (Addr.add a170 ((Int.toNat (IntKind.wrap .i64 (j_156 - 1))) * 1)) = some (Value.string s171)) ∧
  V.when (decide ((0 : Int) ≤ j_156 ∧ (j_156 : Int) < ((data_1l : Nat) : Int))) (V.ptr data_1 fun a172 =>
  ∃ s173, (∀ w169, S168 w169 → World.cell? w169 (Addr.add a172 ((Int.toNat j_156) * 1)) = some (Value.string s173)) ∧
  V.when (decide ((0 : Int) ≤ j_156 ∧ (j_156 : Int) < ((data_1l : Nat) : Int))) (V.ptr data_1 fun a174 =>
  ∃ w175, Sem.run Try.prog (Instr.storeAt 9 (Value.pointer (some (Addr.add a174 ((Int.toNat j_156) * 1)))) (Value.string s171)) (World.drew w167) = .ok () w175 ∧
  S168 w175 ∧
  V.when (decide ((0 : Int) ≤ (IntKind.wrap .i64 (j_156 - 1)) ∧ ((IntKind.wrap .i64 (j_156 - 1)) : Int) < ((data_1l : Nat) : Int))) (V.ptr data_1 fun a176 =>
  ∃ w177, Sem.run Try.prog (Instr.storeAt 9 (Value.pointer (some (Addr.add a176 ((Int.toNat (IntKind.wrap .i64 (j_156 - 1))) * 1)))) (Value.string s173)) w175 = .ok () w177 ∧
  I154 (IntKind.wrap .i64 (j_156 + 1)) w177 ∧ μ155 (IntKind.wrap .i64 (j_156 + 1)) w177 < μ155 j_156 w158))))))))
  (I4 i_12 (IntKind.wrap .i64 (j_7 + 1)) w158 ∧ μ5 i_12 (IntKind.wrap .i64 (j_7 + 1)) w158 < μ5 i_6 j_7 w9)))
  (I4 i_12 (IntKind.wrap .i64 (j_7 + 1)) w153 ∧ μ5 i_12 (IntKind.wrap .i64 (j_7 + 1)) w153 < μ5 i_6 j_7 w9))
  (∃ S178 : World → Prop, S178 (World.drew w153) ∧
  V.when (decide ((0 : Int) ≤ (IntKind.wrap .i64 (j_142 - 1)) ∧ ((IntKind.wrap .i64 (j_142 - 1)) : Int) < ((data_1l : Nat) : Int))) (V.ptr data_1 fun a180 =>
  ∃ s181, (∀ w179, S178 w179 → World.cell? w179 (Addr.add a180 ((Int.toNat (IntKind.wrap .i64 (j_142 - 1))) * 1)) = some (Value.string s181)) ∧
  V.when (decide ((0 : Int) ≤ j_142 ∧ (j_142 : Int) < ((data_1l : Nat) : Int))) (V.ptr data_1 fun a182 =>
  ∃ s183, (∀ w179, S178 w179 → World.cell? w179 (Addr.add a182 ((Int.toNat j_142) * 1)) = some (Value.string s183)) ∧
  V.when (decide ((0 : Int) ≤ j_142 ∧ (j_142 : Int) < ((data_1l : Nat) : Int))) (V.ptr data_1 fun a184 =>
  ∃ w185, Sem.run Try.prog (Instr.storeAt 9 (Value.pointer (some (Addr.add a184 ((Int.toNat j_142) * 1)))) (Value.string s181)) (World.drew w153) = .ok () w185 ∧
  S178 w185 ∧
  V.when (decide ((0 : Int) ≤ (IntKind.wrap .i64 (j_142 - 1)) ∧ ((IntKind.wrap .i64 (j_142 - 1)) : Int) < ((data_1l : Nat) : Int))) (V.ptr data_1 fun a186 =>
  ∃ w187, Sem.run Try.prog (Instr.storeAt 9 (Value.pointer (some (Addr.add a186 ((Int.toNat (IntKind.wrap .i64 (j_142 - 1))) * 1)))) (Value.string s183)) w185 = .ok () w187 ∧
  I140 (IntKind.wrap .i64 (j_142 - 1)) w187 ∧ μ141 (IntKind.wrap .i64 (j_142 - 1)) w187 < μ141 j_142 w144))))))))
  (V.sel (decide ((IntKind.wrap .i64 (b_3 - i_12)) ≥ 2))
  (∃ I188 : Int → World → Prop, ∃ μ189 : Int → World → Nat, I188 (IntKind.wrap .i64 (i_12 + 1)) w144 ∧
  ∀ j_190 (j191 : Nat → Value) (w192 : World), I188 j_190 w192 →
  (V.sel (decide (j_190 < b_3))
  (∃ S193 : World → Prop, S193 (World.drew w192) ∧
  V.when (decide ((0 : Int) ≤ j_190 ∧ (j_190 : Int) < ((data_1l : Nat) : Int))) (V.ptr data_1 fun a195 =>
  ∃ s196, (∀ w194, S193 w194 → World.cell? w194 (Addr.add a195 ((Int.toNat j_190) * 1)) = some (Value.string s196)) ∧
  V.when (decide ((0 : Int) ≤ (IntKind.wrap .i64 (j_190 - 1)) ∧ ((IntKind.wrap .i64 (j_190 - 1)) : Int) < ((data_1l : Nat) : Int))) (V.ptr data_1 fun a197 =>
  ∃ s198, (∀ w194, S193 w194 → World.cell? w194 (Addr.add a197 ((Int.toNat (IntKind.wrap .i64 (j_190 - 1))) * 1)) = some (Value.string s198)) ∧
  Calls Try.prog 53 #[(Value.string s196), (Value.string s198)] (World.drew w192) fun e200 w201 =>
  ∃ b199, e200 = Ending.returned (Value.bool b199) ∧
  S193 w201 ∧
  V.sel (!b199)
  (I4 i_12 (IntKind.wrap .i64 (j_7 + 1)) w201 ∧ μ5 i_12 (IntKind.wrap .i64 (j_7 + 1)) w201 < μ5 i_6 j_7 w9)
  (∃ S202 : World → Prop, S202 (World.drew w201) ∧
  V.when (decide ((0 : Int) ≤ (IntKind.wrap .i64 (j_190 - 1)) ∧ ((IntKind.wrap .i64 (j_190 - 1)) : Int) < ((data_1l : Nat) : Int))) (V.ptr data_1 fun a204 =>
  ∃ s205, (∀ w203, S202 w203 → World.cell? w203 (Addr.add a204 ((Int.toNat (IntKind.wrap .i64 (j_190 - 1))) * 1)) = some (Value.string s205)) ∧
  V.when (decide ((0 : Int) ≤ j_190 ∧ (j_190 : Int) < ((data_1l : Nat) : Int))) (V.ptr data_1 fun a206 =>
  ∃ s207, (∀ w203, S202 w203 → World.cell? w203 (Addr.add a206 ((Int.toNat j_190) * 1)) = some (Value.string s207)) ∧
  V.when (decide ((0 : Int) ≤ j_190 ∧ (j_190 : Int) < ((data_1l : Nat) : Int))) (V.ptr data_1 fun a208 =>
  ∃ w209, Sem.run Try.prog (Instr.storeAt 9 (Value.pointer (some (Addr.add a208 ((Int.toNat j_190) * 1)))) (Value.string s205)) (World.drew w201) = .ok () w209 ∧
  S202 w209 ∧
  V.when (decide ((0 : Int) ≤ (IntKind.wrap .i64 (j_190 - 1)) ∧ ((IntKind.wrap .i64 (j_190 - 1)) : Int) < ((data_1l : Nat) : Int))) (V.ptr data_1 fun a210 =>
  ∃ w211, Sem.run Try.prog (Instr.storeAt 9 (Value.pointer (some (Addr.add a210 ((Int.toNat (IntKind.wrap .i64 (j_190 - 1))) * 1)))) (Value.string s207)) w209 = .ok () w211 ∧
  I188 (IntKind.wrap .i64 (j_190 + 1)) w211 ∧ μ189 (IntKind.wrap .i64 (j_190 + 1)) w211 < μ189 j_190 w192))))))))
  (I4 i_12 (IntKind.wrap .i64 (j_7 + 1)) w192 ∧ μ5 i_12 (IntKind.wrap .i64 (j_7 + 1)) w192 < μ5 i_6 j_7 w9)))
  (I4 i_12 (IntKind.wrap .i64 (j_7 + 1)) w144 ∧ μ5 i_12 (IntKind.wrap .i64 (j_7 + 1)) w144 < μ5 i_6 j_7 w9))))
  (V.sel (decide ((IntKind.wrap .i64 (b_3 - i_12)) ≥ 2))
  (∃ I212 : Int → World → Prop, ∃ μ213 : Int → World → Nat, I212 (IntKind.wrap .i64 (i_12 + 1)) w139 ∧
  ∀ j_214 (j215 : Nat → Value) (w216 : World), I212 j_214 w216 →
  (V.sel (decide (j_214 < b_3))
  (∃ S217 : World → Prop, S217 (World.drew w216) ∧
  V.when (decide ((0 : Int) ≤ j_214 ∧ (j_214 : Int) < ((data_1l : Nat) : Int))) (V.ptr data_1 fun a219 =>
  ∃ s220, (∀ w218, S217 w218 → World.cell? w218 (Addr.add a219 ((Int.toNat j_214) * 1)) = some (Value.string s220)) ∧
  V.when (decide ((0 : Int) ≤ (IntKind.wrap .i64 (j_214 - 1)) ∧ ((IntKind.wrap .i64 (j_214 - 1)) : Int) < ((data_1l : Nat) : Int))) (V.ptr data_1 fun a221 =>
  ∃ s222, (∀ w218, S217 w218 → World.cell? w218 (Addr.add a221 ((Int.toNat (IntKind.wrap .i64 (j_214 - 1))) * 1)) = some (Value.string s222)) ∧
  Calls Try.prog 53 #[(Value.string s220), (Value.string s222)] (World.drew w216) fun e224 w225 =>
  ∃ b223, e224 = Ending.returned (Value.bool b223) ∧
  S217 w225 ∧
  V.sel (!b223)
  (I4 i_12 (IntKind.wrap .i64 (j_7 + 1)) w225 ∧ μ5 i_12 (IntKind.wrap .i64 (j_7 + 1)) w225 < μ5 i_6 j_7 w9)
  (∃ S226 : World → Prop, S226 (World.drew w225) ∧
  V.when (decide ((0 : Int) ≤ (IntKind.wrap .i64 (j_214 - 1)) ∧ ((IntKind.wrap .i64 (j_214 - 1)) : Int) < ((data_1l : Nat) : Int))) (V.ptr data_1 fun a228 =>
  ∃ s229, (∀ w227, S226 w227 → World.cell? w227 (Addr.add a228 ((Int.toNat (IntKind.wrap .i64 (j_214 - 1))) * 1)) = some (Value.string s229)) ∧
  V.when (decide ((0 : Int) ≤ j_214 ∧ (j_214 : Int) < ((data_1l : Nat) : Int))) (V.ptr data_1 fun a230 =>
  ∃ s231, (∀ w227, S226 w227 → World.cell? w227 (Addr.add a230 ((Int.toNat j_214) * 1)) = some (Value.string s231)) ∧
  V.when (decide ((0 : Int) ≤ j_214 ∧ (j_214 : Int) < ((data_1l : Nat) : Int))) (V.ptr data_1 fun a232 =>
  ∃ w233, Sem.run Try.prog (Instr.storeAt 9 (Value.pointer (some (Addr.add a232 ((Int.toNat j_214) * 1)))) (Value.string s229)) (World.drew w225) = .ok () w233 ∧
  S226 w233 ∧
  V.when (decide ((0 : Int) ≤ (IntKind.wrap .i64 (j_214 - 1)) ∧ ((IntKind.wrap .i64 (j_214 - 1)) : Int) < ((data_1l : Nat) : Int))) (V.ptr data_1 fun a234 =>
  ∃ w235, Sem.run Try.prog (Instr.storeAt 9 (Value.pointer (some (Addr.add a234 ((Int.toNat (IntKind.wrap .i64 (j_214 - 1))) * 1)))) (Value.string s231)) w233 = .ok () w235 ∧
  I212 (IntKind.wrap .i64 (j_214 + 1)) w235 ∧ μ213 (IntKind.wrap .i64 (j_214 + 1)) w235 < μ213 j_214 w216))))))))
  (I4 i_12 (IntKind.wrap .i64 (j_7 + 1)) w216 ∧ μ5 i_12 (IntKind.wrap .i64 (j_7 + 1)) w216 < μ5 i_6 j_7 w9)))
  (I4 i_12 (IntKind.wrap .i64 (j_7 + 1)) w139 ∧ μ5 i_12 (IntKind.wrap .i64 (j_7 + 1)) w139 < μ5 i_6 j_7 w9)))))))))))
  (R (Ending.returned (Value.bool false)) w9))) :
  Calls Try.prog 52 #[(Value.slice data_1 data_1l data_1c), (Value.int .i64 a_2), (Value.int .i64 b_3)] w R :=
  V.calls_of_R ⟨V.assoc [(0, [7, 8]), (1, [7]), (2, [9]), (3, [10])], V.assocP [(5, V.line [0, 1, 2, 3, 4, 5, 6, 7, 8, 9, 10, 11, 12, 13, 14, 15]), (11, V.line [0, 1, 2, 3, 4, 5, 6, 7, 8, 9, 10, 11, 12, 13, 14, 15, 16, 17]), (16, V.line [0, 1, 2, 3, 4, 5, 6, 7, 8, 9, 10]), (17, V.line [0, 1, 2, 3, 4, 5, 6, 7, 8, 9, 10, 11, 12, 13, 14, 15, 16, 17]), (22, V.line [0, 1, 2, 3, 4, 5, 6, 7, 8, 9, 10]), (23, V.line [0, 1, 2, 3, 4, 5, 6, 7, 8, 9, 10, 11, 12, 13, 14, 15, 16, 17])], V.assocC [], V.assocS [], ⟨[], true⟩⟩ Try.func52 rfl (Eq.mp (by kernel_rfl) h)

theorem cmp_Less_string__nf (x_1 : ByteArray) (y_2 : ByteArray) (w : World) (R : Ending → World → Prop) (h :
  Calls Try.prog 64 #[(Value.string x_1)] w fun e4 w5 =>
  ∃ b3, e4 = Ending.returned (Value.bool b3) ∧
  V.sel b3
  (Calls Try.prog 64 #[(Value.string y_2)] w5 fun e7 w8 =>
  ∃ b6, e7 = Ending.returned (Value.bool b6) ∧
  V.sel (!b6)
  (R (Ending.returned (Value.bool true)) w8)
  (R (Ending.returned (Value.bool (Op.bytesLess (ByteArray.toList x_1) (ByteArray.toList y_2)))) w8))
  (R (Ending.returned (Value.bool (Op.bytesLess (ByteArray.toList x_1) (ByteArray.toList y_2)))) w5)) :
  Calls Try.prog 53 #[(Value.string x_1), (Value.string y_2)] w R :=
  V.calls_of_R ⟨V.assoc [], V.assocP [], V.assocC [], V.assocS [], ⟨[], true⟩⟩ Try.func53 rfl (Eq.mp (by kernel_rfl) h)

theorem slices_partitionEqualOrdered_string__nf (data_1 : Option Addr) (data_1l : Nat) (data_1c : Nat) (a_2 : Int) (b_3 : Int) (pivot_4 : Int) (w : World) (R : Ending → World → Prop) (h :
  ∃ S5 : World → Prop, S5 (World.drew w) ∧
  V.when (decide ((0 : Int) ≤ pivot_4 ∧ (pivot_4 : Int) < ((data_1l : Nat) : Int))) (V.ptr data_1 fun a7 =>
  ∃ s8, (∀ w6, S5 w6 → World.cell? w6 (Addr.add a7 ((Int.toNat pivot_4) * 1)) = some (Value.string s8)) ∧
  V.when (decide ((0 : Int) ≤ a_2 ∧ (a_2 : Int) < ((data_1l : Nat) : Int))) (V.ptr data_1 fun a9 =>
  ∃ s10, (∀ w6, S5 w6 → World.cell? w6 (Addr.add a9 ((Int.toNat a_2) * 1)) = some (Value.string s10)) ∧
  V.when (decide ((0 : Int) ≤ a_2 ∧ (a_2 : Int) < ((data_1l : Nat) : Int))) (V.ptr data_1 fun a11 =>
  ∃ w12, Sem.run Try.prog (Instr.storeAt 9 (Value.pointer (some (Addr.add a11 ((Int.toNat a_2) * 1)))) (Value.string s8)) (World.drew w) = .ok () w12 ∧
  S5 w12 ∧
  V.when (decide ((0 : Int) ≤ pivot_4 ∧ (pivot_4 : Int) < ((data_1l : Nat) : Int))) (V.ptr data_1 fun a13 =>
  ∃ w14, Sem.run Try.prog (Instr.storeAt 9 (Value.pointer (some (Addr.add a13 ((Int.toNat pivot_4) * 1)))) (Value.string s10)) w12 = .ok () w14 ∧
  ∃ I15 : Int → Int → World → Prop, ∃ μ16 : Int → Int → World → Nat, I15 (IntKind.wrap .i64 (a_2 + 1)) (IntKind.wrap .i64 (b_3 - 1)) w14 ∧
  ∀ i_17 j_18 (j19 : Nat → Value) (w20 : World), I15 i_17 j_18 w20 →
  (∃ I21 : Int → World → Prop, ∃ μ22 : Int → World → Nat, I21 i_17 w20 ∧
  ∀ i_23 (j24 : Nat → Value) (w25 : World), I21 i_23 w25 →
  (∃ S26 : World → Prop, S26 (World.drew w25) ∧
  V.sel (decide (i_23 ≤ j_18))
  (V.when (decide ((0 : Int) ≤ a_2 ∧ (a_2 : Int) < ((data_1l : Nat) : Int))) (V.ptr data_1 fun a28 =>
  ∃ s29, (∀ w27, S26 w27 → World.cell? w27 (Addr.add a28 ((Int.toNat a_2) * 1)) = some (Value.string s29)) ∧
  V.when (decide ((0 : Int) ≤ i_23 ∧ (i_23 : Int) < ((data_1l : Nat) : Int))) (V.ptr data_1 fun a30 =>
  ∃ s31, (∀ w27, S26 w27 → World.cell? w27 (Addr.add a30 ((Int.toNat i_23) * 1)) = some (Value.string s31)) ∧
  Calls Try.prog 53 #[(Value.string s29), (Value.string s31)] (World.drew w25) fun e33 w34 =>
  ∃ b32, e33 = Ending.returned (Value.bool b32) ∧
  S26 w34 ∧
  V.sel (!b32)
  (I21 (IntKind.wrap .i64 (i_23 + 1)) w34 ∧ μ22 (IntKind.wrap .i64 (i_23 + 1)) w34 < μ22 i_23 w25)
  (∃ I35 : Int → World → Prop, ∃ μ36 : Int → World → Nat, I35 j_18 w34 ∧
  ∀ j_37 (j38 : Nat → Value) (w39 : World), I35 j_37 w39 →
  (∃ S40 : World → Prop, S40 (World.drew w39) ∧
  V.sel (decide (i_23 ≤ j_37))
  (V.when (decide ((0 : Int) ≤ a_2 ∧ (a_2 : Int) < ((data_1l : Nat) : Int))) (V.ptr data_1 fun a42 =>
  ∃ s43, (∀ w41, S40 w41 → World.cell? w41 (Addr.add a42 ((Int.toNat a_2) * 1)) = some (Value.string s43)) ∧
  V.when (decide ((0 : Int) ≤ j_37 ∧ (j_37 : Int) < ((data_1l : Nat) : Int))) (V.ptr data_1 fun a44 =>
  ∃ s45, (∀ w41, S40 w41 → World.cell? w41 (Addr.add a44 ((Int.toNat j_37) * 1)) = some (Value.string s45)) ∧
  Calls Try.prog 53 #[(Value.string s43), (Value.string s45)] (World.drew w39) fun e47 w48 =>
  ∃ b46, e47 = Ending.returned (Value.bool b46) ∧
  S40 w48 ∧
  V.sel b46
  (I35 (IntKind.wrap .i64 (j_37 - 1)) w48 ∧ μ36 (IntKind.wrap .i64 (j_37 - 1)) w48 < μ36 j_37 w39)
  (V.sel (decide (i_23 > j_37))
  (R (Ending.returned (Value.int .i64 i_23)) w48)
  (∃ S49 : World → Prop, S49 (World.drew w48) ∧
  V.when (decide ((0 : Int) ≤ j_37 ∧ (j_37 : Int) < ((data_1l : Nat) : Int))) (V.ptr data_1 fun a51 =>
  ∃ s52, (∀ w50, S49 w50 → World.cell? w50 (Addr.add a51 ((Int.toNat j_37) * 1)) = some (Value.string s52)) ∧
  V.when (decide ((0 : Int) ≤ i_23 ∧ (i_23 : Int) < ((data_1l : Nat) : Int))) (V.ptr data_1 fun a53 =>
  ∃ s54, (∀ w50, S49 w50 → World.cell? w50 (Addr.add a53 ((Int.toNat i_23) * 1)) = some (Value.string s54)) ∧
  V.when (decide ((0 : Int) ≤ i_23 ∧ (i_23 : Int) < ((data_1l : Nat) : Int))) (V.ptr data_1 fun a55 =>
  ∃ w56, Sem.run Try.prog (Instr.storeAt 9 (Value.pointer (some (Addr.add a55 ((Int.toNat i_23) * 1)))) (Value.string s52)) (World.drew w48) = .ok () w56 ∧
  S49 w56 ∧
  V.when (decide ((0 : Int) ≤ j_37 ∧ (j_37 : Int) < ((data_1l : Nat) : Int))) (V.ptr data_1 fun a57 =>
  ∃ w58, Sem.run Try.prog (Instr.storeAt 9 (Value.pointer (some (Addr.add a57 ((Int.toNat j_37) * 1)))) (Value.string s54)) w56 = .ok () w58 ∧
  I15 (IntKind.wrap .i64 (i_23 + 1)) (IntKind.wrap .i64 (j_37 - 1)) w58 ∧ μ16 (IntKind.wrap .i64 (i_23 + 1)) (IntKind.wrap .i64 (j_37 - 1)) w58 < μ16 i_17 j_18 w20)))))))))
  (V.sel (decide (i_23 > j_37))
  (R (Ending.returned (Value.int .i64 i_23)) (World.drew w39))
  (∃ S59 : World → Prop, S59 (World.drew (World.drew w39)) ∧
  V.when (decide ((0 : Int) ≤ j_37 ∧ (j_37 : Int) < ((data_1l : Nat) : Int))) (V.ptr data_1 fun a61 =>
  ∃ s62, (∀ w60, S59 w60 → World.cell? w60 (Addr.add a61 ((Int.toNat j_37) * 1)) = some (Value.string s62)) ∧
  V.when (decide ((0 : Int) ≤ i_23 ∧ (i_23 : Int) < ((data_1l : Nat) : Int))) (V.ptr data_1 fun a63 =>
  ∃ s64, (∀ w60, S59 w60 → World.cell? w60 (Addr.add a63 ((Int.toNat i_23) * 1)) = some (Value.string s64)) ∧
  V.when (decide ((0 : Int) ≤ i_23 ∧ (i_23 : Int) < ((data_1l : Nat) : Int))) (V.ptr data_1 fun a65 =>
  ∃ w66, Sem.run Try.prog (Instr.storeAt 9 (Value.pointer (some (Addr.add a65 ((Int.toNat i_23) * 1)))) (Value.string s62)) (World.drew (World.drew w39)) = .ok () w66 ∧
  S59 w66 ∧
  V.when (decide ((0 : Int) ≤ j_37 ∧ (j_37 : Int) < ((data_1l : Nat) : Int))) (V.ptr data_1 fun a67 =>
  ∃ w68, Sem.run Try.prog (Instr.storeAt 9 (Value.pointer (some (Addr.add a67 ((Int.toNat j_37) * 1)))) (Value.string s64)) w66 = .ok () w68 ∧
  I15 (IntKind.wrap .i64 (i_23 + 1)) (IntKind.wrap .i64 (j_37 - 1)) w68 ∧ μ16 (IntKind.wrap .i64 (i_23 + 1)) (IntKind.wrap .i64 (j_37 - 1)) w68 < μ16 i_17 j_18 w20)))))))))))
  (∃ I69 : Int → World → Prop, ∃ μ70 : Int → World → Nat, I69 j_18 (World.drew w25) ∧
  ∀ j_71 (j72 : Nat → Value) (w73 : World), I69 j_71 w73 →
  (∃ S74 : World → Prop, S74 (World.drew w73) ∧
  V.sel (decide (i_23 ≤ j_71))
  (V.when (decide ((0 : Int) ≤ a_2 ∧ (a_2 : Int) < ((data_1l : Nat) : Int))) (V.ptr data_1 fun a76 =>
  ∃ s77, (∀ w75, S74 w75 → World.cell? w75 (Addr.add a76 ((Int.toNat a_2) * 1)) = some (Value.string s77)) ∧
  V.when (decide ((0 : Int) ≤ j_71 ∧ (j_71 : Int) < ((data_1l : Nat) : Int))) (V.ptr data_1 fun a78 =>
  ∃ s79, (∀ w75, S74 w75 → World.cell? w75 (Addr.add a78 ((Int.toNat j_71) * 1)) = some (Value.string s79)) ∧
  Calls Try.prog 53 #[(Value.string s77), (Value.string s79)] (World.drew w73) fun e81 w82 =>
  ∃ b80, e81 = Ending.returned (Value.bool b80) ∧
  S74 w82 ∧
  V.sel b80
  (I69 (IntKind.wrap .i64 (j_71 - 1)) w82 ∧ μ70 (IntKind.wrap .i64 (j_71 - 1)) w82 < μ70 j_71 w73)
  (V.sel (decide (i_23 > j_71))
  (R (Ending.returned (Value.int .i64 i_23)) w82)
  (∃ S83 : World → Prop, S83 (World.drew w82) ∧
  V.when (decide ((0 : Int) ≤ j_71 ∧ (j_71 : Int) < ((data_1l : Nat) : Int))) (V.ptr data_1 fun a85 =>
  ∃ s86, (∀ w84, S83 w84 → World.cell? w84 (Addr.add a85 ((Int.toNat j_71) * 1)) = some (Value.string s86)) ∧
  V.when (decide ((0 : Int) ≤ i_23 ∧ (i_23 : Int) < ((data_1l : Nat) : Int))) (V.ptr data_1 fun a87 =>
  ∃ s88, (∀ w84, S83 w84 → World.cell? w84 (Addr.add a87 ((Int.toNat i_23) * 1)) = some (Value.string s88)) ∧
  V.when (decide ((0 : Int) ≤ i_23 ∧ (i_23 : Int) < ((data_1l : Nat) : Int))) (V.ptr data_1 fun a89 =>
  ∃ w90, Sem.run Try.prog (Instr.storeAt 9 (Value.pointer (some (Addr.add a89 ((Int.toNat i_23) * 1)))) (Value.string s86)) (World.drew w82) = .ok () w90 ∧
  S83 w90 ∧
  V.when (decide ((0 : Int) ≤ j_71 ∧ (j_71 : Int) < ((data_1l : Nat) : Int))) (V.ptr data_1 fun a91 =>
  ∃ w92, Sem.run Try.prog (Instr.storeAt 9 (Value.pointer (some (Addr.add a91 ((Int.toNat j_71) * 1)))) (Value.string s88)) w90 = .ok () w92 ∧
  I15 (IntKind.wrap .i64 (i_23 + 1)) (IntKind.wrap .i64 (j_71 - 1)) w92 ∧ μ16 (IntKind.wrap .i64 (i_23 + 1)) (IntKind.wrap .i64 (j_71 - 1)) w92 < μ16 i_17 j_18 w20)))))))))
  (V.sel (decide (i_23 > j_71))
  (R (Ending.returned (Value.int .i64 i_23)) (World.drew w73))
  (∃ S93 : World → Prop, S93 (World.drew (World.drew w73)) ∧
  V.when (decide ((0 : Int) ≤ j_71 ∧ (j_71 : Int) < ((data_1l : Nat) : Int))) (V.ptr data_1 fun a95 =>
  ∃ s96, (∀ w94, S93 w94 → World.cell? w94 (Addr.add a95 ((Int.toNat j_71) * 1)) = some (Value.string s96)) ∧
  V.when (decide ((0 : Int) ≤ i_23 ∧ (i_23 : Int) < ((data_1l : Nat) : Int))) (V.ptr data_1 fun a97 =>
  ∃ s98, (∀ w94, S93 w94 → World.cell? w94 (Addr.add a97 ((Int.toNat i_23) * 1)) = some (Value.string s98)) ∧
  V.when (decide ((0 : Int) ≤ i_23 ∧ (i_23 : Int) < ((data_1l : Nat) : Int))) (V.ptr data_1 fun a99 =>
  ∃ w100, Sem.run Try.prog (Instr.storeAt 9 (Value.pointer (some (Addr.add a99 ((Int.toNat i_23) * 1)))) (Value.string s96)) (World.drew (World.drew w73)) = .ok () w100 ∧
  S93 w100 ∧
  V.when (decide ((0 : Int) ≤ j_71 ∧ (j_71 : Int) < ((data_1l : Nat) : Int))) (V.ptr data_1 fun a101 =>
  ∃ w102, Sem.run Try.prog (Instr.storeAt 9 (Value.pointer (some (Addr.add a101 ((Int.toNat j_71) * 1)))) (Value.string s98)) w100 = .ok () w102 ∧
  I15 (IntKind.wrap .i64 (i_23 + 1)) (IntKind.wrap .i64 (j_71 - 1)) w102 ∧ μ16 (IntKind.wrap .i64 (i_23 + 1)) (IntKind.wrap .i64 (j_71 - 1)) w102 < μ16 i_17 j_18 w20))))))))))))))) :
  Calls Try.prog 54 #[(Value.slice data_1 data_1l data_1c), (Value.int .i64 a_2), (Value.int .i64 b_3), (Value.int .i64 pivot_4)] w R :=
  V.calls_of_R ⟨V.assoc [(0, [9, 10]), (1, [9]), (2, [10])], V.assocP [(1, V.line [0, 1, 2, 3, 4, 5, 6, 7, 8, 9, 10, 11, 12, 13, 14, 15]), (3, V.line [0, 1, 2, 3, 4, 5, 6, 7, 8, 9, 10, 11, 12, 13, 14]), (5, V.line [0, 1, 2, 3, 4, 5, 6, 7, 8, 9, 10, 11, 12, 13]), (8, V.line [0, 1, 2, 3, 4, 5, 6, 7, 8, 9, 10, 11, 12, 13, 14, 15])], V.assocC [], V.assocS [], ⟨[], true⟩⟩ Try.func54 rfl (Eq.mp (by kernel_rfl) h)

end Go.Proofs.Ytcampkaenlohbaa
