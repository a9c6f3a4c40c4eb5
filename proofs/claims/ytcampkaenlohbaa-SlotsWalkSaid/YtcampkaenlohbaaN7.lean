/- Normal forms of the program's functions, printed by a program of mine; the kernel checks each. -/
import Derived.Test.YtcampkaenlohbaaProg
import Derived.Test.YtcampkaenlohbaaV2
set_option linter.unusedVariables false
set_option maxRecDepth 100000
namespace Go.Proofs.Ytcampkaenlohbaa
open Go

theorem slices_partitionOrdered_string__nf (data_1 : Option Addr) (data_1l : Nat) (data_1c : Nat) (a_2 : Int) (b_3 : Int) (pivot_4 : Int) (w : World) (R : Ending → World → Prop) (h :
  ∃ S5 : World → Prop, S5 (World.drew w) ∧
  V.when (decide ((0 : Int) ≤ pivot_4 ∧ (pivot_4 : Int) < ((data_1l : Nat) : Int))) (V.ptr data_1 fun a7 =>
  ∃ s8, (∀ w6, S5 w6 → World.cell? w6 (Addr.add a7 ((Int.toNat pivot_4) * 1)) = some (Value.string s8)) ∧
  V.when (decide ((0 : Int) ≤ a_2 ∧ (a_2 : Int) < ((data_1l : Nat) : Int))) (V.ptr data_1 fun a9 =>
  ∃ s10, (∀ w6, S5 w6 → World.cell? w6 (Addr.add a9 ((Int.toNat a_2) * 1)) = some (Value.string s10)) ∧
  V.when (decide ((0 : Int) ≤ a_2 ∧ (a_2 : Int) < ((data_1l : Nat) : Int))) (V.ptr data_1 fun a11 =>
  ∃ w12, Sem.run Try.prog (Instr.storeAt 9 (Value.pointer (some (Addr.add a11 ((Int.toNat a_2) * 1)))) (Value.string s8)) (World.drew w) = .ok () w12 ∧
  S5 w12 ∧
  V.when (decide ((0 : Int) ≤ pivot_4 ∧ (pivot_4 : Int) < ((data_1l : Nat) : Int))) (V.ptr data_1 fun a13 =>
  ∃ w14, Sem.run Try.prog (Instr.storeAt 9 (Value.pointer (some (Addr.add a13 ((Int.toNat pivot_4) * 1)))) (Value.string s10)) w12 = .ok () w14 ∧
  ∃ I15 : Int → World → Prop, ∃ μ16 : Int → World → Nat, I15 (IntKind.wrap .i64 (a_2 + 1)) w14 ∧
  ∀ i_17 (j18 : Nat → Value) (w19 : World), I15 i_17 w19 →
  (∃ S20 : World → Prop, S20 (World.drew w19) ∧
  V.sel (decide (i_17 ≤ (IntKind.wrap .i64 (b_3 - 1))))
  (V.when (decide ((0 : Int) ≤ i_17 ∧ (i_17 : Int) < ((data_1l : Nat) : Int))) (V.ptr data_1 fun a22 =>
  ∃ s23, (∀ w21, S20 w21 → World.cell? w21 (Addr.add a22 ((Int.toNat i_17) * 1)) = some (Value.string s23)) ∧
  V.when (decide ((0 : Int) ≤ a_2 ∧ (a_2 : Int) < ((data_1l : Nat) : Int))) (V.ptr data_1 fun a24 =>
  ∃ s25, (∀ w21, S20 w21 → World.cell? w21 (Addr.add a24 ((Int.toNat a_2) * 1)) = some (Value.string s25)) ∧
  Calls Try.prog 53 #[(Value.string s23), (Value.string s25)] (World.drew w19) fun e27 w28 =>
  ∃ b26, e27 = Ending.returned (Value.bool b26) ∧
  S20 w28 ∧
  V.sel b26
  (I15 (IntKind.wrap .i64 (i_17 + 1)) w28 ∧ μ16 (IntKind.wrap .i64 (i_17 + 1)) w28 < μ16 i_17 w19)
  (∃ I29 : Int → World → Prop, ∃ μ30 : Int → World → Nat, I29 (IntKind.wrap .i64 (b_3 - 1)) w28 ∧
  ∀ j_31 (j32 : Nat → Value) (w33 : World), I29 j_31 w33 →
  (∃ S34 : World → Prop, S34 (World.drew w33) ∧
  V.sel (decide (i_17 ≤ j_31))
  (V.when (decide ((0 : Int) ≤ j_31 ∧ (j_31 : Int) < ((data_1l : Nat) : Int))) (V.ptr data_1 fun a36 =>
  ∃ s37, (∀ w35, S34 w35 → World.cell? w35 (Addr.add a36 ((Int.toNat j_31) * 1)) = some (Value.string s37)) ∧
  V.when (decide ((0 : Int) ≤ a_2 ∧ (a_2 : Int) < ((data_1l : Nat) : Int))) (V.ptr data_1 fun a38 =>
  ∃ s39, (∀ w35, S34 w35 → World.cell? w35 (Addr.add a38 ((Int.toNat a_2) * 1)) = some (Value.string s39)) ∧
  Calls Try.prog 53 #[(Value.string s37), (Value.string s39)] (World.drew w33) fun e41 w42 =>
  ∃ b40, e41 = Ending.returned (Value.bool b40) ∧
  S34 w42 ∧
  V.sel (!b40)
  (I29 (IntKind.wrap .i64 (j_31 - 1)) w42 ∧ μ30 (IntKind.wrap .i64 (j_31 - 1)) w42 < μ30 j_31 w33)
  (V.sel (decide (i_17 > j_31))
  (∃ S43 : World → Prop, S43 (World.drew w42) ∧
  V.when (decide ((0 : Int) ≤ a_2 ∧ (a_2 : Int) < ((data_1l : Nat) : Int))) (V.ptr data_1 fun a45 =>
  ∃ s46, (∀ w44, S43 w44 → World.cell? w44 (Addr.add a45 ((Int.toNat a_2) * 1)) = some (Value.string s46)) ∧
  V.when (decide ((0 : Int) ≤ j_31 ∧ (j_31 : Int) < ((data_1l : Nat) : Int))) (V.ptr data_1 fun a47 =>
  ∃ s48, (∀ w44, S43 w44 → World.cell? w44 (Addr.add a47 ((Int.toNat j_31) * 1)) = some (Value.string s48)) ∧
  V.when (decide ((0 : Int) ≤ j_31 ∧ (j_31 : Int) < ((data_1l : Nat) : Int))) (V.ptr data_1 fun a49 =>
  ∃ w50, Sem.run Try.prog (Instr.storeAt 9 (Value.pointer (some (Addr.add a49 ((Int.toNat j_31) * 1)))) (Value.string s46)) (World.drew w42) = .ok () w50 ∧
  S43 w50 ∧
  V.when (decide ((0 : Int) ≤ a_2 ∧ (a_2 : Int) < ((data_1l : Nat) : Int))) (V.ptr data_1 fun a51 =>
  ∃ w52, Sem.run Try.prog (Instr.storeAt 9 (Value.pointer (some (Addr.add a51 ((Int.toNat a_2) * 1)))) (Value.string s48)) w50 = .ok () w52 ∧
  R (Ending.returned (Value.tuple #[(Value.int .i64 j_31), (Value.bool true)])) w52)))))
  (∃ S53 : World → Prop, S53 (World.drew w42) ∧
  V.when (decide ((0 : Int) ≤ j_31 ∧ (j_31 : Int) < ((data_1l : Nat) : Int))) (V.ptr data_1 fun a55 =>
  ∃ s56, (∀ w54, S53 w54 → World.cell? w54 (Addr.add a55 ((Int.toNat j_31) * 1)) = some (Value.string s56)) ∧
  V.when (decide ((0 : Int) ≤ i_17 ∧ (i_17 : Int) < ((data_1l : Nat) : Int))) (V.ptr data_1 fun a57 =>
  ∃ s58, (∀ w54, S53 w54 → World.cell? w54 (Addr.add a57 ((Int.toNat i_17) * 1)) = some (Value.string s58)) ∧
  V.when (decide ((0 : Int) ≤ i_17 ∧ (i_17 : Int) < ((data_1l : Nat) : Int))) (V.ptr data_1 fun a59 =>
  ∃ w60, Sem.run Try.prog (Instr.storeAt 9 (Value.pointer (some (Addr.add a59 ((Int.toNat i_17) * 1)))) (Value.string s56)) (World.drew w42) = .ok () w60 ∧
  S53 w60 ∧
  V.when (decide ((0 : Int) ≤ j_31 ∧ (j_31 : Int) < ((data_1l : Nat) : Int))) (V.ptr data_1 fun a61 =>
  ∃ w62, Sem.run Try.prog (Instr.storeAt 9 (Value.pointer (some (Addr.add a61 ((Int.toNat j_31) * 1)))) (Value.string s58)) w60 = .ok () w62 ∧
  ∃ I63 : Int → Int → World → Prop, ∃ μ64 : Int → Int → World → Nat, I63 (IntKind.wrap .i64 (i_17 + 1)) (IntKind.wrap .i64 (j_31 - 1)) w62 ∧
  ∀ i_65 j_66 (j67 : Nat → Value) (w68 : World), I63 i_65 j_66 w68 →
  (∃ I69 : Int → World → Prop, ∃ μ70 : Int → World → Nat, I69 i_65 w68 ∧
  ∀ i_71 (j72 : Nat → Value) (w73 : World), I69 i_71 w73 →
  (∃ S74 : World → Prop, S74 (World.drew w73) ∧
  V.sel (decide (i_71 ≤ j_66))
  (V.when (decide ((0 : Int) ≤ i_71 ∧ (i_71 : Int) < ((data_1l : Nat) : Int))) (V.ptr data_1 fun a76 =>
  ∃ s77, (∀ w75, S74 w75 → World.cell? w75 (Addr.add a76 ((Int.toNat i_71) * 1)) = some (Value.string s77)) ∧
  V.when (decide ((0 : Int) ≤ a_2 ∧ (a_2 : Int) < ((data_1l : Nat) : Int))) (V.ptr data_1 fun a78 =>
  ∃ s79, (∀ w75, S74 w75 → World.cell? w75 (Addr.add a78 ((Int.toNat a_2) * 1)) = some (Value.string s79)) ∧
  Calls Try.prog 53 #[(Value.string s77), (Value.string s79)] (World.drew w73) fun e81 w82 =>
  ∃ b80, e81 = Ending.returned (Value.bool b80) ∧
  S74 w82 ∧
  V.sel b80
  (I69 (IntKind.wrap .i64 (i_71 + 1)) w82 ∧ μ70 (IntKind.wrap .i64 (i_71 + 1)) w82 < μ70 i_71 w73)
  (∃ I83 : Int → World → Prop, ∃ μ84 : Int → World → Nat, I83 j_66 w82 ∧
  ∀ j_85 (j86 : Nat → Value) (w87 : World), I83 j_85 w87 →
  (∃ S88 : World → Prop, S88 (World.drew w87) ∧
  V.sel (decide (i_71 ≤ j_85))
  (V.when (decide ((0 : Int) ≤ j_85 ∧ (j_85 : Int) < ((data_1l : Nat) : Int))) (V.ptr data_1 fun a90 =>
  ∃ s91, (∀ w89, S88 w89 → World.cell? w89 (Addr.add a90 ((Int.toNat j_85) * 1)) = some (Value.string s91)) ∧
  V.when (decide ((0 : Int) ≤ a_2 ∧ (a_2 : Int) < ((data_1l : Nat) : Int))) (V.ptr data_1 fun a92 =>
  ∃ s93, (∀ w89, S88 w89 → World.cell? w89 (Addr.add a92 ((Int.toNat a_2) * 1)) = some (Value.string s93)) ∧
  Calls Try.prog 53 #[(Value.string s91), (Value.string s93)] (World.drew w87) fun e95 w96 =>
  ∃ b94, e95 = Ending.returned (Value.bool b94) ∧
  S88 w96 ∧
  V.sel (!b94)
  (I83 (IntKind.wrap .i64 (j_85 - 1)) w96 ∧ μ84 (IntKind.wrap .i64 (j_85 - 1)) w96 < μ84 j_85 w87)
  (V.sel (decide (i_71 > j_85))
  (∃ S97 : World → Prop, S97 (World.drew w96) ∧
  V.when (decide ((0 : Int) ≤ a_2 ∧ (a_2 : Int) < ((data_1l : Nat) : Int))) (V.ptr data_1 fun a99 =>
  ∃ s100, (∀ w98, S97 w98 → World.cell? w98 (Addr.add a99 ((Int.toNat a_2) * 1)) = some (Value.string s100)) ∧
  V.when (decide ((0 : Int) ≤ j_85 ∧ (j_85 : Int) < ((data_1l : Nat) : Int))) (V.ptr data_1 fun a101 =>
  ∃ s102, (∀ w98, S97 w98 → World.cell? w98 (Addr.add a101 ((Int.toNat j_85) * 1)) = some (Value.string s102)) ∧
  V.when (decide ((0 : Int) ≤ j_85 ∧ (j_85 : Int) < ((data_1l : Nat) : Int))) (V.ptr data_1 fun a103 =>
  ∃ w104, Sem.run Try.prog (Instr.storeAt 9 (Value.pointer (some (Addr.add a103 ((Int.toNat j_85) * 1)))) (Value.string s100)) (World.drew w96) = .ok () w104 ∧
  S97 w104 ∧
  V.when (decide ((0 : Int) ≤ a_2 ∧ (a_2 : Int) < ((data_1l : Nat) : Int))) (V.ptr data_1 fun a105 =>
  ∃ w106, Sem.run Try.prog (Instr.storeAt 9 (Value.pointer (some (Addr.add a105 ((Int.toNat a_2) * 1)))) (Value.string s102)) w104 = .ok () w106 ∧
  R (Ending.returned (Value.tuple #[(Value.int .i64 j_85), (Value.bool false)])) w106)))))
  (∃ S107 : World → Prop, S107 (World.drew w96) ∧
  V.when (decide ((0 : Int) ≤ j_85 ∧ (j_85 : Int) < ((data_1l : Nat) : Int))) (V.ptr data_1 fun a109 =>
  ∃ s110, (∀ w108, S107 w108 → World.cell? w108 (Addr.add a109 ((Int.toNat j_85) * 1)) = some (Value.string s110)) ∧
  V.when (decide ((0 : Int) ≤ i_71 ∧ (i_71 : Int) < ((data_1l : Nat) : Int))) (V.ptr data_1 fun a111 =>
  ∃ s112, (∀ w108, S107 w108 → World.cell? w108 (Addr.add a111 ((Int.toNat i_71) * 1)) = some (Value.string s112)) ∧
  V.when (decide ((0 : Int) ≤ i_71 ∧ (i_71 : Int) < ((data_1l : Nat) : Int))) (V.ptr data_1 fun a113 =>
  ∃ w114, Sem.run Try.prog (Instr.storeAt 9 (Value.pointer (some (Addr.add a113 ((Int.toNat i_71) * 1)))) (Value.string s110)) (World.drew w96) = .ok () w114 ∧
  S107 w114 ∧
  V.when (decide ((0 : Int) ≤ j_85 ∧ (j_85 : Int) < ((data_1l : Nat) : Int))) (V.ptr data_1 fun a115 =>
  ∃ w116, Sem.run Try.prog (Instr.storeAt 9 (Value.pointer (some (Addr.add a115 ((Int.toNat j_85) * 1)))) (Value.string s112)) w114 = .ok () w116 ∧
  I63 (IntKind.wrap .i64 (i_71 + 1)) (IntKind.wrap .i64 (j_85 - 1)) w116 ∧ μ64 (IntKind.wrap .i64 (i_71 + 1)) (IntKind.wrap .i64 (j_85 - 1)) w116 < μ64 i_65 j_66 w68)))))))))
  (V.sel (decide (i_71 > j_85))
  (∃ S117 : World → Prop, S117 (World.drew (World.drew w87)) ∧
  V.when (decide ((0 : Int) ≤ a_2 ∧ (a_2 : Int) < ((data_1l : Nat) : Int))) (V.ptr data_1 fun a119 =>
  ∃ s120, (∀ w118, S117 w118 → World.cell? w118 (Addr.add a119 ((Int.toNat a_2) * 1)) = some (Value.string s120)) ∧
  V.when (decide ((0 : Int) ≤ j_85 ∧ (j_85 : Int) < ((data_1l : Nat) : Int))) (V.ptr data_1 fun a121 =>
  ∃ s122, (∀ w118, S117 w118 → World.cell? w118 (Addr.add a121 ((Int.toNat j_85) * 1)) = some (Value.string s122)) ∧
  V.when (decide ((0 : Int) ≤ j_85 ∧ (j_85 : Int) < ((data_1l : Nat) : Int))) (V.ptr data_1 fun a123 =>
  ∃ w124, Sem.run Try.prog (Instr.storeAt 9 (Value.pointer (some (Addr.add a123 ((Int.toNat j_85) * 1)))) (Value.string s120)) (World.drew (World.drew w87)) = .ok () w124 ∧
  S117 w124 ∧
  V.when (decide ((0 : Int) ≤ a_2 ∧ (a_2 : Int) < ((data_1l : Nat) : Int))) (V.ptr data_1 fun a125 =>
  ∃ w126, Sem.run Try.prog (Instr.storeAt 9 (Value.pointer (some (Addr.add a125 ((Int.toNat a_2) * 1)))) (Value.string s122)) w124 = .ok () w126 ∧
  R (Ending.returned (Value.tuple #[(Value.int .i64 j_85), (Value.bool false)])) w126)))))
  (∃ S127 : World → Prop, S127 (World.drew (World.drew w87)) ∧
  V.when (decide ((0 : Int) ≤ j_85 ∧ (j_85 : Int) < ((data_1l : Nat) : Int))) (V.ptr data_1 fun a129 =>
  ∃ s130, (∀ w128, S127 w128 → World.cell? w128 (Addr.add a129 ((Int.toNat j_85) * 1)) = some (Value.string s130)) ∧
  V.when (decide ((0 : Int) ≤ i_71 ∧ (i_71 : Int) < ((data_1l : Nat) : Int))) (V.ptr data_1 fun a131 =>
  ∃ s132, (∀ w128, S127 w128 → World.cell? w128 (Addr.add a131 ((Int.toNat i_71) * 1)) = some (Value.string s132)) ∧
  V.when (decide ((0 : Int) ≤ i_71 ∧ (i_71 : Int) < ((data_1l : Nat) : Int))) (V.ptr data_1 fun a133 =>
  ∃ w134, Sem.run Try.prog (Instr.storeAt 9 (Value.pointer (some (Addr.add a133 ((Int.toNat i_71) * 1)))) (Value.string s130)) (World.drew (World.drew w87)) = .ok () w134 ∧
  S127 w134 ∧
  V.when (decide ((0 : Int) ≤ j_85 ∧ (j_85 : Int) < ((data_1l : Nat) : Int))) (V.ptr data_1 fun a135 =>
  ∃ w136, Sem.run Try.prog (Instr.storeAt 9 (Value.pointer (some (Addr.add a135 ((Int.toNat j_85) * 1)))) (Value.string s132)) w134 = .ok () w136 ∧
  I63 (IntKind.wrap .i64 (i_71 + 1)) (IntKind.wrap .i64 (j_85 - 1)) w136 ∧ μ64 (IntKind.wrap .i64 (i_71 + 1)) (IntKind.wrap .i64 (j_85 - 1)) w136 < μ64 i_65 j_66 w68)))))))))))
  (∃ I137 : Int → World → Prop, ∃ μ138 : Int → World → Nat, I137 j_66 (World.drew w73) ∧
  ∀ j_139 (j140 : Nat → Value) (w141 : World), I137 j_139 w141 →
  (∃ S142 : World → Prop, S142 (World.drew w141) ∧
  V.sel (decide (i_71 ≤ j_139))
  (V.when (decide ((0 : Int) ≤ j_139 ∧ (j_139 : Int) < ((data_1l : Nat) : Int))) (V.ptr data_1 fun a144 =>
  ∃ s145, (∀ w143, S142 w143 → World.cell? w143 (Addr.add a144 ((Int.toNat j_139) * 1)) = some (Value.string s145)) ∧
  V.when (decide ((0 : Int) ≤ a_2 ∧ (a_2 : Int) < ((data_1l : Nat) : Int))) (V.ptr data_1 fun a146 =>
  ∃ s147, (∀ w143, S142 w143 → World.cell? w143 (Addr.add a146 ((Int.toNat a_2) * 1)) = some (Value.string s147)) ∧
  Calls Try.prog 53 #[(Value.string s145), (Value.string s147)] (World.drew w141) fun e149 w150 =>
  ∃ b148, e149 = Ending.returned (Value.bool b148) ∧
  S142 w150 ∧
  V.sel (!b148)
  (I137 (IntKind.wrap .i64 (j_139 - 1)) w150 ∧ μ138 (IntKind.wrap .i64 (j_139 - 1)) w150 < μ138 j_139 w141)
  (V.sel (decide (i_71 > j_139))
  (∃ S151 : World → Prop, S151 (World.drew w150) ∧
  V.when (decide ((0 : Int) ≤ a_2 ∧ (a_2 : Int) < ((data_1l : Nat) : Int))) (V.ptr data_1 fun a153 =>
  ∃ s154, (∀ w152, S151 w152 → World.cell? w152 (Addr.add a153 ((Int.toNat a_2) * 1)) = some (Value.string s154)) ∧
  V.when (decide ((0 : Int) ≤ j_139 ∧ (j_139 : Int) < ((data_1l : Nat) : Int))) (V.ptr data_1 fun a155 =>
  ∃ s156, (∀ w152, S151 w152 → World.cell? w152 (Addr.add a155 ((Int.toNat j_139) * 1)) = some (Value.string s156)) ∧
  V.when (decide ((0 : Int) ≤ j_139 ∧ (j_139 : Int) < ((data_1l : Nat) : Int))) (V.ptr data_1 fun a157 =>
  ∃ w158, Sem.run Try.prog (Instr.storeAt 9 (Value.pointer (some (Addr.add a157 ((Int.toNat j_139) * 1)))) (Value.string s154)) (World.drew w150) = .ok () w158 ∧
  S151 w158 ∧
  V.when (decide ((0 : Int) ≤ a_2 ∧ (a_2 : Int) < ((data_1l : Nat) : Int))) (V.ptr data_1 fun a159 =>
  ∃ w160, Sem.run Try.prog (Instr.storeAt 9 (Value.pointer (some (Addr.add a159 ((Int.toNat a_2) * 1)))) (Value.string s156)) w158 = .ok () w160 ∧
  R (Ending.returned (Value.tuple #[(Value.int .i64 j_139), (Value.bool false)])) w160)))))
  (∃ S161 : World → Prop, S161 (World.drew w150) ∧
  V.when (decide ((0 : Int) ≤ j_139 ∧ (j_139 : Int) < ((data_1l : Nat) : Int))) (V.ptr data_1 fun a163 =>
  ∃ s164, (∀ w162, S161 w162 → World.cell? w162 (Addr.add a163 ((Int.toNat j_139) * 1)) = some (Value.string s164)) ∧
  V.when (decide ((0 : Int) ≤ i_71 ∧ (i_71 : Int) < ((data_1l : Nat) : Int))) (V.ptr data_1 fun a165 =>
  ∃ s166, (∀ w162, S161 w162 → World.cell? w162 (Addr.add a165 ((Int.toNat i_71) * 1)) = some (Value.string s166)) ∧
  V.when (decide ((0 : Int) ≤ i_71 ∧ (i_71 : Int) < ((data_1l : Nat) : Int))) (V.ptr data_1 fun a167 =>
  ∃ w168, Sem.run Try.prog (Instr.storeAt 9 (Value.pointer (some (Addr.add a167 ((Int.toNat i_71) * 1)))) (Value.string s164)) (World.drew w150) = .ok () w168 ∧
  S161 w168 ∧
  V.when (decide ((0 : Int) ≤ j_139 ∧ (j_139 : Int) < ((data_1l : Nat) : Int))) (V.ptr data_1 fun a169 =>
  ∃ w170, Sem.run Try.prog (Instr.storeAt 9 (Value.pointer (some (Addr.add a169 ((Int.toNat j_139) * 1)))) (Value.string s166)) w168 = .ok () w170 ∧
  I63 (IntKind.wrap .i64 (i_71 + 1)) (IntKind.wrap .i64 (j_139 - 1)) w170 ∧ μ64 (IntKind.wrap .i64 (i_71 + 1)) (IntKind.wrap .i64 (j_139 - 1)) w170 < μ64 i_65 j_66 w68)))))))))
  (V.sel (decide (i_71 > j_139))
  (∃ S171 : World → Prop, S171 (World.drew (World.drew w141)) ∧
  V.when (decide ((0 : Int) ≤ a_2 ∧ (a_2 : Int) < ((data_1l : Nat) : Int))) (V.ptr data_1 fun a173 =>
  ∃ s174, (∀ w172, S171 w172 → World.cell? w172 (Addr.add a173 ((Int.toNat a_2) * 1)) = some (Value.string s174)) ∧
  V.when (decide ((0 : Int) ≤ j_139 ∧ (j_139 : Int) < ((data_1l : Nat) : Int))) (V.ptr data_1 fun a175 =>
  ∃ s176, (∀ w172, S171 w172 → World.cell? w172 (Addr.add a175 ((Int.toNat j_139) * 1)) = some (Value.string s176)) ∧
  V.when (decide ((0 : Int) ≤ j_139 ∧ (j_139 : Int) < ((data_1l : Nat) : Int))) (V.ptr data_1 fun a177 =>
  ∃ w178, Sem.run Try.prog (Instr.storeAt 9 (Value.pointer (some (Addr.add a177 ((Int.toNat j_139) * 1)))) (Value.string s174)) (World.drew (World.drew w141)) = .ok () w178 ∧
  S171 w178 ∧
  V.when (decide ((0 : Int) ≤ a_2 ∧ (a_2 : Int) < ((data_1l : Nat) : Int))) (V.ptr data_1 fun a179 =>
  ∃ w180, Sem.run Try.prog (Instr.storeAt 9 (Value.pointer (some (Addr.add a179 ((Int.toNat a_2) * 1)))) (Value.string s176)) w178 = .ok () w180 ∧
  R (Ending.returned (Value.tuple #[(Value.int .i64 j_139), (Value.bool false)])) w180)))))
  (∃ S181 : World → Prop, S181 (World.drew (World.drew w141)) ∧
  V.when (decide ((0 : Int) ≤ j_139 ∧ (j_139 : Int) < ((data_1l : Nat) : Int))) (V.ptr data_1 fun a183 =>
  ∃ s184, (∀ w182, S181 w182 → World.cell? w182 (Addr.add a183 ((Int.toNat j_139) * 1)) = some (Value.string s184)) ∧
  V.when (decide ((0 : Int) ≤ i_71 ∧ (i_71 : Int) < ((data_1l : Nat) : Int))) (V.ptr data_1 fun a185 =>
  ∃ s186, (∀ w182, S181 w182 → World.cell? w182 (Addr.add a185 ((Int.toNat i_71) * 1)) = some (Value.string s186)) ∧
  V.when (decide ((0 : Int) ≤ i_71 ∧ (i_71 : Int) < ((data_1l : Nat) : Int))) (V.ptr data_1 fun a187 =>
  ∃ w188, Sem.run Try.prog (Instr.storeAt 9 (Value.pointer (some (Addr.add a187 ((Int.toNat i_71) * 1)))) (Value.string s184)) (World.drew (World.drew w141)) = .ok () w188 ∧
  S181 w188 ∧
  V.when (decide ((0 : Int) ≤ j_139 ∧ (j_139 : Int) < ((data_1l : Nat) : Int))) (V.ptr data_1 fun a189 =>
  ∃ w190, Sem.run Try.prog (Instr.storeAt 9 (Value.pointer (some (Addr.add a189 ((Int.toNat j_139) * 1)))) (Value.string s186)) w188 = .ok () w190 ∧
  I63 (IntKind.wrap .i64 (i_71 + 1)) (IntKind.wrap .i64 (j_139 - 1)) w190 ∧ μ64 (IntKind.wrap .i64 (i_71 + 1)) (IntKind.wrap .i64 (j_139 - 1)) w190 < μ64 i_65 j_66 w68)))))))))))))))))))
  (V.sel (decide (i_17 > j_31))
  (∃ S191 : World → Prop, S191 (World.drew (World.drew w33)) ∧
  V.when (decide ((0 : Int) ≤ a_2 ∧ (a_2 : Int) < ((data_1l : Nat) : Int))) (V.ptr data_1 fun a193 =>
  ∃ s194, (∀ w192, S191 w192 → World.cell? w192 (Addr.add a193 ((Int.toNat a_2) * 1)) = some (Value.string s194)) ∧
  V.when (decide ((0 : Int) ≤ j_31 ∧ (j_31 : Int) < ((data_1l : Nat) : Int))) (V.ptr data_1 fun a195 =>
  ∃ s196, (∀ w192, S191 w192 → World.cell? w192 (Addr.add a195 ((Int.toNat j_31) * 1)) = some (Value.string s196)) ∧
  V.when (decide ((0 : Int) ≤ j_31 ∧ (j_31 : Int) < ((data_1l : Nat) : Int))) (V.ptr data_1 fun a197 =>
  ∃ w198, Sem.run Try.prog (Instr.storeAt 9 (Value.pointer (some (Addr.add a197 ((Int.toNat j_31) * 1)))) (Value.string s194)) (World.drew (World.drew w33)) = .ok () w198 ∧
  S191 w198 ∧
  V.when (decide ((0 : Int) ≤ a_2 ∧ (a_2 : Int) < ((data_1l : Nat) : Int))) (V.ptr data_1 fun a199 =>
  ∃ w200, Sem.run Try.prog (Instr.storeAt 9 (Value.pointer (some (Addr.add a199 ((Int.toNat a_2) * 1)))) (Value.string s196)) w198 = .ok () w200 ∧
  R (Ending.returned (Value.tuple #[(Value.int .i64 j_31), (Value.bool true)])) w200)))))
  (∃ S201 : World → Prop, S201 (World.drew (World.drew w33)) ∧
  V.when (decide ((0 : Int) ≤ j_31 ∧ (j_31 : Int) < ((data_1l : Nat) : Int))) (V.ptr data_1 fun a203 =>
  ∃ s204, (∀ w202, S201 w202 → World.cell? w202 (Addr.add a203 ((Int.toNat j_31) * 1)) = some (Value.string s204)) ∧
  V.when (decide ((0 : Int) ≤ i_17 ∧ (i_17 : Int) < ((data_1l : Nat) : Int))) (V.ptr data_1 fun a205 =>
  ∃ s206, (∀ w202, S201 w202 → World.cell? w202 (Addr.add a205 ((Int.toNat i_17) * 1)) = some (Value.string s206)) ∧
  V.when (decide ((0 : Int) ≤ i_17 ∧ (i_17 : Int) < ((data_1l : Nat) : Int))) (V.ptr data_1 fun a207 =>
  ∃ w208, Sem.run Try.prog (Instr.storeAt 9 (Value.pointer (some (Addr.add a207 ((Int.toNat i_17) * 1)))) (Value.string s204)) (World.drew (World.drew w33)) = .ok () w208 ∧
  S201 w208 ∧
  V.when (decide ((0 : Int) ≤ j_31 ∧ (j_31 : Int) < ((data_1l : Nat) : Int))) (V.ptr data_1 fun a209 =>
  ∃ w210, Sem.run Try.prog (Instr.storeAt 9 (Value.pointer (some (Addr.add a209 ((Int.toNat j_31) * 1)))) (Value.string s206)) w208 = .ok () w210 ∧
  ∃ I211 : Int → Int → World → Prop, ∃ μ212 : Int → Int → World → Nat, I211 (IntKind.wrap .i64 (i_17 + 1)) (IntKind.wrap .i64 (j_31 - 1)) w210 ∧
  ∀ i_213 j_214 (j215 : Nat → Value) (w216 : World), I211 i_213 j_214 w216 →
  (∃ I217 : Int → World → Prop, ∃ μ218 : Int → World → Nat, I217 i_213 w216 ∧
  ∀ i_219 (j220 : Nat → Value) (w221 : World), I217 i_219 w221 →
  (∃ S222 : World → Prop, S222 (World.drew w221) ∧
  V.sel (decide (i_219 ≤ j_214))
  (V.when (decide ((0 : Int) ≤ i_219 ∧ (i_219 : Int) < ((data_1l : Nat) : Int))) (V.ptr data_1 fun a224 =>
  ∃ s225, (∀ w223, S222 w223 → World.cell? w223 (Addr.add a224 ((Int.toNat i_219) * 1)) = some (Value.string s225)) ∧
  V.when (decide ((0 : Int) ≤ a_2 ∧ (a_2 : Int) < ((data_1l : Nat) : Int))) (V.ptr data_1 fun a226 =>
  ∃ s227, (∀ w223, S222 w223 → World.cell? w223 (Addr.add a226 ((Int.toNat a_2) * 1)) = some (Value.string s227)) ∧
  Calls Try.prog 53 #[(Value.string s225), (Value.string s227)] (World.drew w221) fun e229 w230 =>
  ∃ b228, e229 = Ending.returned (Value.bool b228) ∧
  S222 w230 ∧
  V.sel b228
  (I217 (IntKind.wrap .i64 (i_219 + 1)) w230 ∧ μ218 (IntKind.wrap .i64 (i_219 + 1)) w230 < μ218 i_219 w221)
  (∃ I231 : Int → World → Prop, ∃ μ232 : Int → World → Nat, I231 j_214 w230 ∧
  ∀ j_233 (j234 : Nat → Value) (w235 : World), I231 j_233 w235 →
  (∃ S236 : World → Prop, S236 (World.drew w235) ∧
  V.sel (decide (i_219 ≤ j_233))
  (V.when (decide ((0 : Int) ≤ j_233 ∧ (j_233 : Int) < ((data_1l : Nat) : Int))) (V.ptr data_1 fun a238 =>
  ∃ s239, (∀ w237, S236 w237 → World.cell? w237 (Addr.add a238 ((Int.toNat j_233) * 1)) = some (Value.string s239)) ∧
  V.when (decide ((0 : Int) ≤ a_2 ∧ (a_2 : Int) < ((data_1l : Nat) : Int))) (V.ptr data_1 fun a240 =>
  ∃ s241, (∀ w237, S236 w237 → World.cell? w237 (Addr.add a240 ((Int.toNat a_2) * 1)) = some (Value.string s241)) ∧
  Calls Try.prog 53 #[(Value.string s239), (Value.string s241)] (World.drew w235) fun e243 w244 =>
  ∃ b242, e243 = Ending.returned (Value.bool b242) ∧
  S236 w244 ∧
  V.sel (!b242)
  (I231 (IntKind.wrap .i64 (j_233 - 1)) w244 ∧ μ232 (IntKind.wrap .i64 (j_233 - 1)) w244 < μ232 j_233 w235)
  (V.sel (decide (i_219 > j_233))
  (∃ S245 : World → Prop, S245 (World.drew w244) ∧
  V.when (decide ((0 : Int) ≤ a_2 ∧ (a_2 : Int) < ((data_1l : Nat) : Int))) (V.ptr data_1 fun a247 =>
  ∃ s248, (∀ w246, S245 w246 → World.cell? w246 (Addr.add a247 ((Int.toNat a_2) * 1)) = some (Value.string s248)) ∧
  V.when (decide ((0 : Int) ≤ j_233 ∧ (j_233 : Int) < ((data_1l : Nat) : Int))) (V.ptr data_1 fun a249 =>
  ∃ s250, (∀ w246, S245 w246 → World.cell? w246 (Addr.add a249 ((Int.toNat j_233) * 1)) = some (Value.string s250)) ∧
  V.when (decide ((0 : Int) ≤ j_233 ∧ (j_233 : Int) < ((data_1l : Nat) : Int))) (V.ptr data_1 fun a251 =>
  ∃ w252, Sem.run Try.prog (Instr.storeAt 9 (Value.pointer (some (Addr.add a251 ((Int.toNat j_233) * 1)))) (Value.string s248)) (World.drew w244) = .ok () w252 ∧
  S245 w252 ∧
  V.when (decide ((0 : Int) ≤ a_2 ∧ (a_2 : Int) < ((data_1l : Nat) : Int))) (V.ptr data_1 fun a253 =>
  ∃ w254, Sem.run Try.prog (Instr.storeAt 9 (Value.pointer (some (Addr.add a253 ((Int.toNat a_2) * 1)))) (Value.string s250)) w252 = .ok () w254 ∧
  R (Ending.returned (Value.tuple #[(Value.int .i64 j_233), (Value.bool false)])) w254)))))
  (∃ S255 : World → Prop, S255 (World.drew w244) ∧
  V.when (decide ((0 : Int) ≤ j_233 ∧ (j_233 : Int) < ((data_1l : Nat) : Int))) (V.ptr data_1 fun a257 =>
  ∃ s258, (∀ w256, S255 w256 → World.cell? w256 (Addr.add a257 ((Int.toNat j_233) * 1)) = some (Value.string s258)) ∧
  V.when (decide ((0 : Int) ≤ i_219 ∧ (i_219 : Int) < ((data_1l : Nat) : Int))) (V.ptr data_1 fun a259 =>
  ∃ s260, (∀ w256, S255 w256 → World.cell? w256 (Addr.add a259 ((Int.toNat i_219) * 1)) = some (Value.string s260)) ∧
  V.when (decide ((0 : Int) ≤ i_219 ∧ (i_219 : Int) < ((data_1l : Nat) : Int))) (V.ptr data_1 fun a261 =>
  ∃ w262, Sem.run Try.prog (Instr.storeAt 9 (Value.pointer (some (Addr.add a261 ((Int.toNat i_219) * 1)))) (Value.string s258)) (World.drew w244) = .ok () w262 ∧
  S255 w262 ∧
  V.when (decide ((0 : Int) ≤ j_233 ∧ (j_233 : Int) < ((data_1l : Nat) : Int))) (V.ptr data_1 fun a263 =>
  ∃ w264, Sem.run Try.prog (Instr.storeAt 9 (Value.pointer (some (Addr.add a263 ((Int.toNat j_233) * 1)))) (Value.string s260)) w262 = .ok () w264 ∧
  I211 (IntKind.wrap .i64 (i_219 + 1)) (IntKind.wrap .i64 (j_233 - 1)) w264 ∧ μ212 (IntKind.wrap .i64 (i_219 + 1)) (IntKind.wrap .i64 (j_233 - 1)) w264 < μ212 i_213 j_214 w216)))))))))
  (V.sel (decide (i_219 > j_233))
  (∃ S265 : World → Prop, S265 (World.drew (World.drew w235)) ∧
  V.when (decide ((0 : Int) ≤ a_2 ∧ (a_2 : Int) < ((data_1l : Nat) : Int))) (V.ptr data_1 fun a267 =>
  ∃ s268, (∀ w266, S265 w266 → World.cell? w266 (Addr.add a267 ((Int.toNat a_2) * 1)) = some (Value.string s268)) ∧
  V.when (decide ((0 : Int) ≤ j_233 ∧ (j_233 : Int) < ((data_1l : Nat) : Int))) (V.ptr data_1 fun a269 =>
  ∃ s270, (∀ w266, S265 w266 → World.cell? w266 (Addr.add a269 ((Int.toNat j_233) * 1)) = some (Value.string s270)) ∧
  V.when (decide ((0 : Int) ≤ j_233 ∧ (j_233 : Int) < ((data_1l : Nat) : Int))) (V.ptr data_1 fun a271 =>
  ∃ w272, Sem.run Try.prog (Instr.storeAt 9 (Value.pointer (some (Addr.add a271 ((Int.toNat j_233) * 1)))) (Value.string s268)) (World.drew (World.drew w235)) = .ok () w272 ∧
  S265 w272 ∧
  V.when (decide ((0 : Int) ≤ a_2 ∧ (a_2 : Int) < ((data_1l : Nat) : Int))) (V.ptr data_1 fun a273 =>
  ∃ w274, Sem.run Try.prog (Instr.storeAt 9 (Value.pointer (some (Addr.add a273 ((Int.toNat a_2) * 1)))) (Value.string s270)) w272 = .ok () w274 ∧
  R (Ending.returned (Value.tuple #[(Value.int .i64 j_233), (Value.bool false)])) w274)))))
  (∃ S275 : World → Prop, S275 (World.drew (World.drew w235)) ∧
  V.when (decide ((0 : Int) ≤ j_233 ∧ (j_233 : Int) < ((data_1l : Nat) : Int))) (V.ptr data_1 fun a277 =>
  ∃ s278, (∀ w276, S275 w276 → World.cell? w276 (Addr.add a277 ((Int.toNat j_233) * 1)) = some (Value.string s278)) ∧
  V.when (decide ((0 : Int) ≤ i_219 ∧ (i_219 : Int) < ((data_1l : Nat) : Int))) (V.ptr data_1 fun a279 =>
  ∃ s280, (∀ w276, S275 w276 → World.cell? w276 (Addr.add a279 ((Int.toNat i_219) * 1)) = some (Value.string s280)) ∧
  V.when (decide ((0 : Int) ≤ i_219 ∧ (i_219 : Int) < ((data_1l : Nat) : Int))) (V.ptr data_1 fun a281 =>
  ∃ w282, Sem.run Try.prog (Instr.storeAt 9 (Value.pointer (some (Addr.add a281 ((Int.toNat i_219) * 1)))) (Value.string s278)) (World.drew (World.drew w235)) = .ok () w282 ∧
  S275 w282 ∧
  V.when (decide ((0 : Int) ≤ j_233 ∧ (j_233 : Int) < ((data_1l : Nat) : Int))) (V.ptr data_1 fun a283 =>
  ∃ w284, Sem.run Try.prog (Instr.storeAt 9 (Value.pointer (some (Addr.add a283 ((Int.toNat j_233) * 1)))) (Value.string s280)) w282 = .ok () w284 ∧
  I211 (IntKind.wrap .i64 (i_219 + 1)) (IntKind.wrap .i64 (j_233 - 1)) w284 ∧ μ212 (IntKind.wrap .i64 (i_219 + 1)) (IntKind.wrap .i64 (j_233 - 1)) w284 < μ212 i_213 j_214 w216)))))))))))
  (∃ I285 : Int → World → Prop, ∃ μ286 : Int → World → Nat, I285 j_214 (World.drew w221) ∧
  ∀ j_287 (j288 : Nat → Value) (w289 : World), I285 j_287 w289 →
  (∃ S290 : World → Prop, S290 (World.drew w289) ∧
  V.sel (decide (i_219 ≤ j_287))
  (V.when (decide ((0 : Int) ≤ j_287 ∧ (j_287 : Int) < ((data_1l : Nat) : Int))) (V.ptr data_1 fun a292 =>
  ∃ s293, (∀ w291, S290 w291 → World.cell? w291 (Addr.add a292 ((Int.toNat j_287) * 1)) = some (Value.string s293)) ∧
  V.when (decide ((0 : Int) ≤ a_2 ∧ (a_2 : Int) < ((data_1l : Nat) : Int))) (V.ptr data_1 fun a294 =>
  ∃ s295, (∀ w291, S290 w291 → World.cell? w291 (Addr.add a294 ((Int.toNat a_2) * 1)) = some (Value.string s295)) ∧
  Calls Try.prog 53 #[(Value.string s293), (Value.string s295)] (World.drew w289) fun e297 w298 =>
  ∃ b296, e297 = Ending.returned (Value.bool b296) ∧
  S290 w298 ∧
  V.sel (!b296)
  (I285 (IntKind.wrap .i64 (j_287 - 1)) w298 ∧ μ286 (IntKind.wrap .i64 (j_287 - 1)) w298 < μ286 j_287 w289)
  (V.sel (decide (i_219 > j_287))
  (∃ S299 : World → Prop, S299 (World.drew w298) ∧
  V.when (decide ((0 : Int) ≤ a_2 ∧ (a_2 : Int) < ((data_1l : Nat) : Int))) (V.ptr data_1 fun a301 =>
  ∃ s302, (∀ w300, S299 w300 → World.cell? w300 (Addr.add a301 ((Int.toNat a_2) * 1)) = some (Value.string s302)) ∧
  V.when (decide ((0 : Int) ≤ j_287 ∧ (j_287 : Int) < ((data_1l : Nat) : Int))) (V.ptr data_1 fun a303 =>
  ∃ s304, (∀ w300, S299 w300 → World.cell? w300 (Addr.add a303 ((Int.toNat j_287) * 1)) = some (Value.string s304)) ∧
  V.when (decide ((0 : Int) ≤ j_287 ∧ (j_287 : Int) < ((data_1l : Nat) : Int))) (V.ptr data_1 fun a305 =>
  ∃ w306, Sem.run Try.prog (Instr.storeAt 9 (Value.pointer (some (Addr.add a305 ((Int.toNat j_287) * 1)))) (Value.string s302)) (World.drew w298) = .ok () w306 ∧
  S299 w306 ∧
  V.when (decide ((0 : Int) ≤ a_2 ∧ (a_2 : Int) < ((data_1l : Nat) : Int))) (V.ptr data_1 fun a307 =>
  ∃ w308, Sem.run Try.prog (Instr.storeAt 9 (Value.pointer (some (Addr.add a307 ((Int.toNat a_2) * 1)))) (Value.string s304)) w306 = .ok () w308 ∧
  R (Ending.returned (Value.tuple #[(Value.int .i64 j_287), (Value.bool false)])) w308)))))
  (∃ S309 : World → Prop, S309 (World.drew w298) ∧
  V.when (decide ((0 : Int) ≤ j_287 ∧ (j_287 : Int) < ((data_1l : Nat) : Int))) (V.ptr data_1 fun a311 =>
  ∃ s312, (∀ w310, S309 w310 → World.cell? w310 (Addr.add a311 ((Int.toNat j_287) * 1)) = some (Value.string s312)) ∧
  V.when (decide ((0 : Int) ≤ i_219 ∧ (i_219 : Int) < ((data_1l : Nat) : Int))) (V.ptr data_1 fun a313 =>
  ∃ s314, (∀ w310, S309 w310 → World.cell? w310 (Addr.add a313 ((Int.toNat i_219) * 1)) = some (Value.string s314)) ∧
  V.when (decide ((0 : Int) ≤ i_219 ∧ (i_219 : Int) < ((data_1l : Nat) : Int))) (V.ptr data_1 fun a315 =>
  ∃ w316, Sem.run Try.prog (Instr.storeAt 9 (Value.pointer (some (Addr.add a315 ((Int.toNat i_219) * 1)))) (Value.string s312)) (World.drew w298) = .ok () w316 ∧
  S309 w316 ∧
  V.when (decide ((0 : Int) ≤ j_287 ∧ (j_287 : Int) < ((data_1l : Nat) : Int))) (V.ptr data_1 fun a317 =>
  ∃ w318, Sem.run Try.prog (Instr.storeAt 9 (Value.pointer (some (Addr.add a317 ((Int.toNat j_287) * 1)))) (Value.string s314)) w316 = .ok () w318 ∧
  I211 (IntKind.wrap .i64 (i_219 + 1)) (IntKind.wrap .i64 (j_287 - 1)) w318 ∧ μ212 (IntKind.wrap .i64 (i_219 + 1)) (IntKind.wrap .i64 (j_287 - 1)) w318 < μ212 i_213 j_214 w216)))))))))
  (V.sel (decide (i_219 > j_287))
  (∃ S319 : World → Prop, S319 (World.drew (World.drew w289)) ∧
  V.when (decide ((0 : Int) ≤ a_2 ∧ (a_2 : Int) < ((data_1l : Nat) : Int))) (V.ptr data_1 fun a321 =>
  ∃ s322, (∀ w320, S319 w320 → World.cell? w320 (Addr.add a321 ((Int.toNat a_2) * 1)) = some (Value.string s322)) ∧
  V.when (decide ((0 : Int) ≤ j_287 ∧ (j_287 : Int) < ((data_1l : Nat) : Int))) (V.ptr data_1 fun a323 =>
  ∃ s324, (∀ w320, S319 w320 → World.cell? w320 (Addr.add a323 ((Int.toNat j_287) * 1)) = some (Value.string s324)) ∧
  V.when (decide ((0 : Int) ≤ j_287 ∧ (j_287 : Int) < ((data_1l : Nat) : Int))) (V.ptr data_1 fun a325 =>
  ∃ w326, Sem.run Try.prog (Instr.storeAt 9 (Value.pointer (some (Addr.add a325 ((Int.toNat j_287) * 1)))) (Value.string s322)) (World.drew (World.drew w289)) = .ok () w326 ∧
  S319 w326 ∧
  V.when (decide ((0 : Int) ≤ a_2 ∧ (a_2 : Int) < ((data_1l : Nat) : Int))) (V.ptr data_1 fun a327 =>
  ∃ w328, Sem.run Try.prog (Instr.storeAt 9 (Value.pointer (some (Addr.add a327 ((Int.toNat a_2) * 1)))) (Value.string s324)) w326 = .ok () w328 ∧
  R (Ending.returned (Value.tuple #[(Value.int .i64 j_287), (Value.bool false)])) w328)))))
  (∃ S329 : World → Prop, S329 (World.drew (World.drew w289)) ∧
  V.when (decide ((0 : Int) ≤ j_287 ∧ (j_287 : Int) < ((data_1l : Nat) : Int))) (V.ptr data_1 fun a331 =>
  ∃ s332, (∀ w330, S329 w330 → World.cell? w330 (Addr.add a331 ((Int.toNat j_287) * 1)) = some (Value.string s332)) ∧
  V.when (decide ((0 : Int) ≤ i_219 ∧ (i_219 : Int) < ((data_1l : Nat) : Int))) (V.ptr data_1 fun a333 =>
  ∃ s334, (∀ w330, S329 w330 → World.cell? w330 (Addr.add a333 ((Int.toNat i_219) * 1)) = some (Value.string s334)) ∧
  V.when (decide ((0 : Int) ≤ i_219 ∧ (i_219 : Int) < ((data_1l : Nat) : Int))) (V.ptr data_1 fun a335 =>
  ∃ w336, Sem.run Try.prog (Instr.storeAt 9 (Value.pointer (some (Addr.add a335 ((Int.toNat i_219) * 1)))) (Value.string s332)) (World.drew (World.drew w289)) = .ok () w336 ∧
  S329 w336 ∧
  V.when (decide ((0 : Int) ≤ j_287 ∧ (j_287 : Int) < ((data_1l : Nat) : Int))) (V.ptr data_1 fun a337 =>
  ∃ w338, Sem.run Try.prog (Instr.storeAt 9 (Value.pointer (some (Addr.add a337 ((Int.toNat j_287) * 1)))) (Value.string s334)) w336 = .ok () w338 ∧
  I211 (IntKind.wrap .i64 (i_219 + 1)) (IntKind.wrap .i64 (j_287 - 1)) w338 ∧ μ212 (IntKind.wrap .i64 (i_219 + 1)) (IntKind.wrap .i64 (j_287 - 1)) w338 < μ212 i_213 j_214 w216)))))))))))))))))))))
  (∃ I339 : Int → World → Prop, ∃ μ340 : Int → World → Nat, I339 (IntKind.wrap .i64 (b_3 - 1)) (World.drew w19) ∧
  ∀ j_341 (j342 : Nat → Value) (w343 : World), I339 j_341 w343 →
  (∃ S344 : World → Prop, S344 (World.drew w343) ∧
  V.sel (decide (i_17 ≤ j_341))
  (V.when (decide ((0 : Int) ≤ j_341 ∧ (j_341 : Int) < ((data_1l : Nat) : Int))) (V.ptr data_1 fun a346 =>
  ∃ s347, (∀ w345, S344 w345 → World.cell? w345 (Addr.add a346 ((Int.toNat j_341) * 1)) = some (Value.string s347)) ∧
  V.when (decide ((0 : Int) ≤ a_2 ∧ (a_2 : Int) < ((data_1l : Nat) : Int))) (V.ptr data_1 fun a348 =>
  ∃ s349, (∀ w345, S344 w345 → World.cell? w345 (Addr.add a348 ((Int.toNat a_2) * 1)) = some (Value.string s349)) ∧
  Calls Try.prog 53 #[(Value.string s347), (Value.string s349)] (World.drew w343) fun e351 w352 =>
  ∃ b350, e351 = Ending.returned (Value.bool b350) ∧
  S344 w352 ∧
  V.sel (!b350)
  (I339 (IntKind.wrap .i64 (j_341 - 1)) w352 ∧ μ340 (IntKind.wrap .i64 (j_341 - 1)) w352 < μ340 j_341 w343)
  (V.sel (decide (i_17 > j_341))
  (∃ S353 : World → Prop, S353 (World.drew w352) ∧
  V.when (decide ((0 : Int) ≤ a_2 ∧ (a_2 : Int) < ((data_1l : Nat) : Int))) (V.ptr data_1 fun a355 =>
  ∃ s356, (∀ w354, S353 w354 → World.cell? w354 (Addr.add a355 ((Int.toNat a_2) * 1)) = some (Value.string s356)) ∧
  V.when (decide ((0 : Int) ≤ j_341 ∧ (j_341 : Int) < ((data_1l : Nat) : Int))) (V.ptr data_1 fun a357 =>
  ∃ s358, (∀ w354, S353 w354 → World.cell? w354 (Addr.add a357 ((Int.toNat j_341) * 1)) = some (Value.string s358)) ∧
  V.when (decide ((0 : Int) ≤ j_341 ∧ (j_341 : Int) < ((data_1l : Nat) : Int))) (V.ptr data_1 fun a359 =>
  ∃ w360, Sem.run Try.prog (Instr.storeAt 9 (Value.pointer (some (Addr.add a359 ((Int.toNat j_341) * 1)))) (Value.string s356)) (World.drew w352) = .ok () w360 ∧
  S353 w360 ∧
  V.when (decide ((0 : Int) ≤ a_2 ∧ (a_2 : Int) < ((data_1l : Nat) : Int))) (V.ptr data_1 fun a361 =>
  ∃ w362, Sem.run Try.prog (Instr.storeAt 9 (Value.pointer (some (Addr.add a361 ((Int.toNat a_2) * 1)))) (Value.string s358)) w360 = .ok () w362 ∧
  R (Ending.returned (Value.tuple #[(Value.int .i64 j_341), (Value.bool true)])) w362)))))
  (∃ S363 : World → Prop, S363 (World.drew w352) ∧
  V.when (decide ((0 : Int) ≤ j_341 ∧ (j_341 : Int) < ((data_1l : Nat) : Int))) (V.ptr data_1 fun a365 =>
  ∃ s366, (∀ w364, S363 w364 → World.cell? w364 (Addr.add a365 ((Int.toNat j_341) * 1)) = some (Value.string s366)) ∧
  V.when (decide ((0 : Int) ≤ i_17 ∧ (i_17 : Int) < ((data_1l : Nat) : Int))) (V.ptr data_1 fun a367 =>
  ∃ s368, (∀ w364, S363 w364 → World.cell? w364 (Addr.add a367 ((Int.toNat i_17) * 1)) = some (Value.string s368)) ∧
  V.when (decide ((0 : Int) ≤ i_17 ∧ (i_17 : Int) < ((data_1l : Nat) : Int))) (V.ptr data_1 fun a369 =>
  ∃ w370, Sem.run Try.prog (Instr.storeAt 9 (Value.pointer (some (Addr.add a369 ((Int.toNat i_17) * 1)))) (Value.string s366)) (World.drew w352) = .ok () w370 ∧
  S363 w370 ∧
  V.when (decide ((0 : Int) ≤ j_341 ∧ (j_341 : Int) < ((data_1l : Nat) : Int))) (V.ptr data_1 fun a371 =>
  ∃ w372, Sem.run Try.prog (Instr.storeAt 9 (Value.pointer (some (Addr.add a371 ((Int.toNat j_341) * 1)))) (Value.string s368)) w370 = .ok () w372 ∧
  ∃ I373 : Int → Int → World → Prop, ∃ μ374 : Int → Int → World → Nat, I373 (IntKind.wrap .i64 (i_17 + 1)) (IntKind.wrap .i64 (j_341 - 1)) w372 ∧
  ∀ i_375 j_376 (j377 : Nat → Value) (w378 : World), I373 i_375 j_376 w378 →
  (∃ I379 : Int → World → Prop, ∃ μ380 : Int → World → Nat, I379 i_375 w378 ∧
  ∀ i_381 (j382 : Nat → Value) (w383 : World), I379 i_381 w383 →
  (∃ S384 : World → Prop, S384 (World.drew w383) ∧
  V.sel (decide (i_381 ≤ j_376))
  (V.when (decide ((0 : Int) ≤ i_381 ∧ (i_381 : Int) < ((data_1l : Nat) : Int))) (V.ptr data_1 fun a386 =>
  ∃ s387, (∀ w385, S384 w385 → World.cell? w385 (Addr.add a386 ((Int.toNat i_381) * 1)) = some (Value.string s387)) ∧
  V.when (decide ((0 : Int) ≤ a_2 ∧ (a_2 : Int) < ((data_1l : Nat) : Int))) (V.ptr data_1 fun a388 =>
  ∃ s389, (∀ w385, S384 w385 → World.cell? w385 (Addr.add a388 ((Int.toNat a_2) * 1)) = some (Value.string s389)) ∧
  Calls Try.prog 53 #[(Value.string s387), (Value.string s389)] (World.drew w383) fun e391 w392 =>
  ∃ b390, e391 = Ending.returned (Value.bool b390) ∧
  S384 w392 ∧
  V.sel b390
  (I379 (IntKind.wrap .i64 (i_381 + 1)) w392 ∧ μ380 (IntKind.wrap .i64 (i_381 + 1)) w392 < μ380 i_381 w383)
  (∃ I393 : Int → World → Prop, ∃ μ394 : Int → World → Nat, I393 j_376 w392 ∧
  ∀ j_395 (j396 : Nat → Value) (w397 : World), I393 j_395 w397 →
  (∃ S398 : World → Prop, S398 (World.drew w397) ∧
  V.sel (decide (i_381 ≤ j_395))
  (V.when (decide ((0 : Int) ≤ j_395 ∧ (j_395 : Int) < ((data_1l : Nat) : Int))) (V.ptr data_1 fun a400 =>
  ∃ s401, (∀ w399, S398 w399 → World.cell? w399 (Addr.add a400 ((Int.toNat j_395) * 1)) = some (Value.string s401)) ∧
  V.when (decide ((0 : Int) ≤ a_2 ∧ (a_2 : Int) < ((data_1l : Nat) : Int))) (V.ptr data_1 fun a402 =>
  ∃ s403, (∀ w399, S398 w399 → World.cell? w399 (Addr.add a402 ((Int.toNat a_2) * 1)) = some (Value.string s403)) ∧
  Calls Try.prog 53 #[(Value.string s401), (Value.string s403)] (World.drew w397) fun e405 w406 =>
  ∃ b404, e405 = Ending.returned (Value.bool b404) ∧
  S398 w406 ∧
  V.sel (!b404)
  (I393 (IntKind.wrap .i64 (j_395 - 1)) w406 ∧ μ394 (IntKind.wrap .i64 (j_395 - 1)) w406 < μ394 j_395 w397)
  (V.sel (decide (i_381 > j_395))
  (∃ S407 : World → Prop, S407 (World.drew w406) ∧
  V.when (decide ((0 : Int) ≤ a_2 ∧ (a_2 : Int) < ((data_1l : Nat) : Int))) (V.ptr data_1 fun a409 =>
  ∃ s410, (∀ w408, S407 w408 → World.cell? w408 (Addr.add a409 ((Int.toNat a_2) * 1)) = some (Value.string s410)) ∧
  V.when (decide ((0 : Int) ≤ j_395 ∧ (j_395 : Int) < ((data_1l : Nat) : Int))) (V.ptr data_1 fun a411 =>
  ∃ s412, (∀ w408, S407 w408 → World.cell? w408 (Addr.add a411 ((Int.toNat j_395) * 1)) = some (Value.string s412)) ∧
  V.when (decide ((0 : Int) ≤ j_395 ∧ (j_395 : Int) < ((data_1l : Nat) : Int))) (V.ptr data_1 fun a413 =>
  ∃ w414, Sem.run Try.prog (Instr.storeAt 9 (Value.pointer (some (Addr.add a413 ((Int.toNat j_395) * 1)))) (Value.string s410)) (World.drew w406) = .ok () w414 ∧
  S407 w414 ∧
  V.when (decide ((0 : Int) ≤ a_2 ∧ (a_2 : Int) < ((data_1l : Nat) : Int))) (V.ptr data_1 fun a415 =>
  ∃ w416, Sem.run Try.prog (Instr.storeAt 9 (Value.pointer (some (Addr.add a415 ((Int.toNat a_2) * 1)))) (Value.string s412)) w414 = .ok () w416 ∧
  R (Ending.returned (Value.tuple #[(Value.int .i64 j_395), (Value.bool false)])) w416)))))
  (∃ S417 : World → Prop, S417 (World.drew w406) ∧
  V.when (decide ((0 : Int) ≤ j_395 ∧ (j_395 : Int) < ((data_1l : Nat) : Int))) (V.ptr data_1 fun a419 =>
  ∃ s420, (∀ w418, S417 w418 → World.cell? w418 (Addr.add a419 ((Int.toNat j_395) * 1)) = some (Value.string s420)) ∧
  V.when (decide ((0 : Int) ≤ i_381 ∧ (i_381 : Int) < ((data_1l : Nat) : Int))) (V.ptr data_1 fun a421 =>
  ∃ s422, (∀ w418, S417 w418 → World.cell? w418 (Addr.add a421 ((Int.toNat i_381) * 1)) = some (Value.string s422)) ∧
  V.when (decide ((0 : Int) ≤ i_381 ∧ (i_381 : Int) < ((data_1l : Nat) : Int))) (V.ptr data_1 fun a423 =>
  ∃ w424, Sem.run Try.prog (Instr.storeAt 9 (Value.pointer (some (Addr.add a423 ((Int.toNat i_381) * 1)))) (Value.string s420)) (World.drew w406) = .ok () w424 ∧
  S417 w424 ∧
  V.when (decide ((0 : Int) ≤ j_395 ∧ (j_395 : Int) < ((data_1l : Nat) : Int))) (V.ptr data_1 fun a425 =>
  ∃ w426, Sem.run Try.prog (Instr.storeAt 9 (Value.pointer (some (Addr.add a425 ((Int.toNat j_395) * 1)))) (Value.string s422)) w424 = .ok () w426 ∧
  I373 (IntKind.wrap .i64 (i_381 + 1)) (IntKind.wrap .i64 (j_395 - 1)) w426 ∧ μ374 (IntKind.wrap .i64 (i_381 + 1)) (IntKind.wrap .i64 (j_395 - 1)) w426 < μ374 i_375 j_376 w378)))))))))
  (V.sel (decide (i_381 > j_395))
  (∃ S427 : World → Prop, S427 (World.drew (World.drew w397)) ∧
  V.when (decide ((0 : Int) ≤ a_2 ∧ (a_2 : Int) < ((data_1l : Nat) : Int))) (V.ptr data_1 fun a429 =>
  ∃ s430, (∀ w428, S427 w428 → World.cell? w428 (Addr.add a429 ((Int.toNat a_2) * 1)) = some (Value.string s430)) ∧
  V.when (decide ((0 : Int) ≤ j_395 ∧ (j_395 : Int) < ((data_1l : Nat) : Int))) (V.ptr data_1 fun a431 =>
  ∃ s432, (∀ w428, S427 w428 → World.cell? w428 (Addr.add a431 ((Int.toNat j_395) * 1)) = some (Value.string s432)) ∧
  V.when (decide ((0 : Int) ≤ j_395 ∧ (j_395 : Int) < ((data_1l : Nat) : Int))) (V.ptr data_1 fun a433 =>
  ∃ w434, Sem.run Try.prog (Instr.storeAt 9 (Value.pointer (some (Addr.add a433 ((Int.toNat j_395) * 1)))) (Value.string s430)) (World.drew (World.drew w397)) = .ok () w434 ∧
  S427 w434 ∧
  V.when (decide ((0 : Int) ≤ a_2 ∧ (a_2 : Int) < ((data_1l : Nat) : Int))) (V.ptr data_1 fun a435 =>
  ∃ w436, Sem.run Try.prog (Instr.storeAt 9 (Value.pointer (some (Addr.add a435 ((Int.toNat a_2) * 1)))) (Value.string s432)) w434 = .ok () w436 ∧
  R (Ending.returned (Value.tuple #[(Value.int .i64 j_395), (Value.bool false)])) w436)))))
  (∃ S437 : World → Prop, S437 (World.drew (World.drew w397)) ∧
  V.when (decide ((0 : Int) ≤ j_395 ∧ (j_395 : Int) < ((data_1l : Nat) : Int))) (V.ptr data_1 fun a439 =>
  ∃ s440, (∀ w438, S437 w438 → World.cell? w438 (Addr.add a439 ((Int.toNat j_395) * 1)) = some (Value.string s440)) ∧
  V.when (decide ((0 : Int) ≤ i_381 ∧ (i_381 : Int) < ((data_1l : Nat) : Int))) (V.ptr data_1 fun a441 =>
  ∃ s442, (∀ w438, S437 w438 → World.cell? w438 (Addr.add a441 ((Int.toNat i_381) * 1)) = some (Value.string s442)) ∧
  V.when (decide ((0 : Int) ≤ i_381 ∧ (i_381 : Int) < ((data_1l : Nat) : Int))) (V.ptr data_1 fun a443 =>
  ∃ w444, Sem.run Try.prog (Instr.storeAt 9 (Value.pointer (some (Addr.add a443 ((Int.toNat i_381) * 1)))) (Value.string s440)) (World.drew (World.drew w397)) = .ok () w444 ∧
  S437 w444 ∧
  V.when (decide ((0 : Int) ≤ j_395 ∧ (j_395 : Int) < ((data_1l : Nat) : Int))) (V.ptr data_1 fun a445 =>
  ∃ w446, Sem.run Try.prog (Instr.storeAt 9 (Value.pointer (some (Addr.add a445 ((Int.toNat j_395) * 1)))) (Value.string s442)) w444 = .ok () w446 ∧
  I373 (IntKind.wrap .i64 (i_381 + 1)) (IntKind.wrap .i64 (j_395 - 1)) w446 ∧ μ374 (IntKind.wrap .i64 (i_381 + 1)) (IntKind.wrap .i64 (j_395 - 1)) w446 < μ374 i_375 j_376 w378)))))))))))
  (∃ I447 : Int → World → Prop, ∃ μ448 : Int → World → Nat, I447 j_376 (World.drew w383) ∧
  ∀ j_449 (j450 : Nat → Value) (w451 : World), I447 j_449 w451 →
  (∃ S452 : World → Prop, S452 (World.drew w451) ∧
  V.sel (decide (i_381 ≤ j_449))
  (V.when (decide ((0 : Int) ≤ j_449 ∧ (j_449 : Int) < ((data_1l : Nat) : Int))) (V.ptr data_1 fun a454 =>
  ∃ s455, (∀ w453, S452 w453 → World.cell? w453 (Addr.add a454 ((Int.toNat j_449) * 1)) = some (Value.string s455)) ∧
  V.when (decide ((0 : Int) ≤ a_2 ∧ (a_2 : Int) < ((data_1l : Nat) : Int))) (V.ptr data_1 fun a456 =>
  ∃ s457, (∀ w453, S452 w453 → World.cell? w453 (Addr.add a456 ((Int.toNat a_2) * 1)) = some (Value.string s457)) ∧
  Calls Try.prog 53 #[(Value.string s455), (Value.string s457)] (World.drew w451) fun e459 w460 =>
  ∃ b458, e459 = Ending.returned (Value.bool b458) ∧
  S452 w460 ∧
  V.sel (!b458)
  (I447 (IntKind.wrap .i64 (j_449 - 1)) w460 ∧ μ448 (IntKind.wrap .i64 (j_449 - 1)) w460 < μ448 j_449 w451)
  (V.sel (decide (i_381 > j_449))
  (∃ S461 : World → Prop, S461 (World.drew w460) ∧
  V.when (decide ((0 : Int) ≤ a_2 ∧ (a_2 : Int) < ((data_1l : Nat) : Int))) (V.ptr data_1 fun a463 =>
  ∃ s464, (∀ w462, S461 w462 → World.cell? w462 (Addr.add a463 ((Int.toNat a_2) * 1)) = some (Value.string s464)) ∧
  V.when (decide ((0 : Int) ≤ j_449 ∧ (j_449 : Int) < ((data_1l : Nat) : Int))) (V.ptr data_1 fun a465 =>
  ∃ s466, (∀ w462, S461 w462 → World.cell? w462 (Addr.add a465 ((Int.toNat j_449) * 1)) = some (Value.string s466)) ∧
  V.when (decide ((0 : Int) ≤ j_449 ∧ (j_449 : Int) < ((data_1l : Nat) : Int))) (V.ptr data_1 fun a467 =>
  ∃ w468, Sem.run Try.prog (Instr.storeAt 9 (Value.pointer (some (Addr.add a467 ((Int.toNat j_449) * 1)))) (Value.string s464)) (World.drew w460) = .ok () w468 ∧
  S461 w468 ∧
  V.when (decide ((0 : Int) ≤ a_2 ∧ (a_2 : Int) < ((data_1l : Nat) : Int))) (V.ptr data_1 fun a469 =>
  ∃ w470, Sem.run Try.prog (Instr.storeAt 9 (Value.pointer (some (Addr.add a469 ((Int.toNat a_2) * 1)))) (Value.string s466)) w468 = .ok () w470 ∧
  R (Ending.returned (Value.tuple #[(Value.int .i64 j_449), (Value.bool false)])) w470)))))
  (∃ S471 : World → Prop, S471 (World.drew w460) ∧
  V.when (decide ((0 : Int) ≤ j_449 ∧ (j_449 : Int) < ((data_1l : Nat) : Int))) (V.ptr data_1 fun a473 =>
  ∃ s474, (∀ w472, S471 w472 → World.cell? w472 (Addr.add a473 ((Int.toNat j_449) * 1)) = some (Value.string s474)) ∧
  V.when (decide ((0 : Int) ≤ i_381 ∧ (i_381 : Int) < ((data_1l : Nat) : Int))) (V.ptr data_1 fun a475 =>
  ∃ s476, (∀ w472, S471 w472 → World.cell? w472 (Addr.add a475 ((Int.toNat i_381) * 1)) = some (Value.string s476)) ∧
  V.when (decide ((0 : Int) ≤ i_381 ∧ (i_381 : Int) < ((data_1l : Nat) : Int))) (V.ptr data_1 fun a477 =>
  ∃ w478, Sem.run Try.prog (Instr.storeAt 9 (Value.pointer (some (Addr.add a477 ((Int.toNat i_381) * 1)))) (Value.string s474)) (World.drew w460) = .ok () w478 ∧
  S471 w478 ∧
  V.when (decide ((0 : Int) ≤ j_449 ∧ (j_449 : Int) < ((data_1l : Nat) : Int))) (V.ptr data_1 fun a479 =>
  ∃ w480, Sem.run Try.prog (Instr.storeAt 9 (Value.pointer (some (Addr.add a479 ((Int.toNat j_449) * 1)))) (Value.string s476)) w478 = .ok () w480 ∧
  I373 (IntKind.wrap .i64 (i_381 + 1)) (IntKind.wrap .i64 (j_449 - 1)) w480 ∧ μ374 (IntKind.wrap .i64 (i_381 + 1)) (IntKind.wrap .i64 (j_449 - 1)) w480 < μ374 i_375 j_376 w378)))))))))
  (V.sel (decide (i_381 > j_449))
  (∃ S481 : World → Prop, S481 (World.drew (World.drew w451)) ∧
  V.when (decide ((0 : Int) ≤ a_2 ∧ (a_2 : Int) < ((data_1l : Nat) : Int))) (V.ptr data_1 fun a483 =>
  ∃ s484, (∀ w482, S481 w482 → World.cell? w482 (Addr.add a483 ((Int.toNat a_2) * 1)) = some (Value.string s484)) ∧
  V.when (decide ((0 : Int) ≤ j_449 ∧ (j_449 : Int) < ((data_1l : Nat) : Int))) (V.ptr data_1 fun a485 =>
  ∃ s486, (∀ w482, S481 w482 → World.cell? w482 (Addr.add a485 ((Int.toNat j_449) * 1)) = some (Value.string s486)) ∧
  V.when (decide ((0 : Int) ≤ j_449 ∧ (j_449 : Int) < ((data_1l : Nat) : Int))) (V.ptr data_1 fun a487 =>
  ∃ w488, Sem.run Try.prog (Instr.storeAt 9 (Value.pointer (some (Addr.add a487 ((Int.toNat j_449) * 1)))) (Value.string s484)) (World.drew (World.drew w451)) = .ok () w488 ∧
  S481 w488 ∧
  V.when (decide ((0 : Int) ≤ a_2 ∧ (a_2 : Int) < ((data_1l : Nat) : Int))) (V.ptr data_1 fun a489 =>
  ∃ w490, Sem.run Try.prog (Instr.storeAt 9 (Value.pointer (some (Addr.add a489 ((Int.toNat a_2) * 1)))) (Value.string s486)) w488 = .ok () w490 ∧
  R (Ending.returned (Value.tuple #[(Value.int .i64 j_449), (Value.bool false)])) w490)))))
  (∃ S491 : World → Prop, S491 (World.drew (World.drew w451)) ∧
  V.when (decide ((0 : Int) ≤ j_449 ∧ (j_449 : Int) < ((data_1l : Nat) : Int))) (V.ptr data_1 fun a493 =>
  ∃ s494, (∀ w492, S491 w492 → World.cell? w492 (Addr.add a493 ((Int.toNat j_449) * 1)) = some (Value.string s494)) ∧
  V.when (decide ((0 : Int) ≤ i_381 ∧ (i_381 : Int) < ((data_1l : Nat) : Int))) (V.ptr data_1 fun a495 =>
  ∃ s496, (∀ w492, S491 w492 → World.cell? w492 (Addr.add a495 ((Int.toNat i_381) * 1)) = some (Value.string s496)) ∧
  V.when (decide ((0 : Int) ≤ i_381 ∧ (i_381 : Int) < ((data_1l : Nat) : Int))) (V.ptr data_1 fun a497 =>
  ∃ w498, Sem.run Try.prog (Instr.storeAt 9 (Value.pointer (some (Addr.add a497 ((Int.toNat i_381) * 1)))) (Value.string s494)) (World.drew (World.drew w451)) = .ok () w498 ∧
  S491 w498 ∧
  V.when (decide ((0 : Int) ≤ j_449 ∧ (j_449 : Int) < ((data_1l : Nat) : Int))) (V.ptr data_1 fun a499 =>
  ∃ w500, Sem.run Try.prog (Instr.storeAt 9 (Value.pointer (some (Addr.add a499 ((Int.toNat j_449) * 1)))) (Value.string s496)) w498 = .ok () w500 ∧
  I373 (IntKind.wrap .i64 (i_381 + 1)) (IntKind.wrap .i64 (j_449 - 1)) w500 ∧ μ374 (IntKind.wrap .i64 (i_381 + 1)) (IntKind.wrap .i64 (j_449 - 1)) w500 < μ374 i_375 j_376 w378)))))))))))))))))))
  (V.sel (decide (i_17 > j_341))
  (∃ S501 : World → Prop, S501 (World.drew (World.drew w343)) ∧
  V.when (decide ((0 : Int) ≤ a_2 ∧ (a_2 : Int) < ((data_1l : Nat) : Int))) (V.ptr data_1 fun a503 =>
  ∃ s504, (∀ w502, S501 w502 → World.cell? w502 (Addr.add a503 ((Int.toNat a_2) * 1)) = some (Value.string s504)) ∧
  V.when (decide ((0 : Int) ≤ j_341 ∧ (j_341 : Int) < ((data_1l : Nat) : Int))) (V.ptr data_1 fun a505 =>
  ∃ s506, (∀ w502, S501 w502 → World.cell? w502 (Addr.add a505 ((Int.toNat j_341) * 1)) = some (Value.string s506)) ∧
  V.when (decide ((0 : Int) ≤ j_341 ∧ (j_341 : Int) < ((data_1l : Nat) : Int))) (V.ptr data_1 fun a507 =>
  ∃ w508, Sem.run Try.prog (Instr.storeAt 9 (Value.pointer (some (Addr.add a507 ((Int.toNat j_341) * 1)))) (Value.string s504)) (World.drew (World.drew w343)) = .ok () w508 ∧
  S501 w508 ∧
  V.when (decide ((0 : Int) ≤ a_2 ∧ (a_2 : Int) < ((data_1l : Nat) : Int))) (V.ptr data_1 fun a509 =>
  ∃ w510, Sem.run Try.prog (Instr.storeAt 9 (Value.pointer (some (Addr.add a509 ((Int.toNat a_2) * 1)))) (Value.string s506)) w508 = .ok () w510 ∧
  R (Ending.returned (Value.tuple #[(Value.int .i64 j_341), (Value.bool true)])) w510)))))
  (∃ S511 : World → Prop, S511 (World.drew (World.drew w343)) ∧
  V.when (decide ((0 : Int) ≤ j_341 ∧ (j_341 : Int) < ((data_1l : Nat) : Int))) (V.ptr data_1 fun a513 =>
  ∃ s514, (∀ w512, S511 w512 → World.cell? w512 (Addr.add a513 ((Int.toNat j_341) * 1)) = some (Value.string s514)) ∧
  V.when (decide ((0 : Int) ≤ i_17 ∧ (i_17 : Int) < ((data_1l : Nat) : Int))) (V.ptr data_1 fun a515 =>
  ∃ s516, (∀ w512, S511 w512 → World.cell? w512 (Addr.add a515 ((Int.toNat i_17) * 1)) = some (Value.string s516)) ∧
  V.when (decide ((0 : Int) ≤ i_17 ∧ (i_17 : Int) < ((data_1l : Nat) : Int))) (V.ptr data_1 fun a517 =>
  ∃ w518, Sem.run Try.prog (Instr.storeAt 9 (Value.pointer (some (Addr.add a517 ((Int.toNat i_17) * 1)))) (Value.string s514)) (World.drew (World.drew w343)) = .ok () w518 ∧
  S511 w518 ∧
  V.when (decide ((0 : Int) ≤ j_341 ∧ (j_341 : Int) < ((data_1l : Nat) : Int))) (V.ptr data_1 fun a519 =>
  ∃ w520, Sem.run Try.prog (Instr.storeAt 9 (Value.pointer (some (Addr.add a519 ((Int.toNat j_341) * 1)))) (Value.string s516)) w518 = .ok () w520 ∧
  ∃ I521 : Int → Int → World → Prop, ∃ μ522 : Int → Int → World → Nat, I521 (IntKind.wrap .i64 (i_17 + 1)) (IntKind.wrap .i64 (j_341 - 1)) w520 ∧
  ∀ i_523 j_524 (j525 : Nat → Value) (w526 : World), I521 i_523 j_524 w526 →
  (∃ I527 : Int → World → Prop, ∃ μ528 : Int → World → Nat, I527 i_523 w526 ∧
  ∀ i_529 (j530 : Nat → Value) (w531 : World), I527 i_529 w531 →
  (∃ S532 : World → Prop, S532 (World.drew w531) ∧
  V.sel (decide (i_529 ≤ j_524))
  (V.when (decide ((0 : Int) ≤ i_529 ∧ (i_529 : Int) < ((data_1l : Nat) : Int))) (V.ptr data_1 fun a534 =>
  ∃ s535, (∀ w533, S532 w533 → World.cell? w533 (Addr.add a534 ((Int.toNat i_529) * 1)) = some (Value.string s535)) ∧
  V.when (decide ((0 : Int) ≤ a_2 ∧ (a_2 : Int) < ((data_1l : Nat) : Int))) (V.ptr data_1 fun a536 =>
  ∃ s537, (∀ w533, S532 w533 → World.cell? w533 (Addr.add a536 ((Int.toNat a_2) * 1)) = some (Value.string s537)) ∧
  Calls Try.prog 53 #[(Value.string s535), (Value.string s537)] (World.drew w531) fun e539 w540 =>
  ∃ b538, e539 = Ending.returned (Value.bool b538) ∧
  S532 w540 ∧
  V.sel b538
  (I527 (IntKind.wrap .i64 (i_529 + 1)) w540 ∧ μ528 (IntKind.wrap .i64 (i_529 + 1)) w540 < μ528 i_529 w531)
  (∃ I541 : Int → World → Prop, ∃ μ542 : Int → World → Nat, I541 j_524 w540 ∧
  ∀ j_543 (j544 : Nat → Value) (w545 : World), I541 j_543 w545 →
  (∃ S546 : World → Prop, S546 (World.drew w545) ∧
  V.sel (decide (i_529 ≤ j_543))
  (V.when (decide ((0 : Int) ≤ j_543 ∧ (j_543 : Int) < ((data_1l : Nat) : Int))) (V.ptr data_1 fun a548 =>
  ∃ s549, (∀ w547, S546 w547 → World.cell? w547 (Addr.add a548 ((Int.toNat j_543) * 1)) = some (Value.string s549)) ∧
  V.when (decide ((0 : Int) ≤ a_2 ∧ (a_2 : Int) < ((data_1l : Nat) : Int))) (V.ptr data_1 fun a550 =>
  ∃ s551, (∀ w547, S546 w547 → World.cell? w547 (Addr.add a550 ((Int.toNat a_2) * 1)) = some (Value.string s551)) ∧
  Calls Try.prog 53 #[(Value.string s549), (Value.string s551)] (World.drew w545) fun e553 w554 =>
  ∃ b552, e553 = Ending.returned (Value.bool b552) ∧
  S546 w554 ∧
  V.sel (!b552)
  (I541 (IntKind.wrap .i64 (j_543 - 1)) w554 ∧ μ542 (IntKind.wrap .i64 (j_543 - 1)) w554 < μ542 j_543 w545)
  (V.sel (decide (i_529 > j_543))
  (∃ S555 : World → Prop, S555 (World.drew w554) ∧
  V.when (decide ((0 : Int) ≤ a_2 ∧ (a_2 : Int) < ((data_1l : Nat) : Int))) (V.ptr data_1 fun a557 =>
  ∃ s558, (∀ w556, S555 w556 → World.cell? w556 (Addr.add a557 ((Int.toNat a_2) * 1)) = some (Value.string s558)) ∧
  V.when (decide ((0 : Int) ≤ j_543 ∧ (j_543 : Int) < ((data_1l : Nat) : Int))) (V.ptr data_1 fun a559 =>
  ∃ s560, (∀ w556, S555 w556 → World.cell? w556 (Addr.add a559 ((Int.toNat j_543) * 1)) = some (Value.string s560)) ∧
  V.when (decide ((0 : Int) ≤ j_543 ∧ (j_543 : Int) < ((data_1l : Nat) : Int))) (V.ptr data_1 fun a561 =>
  ∃ w562, Sem.run Try.prog (Instr.storeAt 9 (Value.pointer (some (Addr.add a561 ((Int.toNat j_543) * 1)))) (Value.string s558)) (World.drew w554) = .ok () w562 ∧
  S555 w562 ∧
  V.when (decide ((0 : Int) ≤ a_2 ∧ (a_2 : Int) < ((data_1l : Nat) : Int))) (V.ptr data_1 fun a563 =>
  ∃ w564, Sem.run Try.prog (Instr.storeAt 9 (Value.pointer (some (Addr.add a563 ((Int.toNat a_2) * 1)))) (Value.string s560)) w562 = .ok () w564 ∧
  R (Ending.returned (Value.tuple #[(Value.int .i64 j_543), (Value.bool false)])) w564)))))
  (∃ S565 : World → Prop, S565 (World.drew w554) ∧
  V.when (decide ((0 : Int) ≤ j_543 ∧ (j_543 : Int) < ((data_1l : Nat) : Int))) (V.ptr data_1 fun a567 =>
  ∃ s568, (∀ w566, S565 w566 → World.cell? w566 (Addr.add a567 ((Int.toNat j_543) * 1)) = some (Value.string s568)) ∧
  V.when (decide ((0 : Int) ≤ i_529 ∧ (i_529 : Int) < ((data_1l : Nat) : Int))) (V.ptr data_1 fun a569 =>
  ∃ s570, (∀ w566, S565 w566 → World.cell? w566 (Addr.add a569 ((Int.toNat i_529) * 1)) = some (Value.string s570)) ∧
  V.when (decide ((0 : Int) ≤ i_529 ∧ (i_529 : Int) < ((data_1l : Nat) : Int))) (V.ptr data_1 fun a571 =>
  ∃ w572, Sem.run Try.prog (Instr.storeAt 9 (Value.pointer (some (Addr.add a571 ((Int.toNat i_529) * 1)))) (Value.string s568)) (World.drew w554) = .ok () w572 ∧
  S565 w572 ∧
  V.when (decide ((0 : Int) ≤ j_543 ∧ (j_543 : Int) < ((data_1l : Nat) : Int))) (V.ptr data_1 fun a573 =>
  ∃ w574, Sem.run Try.prog (Instr.storeAt 9 (Value.pointer (some (Addr.add a573 ((Int.toNat j_543) * 1)))) (Value.string s570)) w572 = .ok () w574 ∧
  I521 (IntKind.wrap .i64 (i_529 + 1)) (IntKind.wrap .i64 (j_543 - 1)) w574 ∧ μ522 (IntKind.wrap .i64 (i_529 + 1)) (IntKind.wrap .i64 (j_543 - 1)) w574 < μ522 i_523 j_524 w526)))))))))
  (V.sel (decide (i_529 > j_543))
  (∃ S575 : World → Prop, S575 (World.drew (World.drew w545)) ∧
  V.when (decide ((0 : Int) ≤ a_2 ∧ (a_2 : Int) < ((data_1l : Nat) : Int))) (V.ptr data_1 fun a577 =>
  ∃ s578, (∀ w576, S575 w576 → World.cell? w576 (Addr.add a577 ((Int.toNat a_2) * 1)) = some (Value.string s578)) ∧
  V.when (decide ((0 : Int) ≤ j_543 ∧ (j_543 : Int) < ((data_1l : Nat) : Int))) (V.ptr data_1 fun a579 =>
  ∃ s580, (∀ w576, S575 w576 → World.cell? w576 (Addr.add a579 ((Int.toNat j_543) * 1)) = some (Value.string s580)) ∧
  V.when (decide ((0 : Int) ≤ j_543 ∧ (j_543 : Int) < ((data_1l : Nat) : Int))) (V.ptr data_1 fun a581 =>
  ∃ w582, Sem.run Try.prog (Instr.storeAt 9 (Value.pointer (some (Addr.add a581 ((Int.toNat j_543) * 1)))) (Value.string s578)) (World.drew (World.drew w545)) = .ok () w582 ∧
  S575 w582 ∧
  V.when (decide ((0 : Int) ≤ a_2 ∧ (a_2 : Int) < ((data_1l : Nat) : Int))) (V.ptr data_1 fun a583 =>
  ∃ w584, Sem.run Try.prog (Instr.storeAt 9 (Value.pointer (some (Addr.add a583 ((Int.toNat a_2) * 1)))) (Value.string s580)) w582 = .ok () w584 ∧
  R (Ending.returned (Value.tuple #[(Value.int .i64 j_543), (Value.bool false)])) w584)))))
  (∃ S585 : World → Prop, S585 (World.drew (World.drew w545)) ∧
  V.when (decide ((0 : Int) ≤ j_543 ∧ (j_543 : Int) < ((data_1l : Nat) : Int))) (V.ptr data_1 fun a587 =>
  ∃ s588, (∀ w586, S585 w586 → World.cell? w586 (Addr.add a587 ((Int.toNat j_543) * 1)) = some (Value.string s588)) ∧
  V.when (decide ((0 : Int) ≤ i_529 ∧ (i_529 : Int) < ((data_1l : Nat) : Int))) (V.ptr data_1 fun a589 =>
  ∃ s590, (∀ w586, S585 w586 → World.cell? w586 (Addr.add a589 ((Int.toNat i_529) * 1)) = some (Value.string s590)) ∧
  V.when (decide ((0 : Int) ≤ i_529 ∧ (i_529 : Int) < ((data_1l : Nat) : Int))) (V.ptr data_1 fun a591 =>
  ∃ w592, Sem.run Try.prog (Instr.storeAt 9 (Value.pointer (some (Addr.add a591 ((Int.toNat i_529) * 1)))) (Value.string s588)) (World.drew (World.drew w545)) = .ok () w592 ∧
  S585 w592 ∧
  V.when (decide ((0 : Int) ≤ j_543 ∧ (j_543 : Int) < ((data_1l : Nat) : Int))) (V.ptr data_1 fun a593 =>
  ∃ w594, Sem.run Try.prog (Instr.storeAt 9 (Value.pointer (some (Addr.add a593 ((Int.toNat j_543) * 1)))) (Value.string s590)) w592 = .ok () w594 ∧
  I521 (IntKind.wrap .i64 (i_529 + 1)) (IntKind.wrap .i64 (j_543 - 1)) w594 ∧ μ522 (IntKind.wrap .i64 (i_529 + 1)) (IntKind.wrap .i64 (j_543 - 1)) w594 < μ522 i_523 j_524 w526)))))))))))
  (∃ I595 : Int → World → Prop, ∃ μ596 : Int → World → Nat, I595 j_524 (World.drew w531) ∧
  ∀ j_597 (j598 : Nat → Value) (w599 : World), I595 j_597 w599 →
  (∃ S600 : World → Prop, S600 (World.drew w599) ∧
  V.sel (decide (i_529 ≤ j_597))
  (V.when (decide ((0 : Int) ≤ j_597 ∧ (j_597 : Int) < ((data_1l : Nat) : Int))) (V.ptr data_1 fun a602 =>
  ∃ s603, (∀ w601, S600 w601 → World.cell? w601 (Addr.add a602 ((Int.toNat j_597) * 1)) = some (Value.string s603)) ∧
  V.when (decide ((0 : Int) ≤ a_2 ∧ (a_2 : Int) < ((data_1l : Nat) : Int))) (V.ptr data_1 fun a604 =>
  ∃ s605, (∀ w601, S600 w601 → World.cell? w601 (Addr.add a604 ((Int.toNat a_2) * 1)) = some (Value.string s605)) ∧
  Calls Try.prog 53 #[(Value.string s603), (Value.string s605)] (World.drew w599) fun e607 w608 =>
  ∃ b606, e607 = Ending.returned (Value.bool b606) ∧
  S600 w608 ∧
  V.sel (!b606)
  (I595 (IntKind.wrap .i64 (j_597 - 1)) w608 ∧ μ596 (IntKind.wrap .i64 (j_597 - 1)) w608 < μ596 j_597 w599)
  (V.sel (decide (i_529 > j_597))
  (∃ S609 : World → Prop, S609 (World.drew w608) ∧
  V.when (decide ((0 : Int) ≤ a_2 ∧ (a_2 : Int) < ((data_1l : Nat) : Int))) (V.ptr data_1 fun a611 =>
  ∃ s612, (∀ w610, S609 w610 → World.cell? w610 (Addr.add a611 ((Int.toNat a_2) * 1)) = some (Value.string s612)) ∧
  V.when (decide ((0 : Int) ≤ j_597 ∧ (j_597 : Int) < ((data_1l : Nat) : Int))) (V.ptr data_1 fun a613 =>
  ∃ s614, (∀ w610, S609 w610 → World.cell? w610 (Addr.add a613 ((Int.toNat j_597) * 1)) = some (Value.string s614)) ∧
  V.when (decide ((0 : Int) ≤ j_597 ∧ (j_597 : Int) < ((data_1l : Nat) : Int))) (V.ptr data_1 fun a615 =>
  ∃ w616, Sem.run Try.prog (Instr.storeAt 9 (Value.pointer (some (Addr.add a615 ((Int.toNat j_597) * 1)))) (Value.string s612)) (World.drew w608) = .ok () w616 ∧
  S609 w616 ∧
  V.when (decide ((0 : Int) ≤ a_2 ∧ (a_2 : Int) < ((data_1l : Nat) : Int))) (V.ptr data_1 fun a617 =>
  ∃ w618, Sem.run Try.prog (Instr.storeAt 9 (Value.pointer (some (Addr.add a617 ((Int.toNat a_2) * 1)))) (Value.string s614)) w616 = .ok () w618 ∧
  R (Ending.returned (Value.tuple #[(Value.int .i64 j_597), (Value.bool false)])) w618)))))
  (∃ S619 : World → Prop, S619 (World.drew w608) ∧
  V.when (decide ((0 : Int) ≤ j_597 ∧ (j_597 : Int) < ((data_1l : Nat) : Int))) (V.ptr data_1 fun a621 =>
  ∃ s622, (∀ w620, S619 w620 → World.cell? w620 (Addr.add a621 ((Int.toNat j_597) * 1)) = some (Value.string s622)) ∧
  V.when (decide ((0 : Int) ≤ i_529 ∧ (i_529 : Int) < ((data_1l : Nat) : Int))) (V.ptr data_1 fun a623 =>
  ∃ s624, (∀ w620, S619 w620 → World.cell? w620 (Addr.add a623 ((Int.toNat i_529) * 1)) = some (Value.string s624)) ∧
  V.when (decide ((0 : Int) ≤ i_529 ∧ (i_529 : Int) < ((data_1l : Nat) : Int))) (V.ptr data_1 fun a625 =>
  ∃ w626, Sem.run Try.prog (Instr.storeAt 9 (Value.pointer (some (Addr.add a625 ((Int.toNat i_529) * 1)))) (Value.string s622)) (World.drew w608) = .ok () w626 ∧
  S619 w626 ∧
  V.when (decide ((0 : Int) ≤ j_597 ∧ (j_597 : Int) < ((data_1l : Nat) : Int))) (V.ptr data_1 fun a627 =>
  ∃ w628, Sem.run Try.prog (Instr.storeAt 9 (Value.pointer (some (Addr.add a627 ((Int.toNat j_597) * 1)))) (Value.string s624)) w626 = .ok () w628 ∧
  I521 (IntKind.wrap .i64 (i_529 + 1)) (IntKind.wrap .i64 (j_597 - 1)) w628 ∧ μ522 (IntKind.wrap .i64 (i_529 + 1)) (IntKind.wrap .i64 (j_597 - 1)) w628 < μ522 i_523 j_524 w526)))))))))
  (V.sel (decide (i_529 > j_597))
  (∃ S629 : World → Prop, S629 (World.drew (World.drew w599)) ∧
  V.when (decide ((0 : Int) ≤ a_2 ∧ (a_2 : Int) < ((data_1l : Nat) : Int))) (V.ptr data_1 fun a631 =>
  ∃ s632, (∀ w630, S629 w630 → World.cell? w630 (Addr.add a631 ((Int.toNat a_2) * 1)) = some (Value.string s632)) ∧
  V.when (decide ((0 : Int) ≤ j_597 ∧ (j_597 : Int) < ((data_1l : Nat) : Int))) (V.ptr data_1 fun a633 =>
  ∃ s634, (∀ w630, S629 w630 → World.cell? w630 (Addr.add a633 ((Int.toNat j_597) * 1)) = some (Value.string s634)) ∧
  V.when (decide ((0 : Int) ≤ j_597 ∧ (j_597 : Int) < ((data_1l : Nat) : Int))) (V.ptr data_1 fun a635 =>
  ∃ w636, Sem.run Try.prog (Instr.storeAt 9 (Value.pointer (some (Addr.add a635 ((Int.toNat j_597) * 1)))) (Value.string s632)) (World.drew (World.drew w599)) = .ok () w636 ∧
  S629 w636 ∧
  V.when (decide ((0 : Int) ≤ a_2 ∧ (a_2 : Int) < ((data_1l : Nat) : Int))) (V.ptr data_1 fun a637 =>
  ∃ w638, Sem.run Try.prog (Instr.storeAt 9 (Value.pointer (some (Addr.add a637 ((Int.toNat a_2) * 1)))) (Value.string s634)) w636 = .ok () w638 ∧
  R (Ending.returned (Value.tuple #[(Value.int .i64 j_597), (Value.bool false)])) w638)))))
  (∃ S639 : World → Prop, S639 (World.drew (World.drew w599)) ∧
  V.when (decide ((0 : Int) ≤ j_597 ∧ (j_597 : Int) < ((data_1l : Nat) : Int))) (V.ptr data_1 fun a641 =>
  ∃ s642, (∀ w640, S639 w640 → World.cell? w640 (Addr.add a641 ((Int.toNat j_597) * 1)) = some (Value.string s642)) ∧
  V.when (decide ((0 : Int) ≤ i_529 ∧ (i_529 : Int) < ((data_1l : Nat) : Int))) (V.ptr data_1 fun a643 =>
  ∃ s644, (∀ w640, S639 w640 → World.cell? w640 (Addr.add a643 ((Int.toNat i_529) * 1)) = some (Value.string s644)) ∧
  V.when (decide ((0 : Int) ≤ i_529 ∧ (i_529 : Int) < ((data_1l : Nat) : Int))) (V.ptr data_1 fun a645 =>
  ∃ w646, Sem.run Try.prog (Instr.storeAt 9 (Value.pointer (some (Addr.add a645 ((Int.toNat i_529) * 1)))) (Value.string s642)) (World.drew (World.drew w599)) = .ok () w646 ∧
  S639 w646 ∧
  V.when (decide ((0 : Int) ≤ j_597 ∧ (j_597 : Int) < ((data_1l : Nat) : Int))) (V.ptr data_1 fun a647 =>
  ∃ w648, Sem.run Try.prog (Instr.storeAt 9 (Value.pointer (some (Addr.add a647 ((Int.toNat j_597) * 1)))) (Value.string s644)) w646 = .ok () w648 ∧
  I521 (IntKind.wrap .i64 (i_529 + 1)) (IntKind.wrap .i64 (j_597 - 1)) w648 ∧ μ522 (IntKind.wrap .i64 (i_529 + 1)) (IntKind.wrap .i64 (j_597 - 1)) w648 < μ522 i_523 j_524 w526)))))))))))))))))))))))) :
  Calls Try.prog 55 #[(Value.slice data_1 data_1l data_1c), (Value.int .i64 a_2), (Value.int .i64 b_3), (Value.int .i64 pivot_4)] w R :=
  V.calls_of_R ⟨V.assoc [(0, [10]), (1, [11]), (2, [10, 11]), (3, [10]), (4, [11])], V.assocP [(1, V.line [0, 1, 2, 3, 4, 5, 6, 7, 8, 9, 10, 11, 12, 13, 14, 15]), (3, V.line [0, 1, 2, 3, 4, 5, 6, 7, 8, 9, 10, 11, 12, 13]), (5, V.line [0, 1, 2, 3, 4, 5, 6, 7, 8, 9, 10, 11, 12, 13, 14]), (8, V.line [0, 1, 2, 3, 4, 5, 6, 7, 8, 9, 10, 11, 12, 13, 14, 15]), (10, V.line [0, 1, 2, 3, 4, 5, 6, 7, 8, 9, 10, 11, 12, 13, 14, 15]), (13, V.line [0, 1, 2, 3, 4, 5, 6, 7, 8, 9, 10, 11, 12, 13]), (15, V.line [0, 1, 2, 3, 4, 5, 6, 7, 8, 9, 10, 11, 12, 13, 14]), (18, V.line [0, 1, 2, 3, 4, 5, 6, 7, 8, 9, 10, 11, 12, 13, 14, 15]), (21, V.line [0, 1, 2, 3, 4, 5, 6, 7, 8, 9, 10, 11, 12, 13, 14, 15])], V.assocC [], V.assocS [], ⟨[], true⟩⟩ Try.func55 rfl (Eq.mp (by kernel_rfl) h)

end Go.Proofs.Ytcampkaenlohbaa
