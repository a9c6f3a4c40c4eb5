/- Normal forms of the program's functions, printed by a program of mine; the kernel checks each. -/
import Derived.Test.YtcohengppaighaaGreatDoorProg
import Derived.Test.YtcohengppaighaaGreatDoorV2
set_option linter.unusedVariables false
set_option maxRecDepth 100000
namespace Go.Proofs.YtcohengppaighaaGreatDoor
open Go

theorem labels_diffs_nf (was_1 : Option Addr) (was_1l : Nat) (was_1c : Nat) (now_2 : Option Addr) (now_2l : Nat) (now_2c : Nat) (w : World) (R : Ending → World → Prop) (h :
  ∃ I3 : Option Addr → Nat → Nat → Int → Int → World → Prop, ∃ μ4 : Option Addr → Nat → Nat → Int → Int → World → Nat, I3 none 0 0 0 0 w ∧
  ∀ out_5 out_5l out_5c i_6 j_7 (j8 : Nat → Value) (w9 : World), I3 out_5 out_5l out_5c i_6 j_7 w9 →
  (V.sel (decide (i_6 < ((was_1l : Nat) : Int)))
  (V.sel (j_7 == ((now_2l : Nat) : Int))
  (∃ S10 : World → Prop, S10 (World.drew (World.drew w9)) ∧
  V.when (decide ((0 : Int) ≤ i_6 ∧ (i_6 : Int) < ((was_1l : Nat) : Int))) (V.ptr was_1 fun a12 =>
  ∃ s13, (∀ w11, S10 w11 → World.cell? w11 (Addr.add (Addr.add a12 ((Int.toNat i_6) * 2)) 0) = some (Value.string s13)) ∧
  V.when (decide ((0 : Int) ≤ i_6 ∧ (i_6 : Int) < ((was_1l : Nat) : Int))) (V.ptr was_1 fun a14 =>
  ∃ s15, (∀ w11, S10 w11 → World.cell? w11 (Addr.add (Addr.add a14 ((Int.toNat i_6) * 2)) 1) = some (Value.string s15)) ∧
  ∀ w16, w16 = (World.alloc (World.drew (World.drew w9)) (.cells #[(Value.string s13), (Value.string s15), (Value.string ByteArray.empty), (Value.bool true), (Value.bool false)] 59)) →
  S10 w16 ∧
  ∃ A17, ∃ A17l, ∃ A17c, ∃ w18, Sem.run Tryz.prog (Builtin.append_ #[23, 23] 23 #[(Value.slice out_5 out_5l out_5c), (Value.slice (some ⟨Array.size (World.heap (World.drew (World.drew w9))), 0, none⟩) 1 1)]) w16 = .ok (Value.slice A17 A17l A17c) w18 ∧
  S10 w18 ∧
  I3 A17 A17l A17c (IntKind.wrap .i64 (i_6 + 1)) j_7 w18 ∧ μ4 A17 A17l A17c (IntKind.wrap .i64 (i_6 + 1)) j_7 w18 < μ4 out_5 out_5l out_5c i_6 j_7 w9)))
  (V.sel (decide (i_6 < ((was_1l : Nat) : Int)))
  (V.when (decide ((0 : Int) ≤ i_6 ∧ (i_6 : Int) < ((was_1l : Nat) : Int))) (V.ptr was_1 fun a19 =>
  ∃ s20, World.cell? w9 (Addr.add (Addr.add a19 ((Int.toNat i_6) * 2)) 0) = some (Value.string s20) ∧
  V.when (decide ((0 : Int) ≤ j_7 ∧ (j_7 : Int) < ((now_2l : Nat) : Int))) (V.ptr now_2 fun a21 =>
  ∃ s22, World.cell? w9 (Addr.add (Addr.add a21 ((Int.toNat j_7) * 2)) 0) = some (Value.string s22) ∧
  V.sel (Op.bytesLess (ByteArray.toList s20) (ByteArray.toList s22))
  (∃ S23 : World → Prop, S23 (World.drew (World.drew w9)) ∧
  V.when (decide ((0 : Int) ≤ i_6 ∧ (i_6 : Int) < ((was_1l : Nat) : Int))) (V.ptr was_1 fun a25 =>
  ∃ s26, (∀ w24, S23 w24 → World.cell? w24 (Addr.add (Addr.add a25 ((Int.toNat i_6) * 2)) 0) = some (Value.string s26)) ∧
  V.when (decide ((0 : Int) ≤ i_6 ∧ (i_6 : Int) < ((was_1l : Nat) : Int))) (V.ptr was_1 fun a27 =>
  ∃ s28, (∀ w24, S23 w24 → World.cell? w24 (Addr.add (Addr.add a27 ((Int.toNat i_6) * 2)) 1) = some (Value.string s28)) ∧
  ∀ w29, w29 = (World.alloc (World.drew (World.drew w9)) (.cells #[(Value.string s26), (Value.string s28), (Value.string ByteArray.empty), (Value.bool true), (Value.bool false)] 59)) →
  S23 w29 ∧
  ∃ A30, ∃ A30l, ∃ A30c, ∃ w31, Sem.run Tryz.prog (Builtin.append_ #[23, 23] 23 #[(Value.slice out_5 out_5l out_5c), (Value.slice (some ⟨Array.size (World.heap (World.drew (World.drew w9))), 0, none⟩) 1 1)]) w29 = .ok (Value.slice A30 A30l A30c) w31 ∧
  S23 w31 ∧
  I3 A30 A30l A30c (IntKind.wrap .i64 (i_6 + 1)) j_7 w31 ∧ μ4 A30 A30l A30c (IntKind.wrap .i64 (i_6 + 1)) j_7 w31 < μ4 out_5 out_5l out_5c i_6 j_7 w9)))
  (V.sel (i_6 == ((was_1l : Nat) : Int))
  (∃ S32 : World → Prop, S32 (World.drew (World.drew (World.drew w9))) ∧
  V.when (decide ((0 : Int) ≤ j_7 ∧ (j_7 : Int) < ((now_2l : Nat) : Int))) (V.ptr now_2 fun a34 =>
  ∃ s35, (∀ w33, S32 w33 → World.cell? w33 (Addr.add (Addr.add a34 ((Int.toNat j_7) * 2)) 0) = some (Value.string s35)) ∧
  V.when (decide ((0 : Int) ≤ j_7 ∧ (j_7 : Int) < ((now_2l : Nat) : Int))) (V.ptr now_2 fun a36 =>
  ∃ s37, (∀ w33, S32 w33 → World.cell? w33 (Addr.add (Addr.add a36 ((Int.toNat j_7) * 2)) 1) = some (Value.string s37)) ∧
  ∀ w38, w38 = (World.alloc (World.drew (World.drew (World.drew w9))) (.cells #[(Value.string s35), (Value.string ByteArray.empty), (Value.string s37), (Value.bool false), (Value.bool true)] 59)) →
  S32 w38 ∧
  ∃ A39, ∃ A39l, ∃ A39c, ∃ w40, Sem.run Tryz.prog (Builtin.append_ #[23, 23] 23 #[(Value.slice out_5 out_5l out_5c), (Value.slice (some ⟨Array.size (World.heap (World.drew (World.drew (World.drew w9)))), 0, none⟩) 1 1)]) w38 = .ok (Value.slice A39 A39l A39c) w40 ∧
  S32 w40 ∧
  I3 A39 A39l A39c i_6 (IntKind.wrap .i64 (j_7 + 1)) w40 ∧ μ4 A39 A39l A39c i_6 (IntKind.wrap .i64 (j_7 + 1)) w40 < μ4 out_5 out_5l out_5c i_6 j_7 w9)))
  (V.when (decide ((0 : Int) ≤ j_7 ∧ (j_7 : Int) < ((now_2l : Nat) : Int))) (V.ptr now_2 fun a41 =>
  ∃ s42, World.cell? (World.drew w9) (Addr.add (Addr.add a41 ((Int.toNat j_7) * 2)) 0) = some (Value.string s42) ∧
  V.when (decide ((0 : Int) ≤ i_6 ∧ (i_6 : Int) < ((was_1l : Nat) : Int))) (V.ptr was_1 fun a43 =>
  ∃ s44, World.cell? (World.drew w9) (Addr.add (Addr.add a43 ((Int.toNat i_6) * 2)) 0) = some (Value.string s44) ∧
  V.sel (Op.bytesLess (ByteArray.toList s42) (ByteArray.toList s44))
  (∃ S45 : World → Prop, S45 (World.drew (World.drew (World.drew w9))) ∧
  V.when (decide ((0 : Int) ≤ j_7 ∧ (j_7 : Int) < ((now_2l : Nat) : Int))) (V.ptr now_2 fun a47 =>
  ∃ s48, (∀ w46, S45 w46 → World.cell? w46 (Addr.add (Addr.add a47 ((Int.toNat j_7) * 2)) 0) = some (Value.string s48)) ∧
  V.when (decide ((0 : Int) ≤ j_7 ∧ (j_7 : Int) < ((now_2l : Nat) : Int))) (V.ptr now_2 fun a49 =>
  ∃ s50, (∀ w46, S45 w46 → World.cell? w46 (Addr.add (Addr.add a49 ((Int.toNat j_7) * 2)) 1) = some (Value.string s50)) ∧
  ∀ w51, w51 = (World.alloc (World.drew (World.drew (World.drew w9))) (.cells #[(Value.string s48), (Value.string ByteArray.empty), (Value.string s50), (Value.bool false), (Value.bool true)] 59)) →
  S45 w51 ∧
  ∃ A52, ∃ A52l, ∃ A52c, ∃ w53, Sem.run Tryz.prog (Builtin.append_ #[23, 23] 23 #[(Value.slice out_5 out_5l out_5c), (Value.slice (some ⟨Array.size (World.heap (World.drew (World.drew (World.drew w9)))), 0, none⟩) 1 1)]) w51 = .ok (Value.slice A52 A52l A52c) w53 ∧
  S45 w53 ∧
  I3 A52 A52l A52c i_6 (IntKind.wrap .i64 (j_7 + 1)) w53 ∧ μ4 A52 A52l A52c i_6 (IntKind.wrap .i64 (j_7 + 1)) w53 < μ4 out_5 out_5l out_5c i_6 j_7 w9)))
  (V.when (decide ((0 : Int) ≤ i_6 ∧ (i_6 : Int) < ((was_1l : Nat) : Int))) (V.ptr was_1 fun a54 =>
  ∃ s55, ∃ s56, V.cellsC (fun a_ x_ => World.cell? (World.drew (World.drew w9)) a_ = some x_) (Addr.add a54 ((Int.toNat i_6) * 2)) [(Value.string s55), (Value.string s56)] ∧
  V.when (decide ((0 : Int) ≤ j_7 ∧ (j_7 : Int) < ((now_2l : Nat) : Int))) (V.ptr now_2 fun a57 =>
  ∃ s58, ∃ s59, V.cellsC (fun a_ x_ => World.cell? (World.drew (World.drew w9)) a_ = some x_) (Addr.add a57 ((Int.toNat j_7) * 2)) [(Value.string s58), (Value.string s59)] ∧
  V.sel (!((ByteArray.toList s55 == ByteArray.toList s58) && ((ByteArray.toList s56 == ByteArray.toList s59) && true)))
  (∃ S60 : World → Prop, S60 (World.drew (World.drew (World.drew (World.drew w9)))) ∧
  V.when (decide ((0 : Int) ≤ i_6 ∧ (i_6 : Int) < ((was_1l : Nat) : Int))) (V.ptr was_1 fun a62 =>
  ∃ s63, (∀ w61, S60 w61 → World.cell? w61 (Addr.add (Addr.add a62 ((Int.toNat i_6) * 2)) 0) = some (Value.string s63)) ∧
  V.when (decide ((0 : Int) ≤ i_6 ∧ (i_6 : Int) < ((was_1l : Nat) : Int))) (V.ptr was_1 fun a64 =>
  ∃ s65, (∀ w61, S60 w61 → World.cell? w61 (Addr.add (Addr.add a64 ((Int.toNat i_6) * 2)) 1) = some (Value.string s65)) ∧
  V.when (decide ((0 : Int) ≤ j_7 ∧ (j_7 : Int) < ((now_2l : Nat) : Int))) (V.ptr now_2 fun a66 =>
  ∃ s67, (∀ w61, S60 w61 → World.cell? w61 (Addr.add (Addr.add a66 ((Int.toNat j_7) * 2)) 1) = some (Value.string s67)) ∧
  ∀ w68, w68 = (World.alloc (World.drew (World.drew (World.drew (World.drew w9)))) (.cells #[(Value.string s63), (Value.string s65), (Value.string s67), (Value.bool true), (Value.bool true)] 59)) →
  S60 w68 ∧
  ∃ A69, ∃ A69l, ∃ A69c, ∃ w70, Sem.run Tryz.prog (Builtin.append_ #[23, 23] 23 #[(Value.slice out_5 out_5l out_5c), (Value.slice (some ⟨Array.size (World.heap (World.drew (World.drew (World.drew (World.drew w9))))), 0, none⟩) 1 1)]) w68 = .ok (Value.slice A69 A69l A69c) w70 ∧
  S60 w70 ∧
  I3 A69 A69l A69c (IntKind.wrap .i64 (i_6 + 1)) (IntKind.wrap .i64 (j_7 + 1)) w70 ∧ μ4 A69 A69l A69c (IntKind.wrap .i64 (i_6 + 1)) (IntKind.wrap .i64 (j_7 + 1)) w70 < μ4 out_5 out_5l out_5c i_6 j_7 w9))))
  (I3 out_5 out_5l out_5c (IntKind.wrap .i64 (i_6 + 1)) (IntKind.wrap .i64 (j_7 + 1)) (World.drew (World.drew (World.drew w9))) ∧ μ4 out_5 out_5l out_5c (IntKind.wrap .i64 (i_6 + 1)) (IntKind.wrap .i64 (j_7 + 1)) (World.drew (World.drew (World.drew w9))) < μ4 out_5 out_5l out_5c i_6 j_7 w9)))))))))))
  (V.sel (i_6 == ((was_1l : Nat) : Int))
  (∃ S71 : World → Prop, S71 (World.drew (World.drew (World.drew w9))) ∧
  V.when (decide ((0 : Int) ≤ j_7 ∧ (j_7 : Int) < ((now_2l : Nat) : Int))) (V.ptr now_2 fun a73 =>
  ∃ s74, (∀ w72, S71 w72 → World.cell? w72 (Addr.add (Addr.add a73 ((Int.toNat j_7) * 2)) 0) = some (Value.string s74)) ∧
  V.when (decide ((0 : Int) ≤ j_7 ∧ (j_7 : Int) < ((now_2l : Nat) : Int))) (V.ptr now_2 fun a75 =>
  ∃ s76, (∀ w72, S71 w72 → World.cell? w72 (Addr.add (Addr.add a75 ((Int.toNat j_7) * 2)) 1) = some (Value.string s76)) ∧
  ∀ w77, w77 = (World.alloc (World.drew (World.drew (World.drew w9))) (.cells #[(Value.string s74), (Value.string ByteArray.empty), (Value.string s76), (Value.bool false), (Value.bool true)] 59)) →
  S71 w77 ∧
  ∃ A78, ∃ A78l, ∃ A78c, ∃ w79, Sem.run Tryz.prog (Builtin.append_ #[23, 23] 23 #[(Value.slice out_5 out_5l out_5c), (Value.slice (some ⟨Array.size (World.heap (World.drew (World.drew (World.drew w9)))), 0, none⟩) 1 1)]) w77 = .ok (Value.slice A78 A78l A78c) w79 ∧
  S71 w79 ∧
  I3 A78 A78l A78c i_6 (IntKind.wrap .i64 (j_7 + 1)) w79 ∧ μ4 A78 A78l A78c i_6 (IntKind.wrap .i64 (j_7 + 1)) w79 < μ4 out_5 out_5l out_5c i_6 j_7 w9)))
  (V.when (decide ((0 : Int) ≤ j_7 ∧ (j_7 : Int) < ((now_2l : Nat) : Int))) (V.ptr now_2 fun a80 =>
  ∃ s81, World.cell? (World.drew w9) (Addr.add (Addr.add a80 ((Int.toNat j_7) * 2)) 0) = some (Value.string s81) ∧
  V.when (decide ((0 : Int) ≤ i_6 ∧ (i_6 : Int) < ((was_1l : Nat) : Int))) (V.ptr was_1 fun a82 =>
  ∃ s83, World.cell? (World.drew w9) (Addr.add (Addr.add a82 ((Int.toNat i_6) * 2)) 0) = some (Value.string s83) ∧
  V.sel (Op.bytesLess (ByteArray.toList s81) (ByteArray.toList s83))
  (∃ S84 : World → Prop, S84 (World.drew (World.drew (World.drew w9))) ∧
  V.when (decide ((0 : Int) ≤ j_7 ∧ (j_7 : Int) < ((now_2l : Nat) : Int))) (V.ptr now_2 fun a86 =>
  ∃ s87, (∀ w85, S84 w85 → World.cell? w85 (Addr.add (Addr.add a86 ((Int.toNat j_7) * 2)) 0) = some (Value.string s87)) ∧
  V.when (decide ((0 : Int) ≤ j_7 ∧ (j_7 : Int) < ((now_2l : Nat) : Int))) (V.ptr now_2 fun a88 =>
  ∃ s89, (∀ w85, S84 w85 → World.cell? w85 (Addr.add (Addr.add a88 ((Int.toNat j_7) * 2)) 1) = some (Value.string s89)) ∧
  ∀ w90, w90 = (World.alloc (World.drew (World.drew (World.drew w9))) (.cells #[(Value.string s87), (Value.string ByteArray.empty), (Value.string s89), (Value.bool false), (Value.bool true)] 59)) →
  S84 w90 ∧
  ∃ A91, ∃ A91l, ∃ A91c, ∃ w92, Sem.run Tryz.prog (Builtin.append_ #[23, 23] 23 #[(Value.slice out_5 out_5l out_5c), (Value.slice (some ⟨Array.size (World.heap (World.drew (World.drew (World.drew w9)))), 0, none⟩) 1 1)]) w90 = .ok (Value.slice A91 A91l A91c) w92 ∧
  S84 w92 ∧
  I3 A91 A91l A91c i_6 (IntKind.wrap .i64 (j_7 + 1)) w92 ∧ μ4 A91 A91l A91c i_6 (IntKind.wrap .i64 (j_7 + 1)) w92 < μ4 out_5 out_5l out_5c i_6 j_7 w9)))
  (V.when (decide ((0 : Int) ≤ i_6 ∧ (i_6 : Int) < ((was_1l : Nat) : Int))) (V.ptr was_1 fun a93 =>
  ∃ s94, ∃ s95, V.cellsC (fun a_ x_ => World.cell? (World.drew (World.drew w9)) a_ = some x_) (Addr.add a93 ((Int.toNat i_6) * 2)) [(Value.string s94), (Value.string s95)] ∧
  V.when (decide ((0 : Int) ≤ j_7 ∧ (j_7 : Int) < ((now_2l : Nat) : Int))) (V.ptr now_2 fun a96 =>
  ∃ s97, ∃ s98, V.cellsC (fun a_ x_ => World.cell? (World.drew (World.drew w9)) a_ = some x_) (Addr.add a96 ((Int.toNat j_7) * 2)) [(Value.string s97), (Value.string s98)] ∧
  V.sel (!((ByteArray.toList s94 == ByteArray.toList s97) && ((ByteArray.toList s95 == ByteArray.toList s98) && true)))
  (∃ S99 : World → Prop, S99 (World.drew (World.drew (World.drew (World.drew w9)))) ∧
  V.when (decide ((0 : Int) ≤ i_6 ∧ (i_6 : Int) < ((was_1l : Nat) : Int))) (V.ptr was_1 fun a101 =>
  ∃ s102, (∀ w100, S99 w100 → World.cell? w100 (Addr.add (Addr.add a101 ((Int.toNat i_6) * 2)) 0) = some (Value.string s102)) ∧
  V.when (decide ((0 : Int) ≤ i_6 ∧ (i_6 : Int) < ((was_1l : Nat) : Int))) (V.ptr was_1 fun a103 =>
  ∃ s104, (∀ w100, S99 w100 → World.cell? w100 (Addr.add (Addr.add a103 ((Int.toNat i_6) * 2)) 1) = some (Value.string s104)) ∧
  V.when (decide ((0 : Int) ≤ j_7 ∧ (j_7 : Int) < ((now_2l : Nat) : Int))) (V.ptr now_2 fun a105 =>
  ∃ s106, (∀ w100, S99 w100 → World.cell? w100 (Addr.add (Addr.add a105 ((Int.toNat j_7) * 2)) 1) = some (Value.string s106)) ∧
  ∀ w107, w107 = (World.alloc (World.drew (World.drew (World.drew (World.drew w9)))) (.cells #[(Value.string s102), (Value.string s104), (Value.string s106), (Value.bool true), (Value.bool true)] 59)) →
  S99 w107 ∧
  ∃ A108, ∃ A108l, ∃ A108c, ∃ w109, Sem.run Tryz.prog (Builtin.append_ #[23, 23] 23 #[(Value.slice out_5 out_5l out_5c), (Value.slice (some ⟨Array.size (World.heap (World.drew (World.drew (World.drew (World.drew w9))))), 0, none⟩) 1 1)]) w107 = .ok (Value.slice A108 A108l A108c) w109 ∧
  S99 w109 ∧
  I3 A108 A108l A108c (IntKind.wrap .i64 (i_6 + 1)) (IntKind.wrap .i64 (j_7 + 1)) w109 ∧ μ4 A108 A108l A108c (IntKind.wrap .i64 (i_6 + 1)) (IntKind.wrap .i64 (j_7 + 1)) w109 < μ4 out_5 out_5l out_5c i_6 j_7 w9))))
  (I3 out_5 out_5l out_5c (IntKind.wrap .i64 (i_6 + 1)) (IntKind.wrap .i64 (j_7 + 1)) (World.drew (World.drew (World.drew w9))) ∧ μ4 out_5 out_5l out_5c (IntKind.wrap .i64 (i_6 + 1)) (IntKind.wrap .i64 (j_7 + 1)) (World.drew (World.drew (World.drew w9))) < μ4 out_5 out_5l out_5c i_6 j_7 w9))))))))))
  (V.sel (decide (j_7 < ((now_2l : Nat) : Int)))
  (V.sel (j_7 == ((now_2l : Nat) : Int))
  (∃ S110 : World → Prop, S110 (World.drew (World.drew w9)) ∧
  V.when (decide ((0 : Int) ≤ i_6 ∧ (i_6 : Int) < ((was_1l : Nat) : Int))) (V.ptr was_1 fun a112 =>
  ∃ s113, (∀ w111, S110 w111 → World.cell? w111 (Addr.add (Addr.add a112 ((Int.toNat i_6) * 2)) 0) = some (Value.string s113)) ∧
  V.when (decide ((0 : Int) ≤ i_6 ∧ (i_6 : Int) < ((was_1l : Nat) : Int))) (V.ptr was_1 fun a114 =>
  ∃ s115, (∀ w111, S110 w111 → World.cell? w111 (Addr.add (Addr.add a114 ((Int.toNat i_6) * 2)) 1) = some (Value.string s115)) ∧
  ∀ w116, w116 = (World.alloc (World.drew (World.drew w9)) (.cells #[(Value.string s113), (Value.string s115), (Value.string ByteArray.empty), (Value.bool true), (Value.bool false)] 59)) →
  S110 w116 ∧
  ∃ A117, ∃ A117l, ∃ A117c, ∃ w118, Sem.run Tryz.prog (Builtin.append_ #[23, 23] 23 #[(Value.slice out_5 out_5l out_5c), (Value.slice (some ⟨Array.size (World.heap (World.drew (World.drew w9))), 0, none⟩) 1 1)]) w116 = .ok (Value.slice A117 A117l A117c) w118 ∧
  S110 w118 ∧
  I3 A117 A117l A117c (IntKind.wrap .i64 (i_6 + 1)) j_7 w118 ∧ μ4 A117 A117l A117c (IntKind.wrap .i64 (i_6 + 1)) j_7 w118 < μ4 out_5 out_5l out_5c i_6 j_7 w9)))
  (V.sel (decide (i_6 < ((was_1l : Nat) : Int)))
  (V.when (decide ((0 : Int) ≤ i_6 ∧ (i_6 : Int) < ((was_1l : Nat) : Int))) (V.ptr was_1 fun a119 =>
  ∃ s120, World.cell? w9 (Addr.add (Addr.add a119 ((Int.toNat i_6) * 2)) 0) = some (Value.string s120) ∧
  V.when (decide ((0 : Int) ≤ j_7 ∧ (j_7 : Int) < ((now_2l : Nat) : Int))) (V.ptr now_2 fun a121 =>
  ∃ s122, World.cell? w9 (Addr.add (Addr.add a121 ((Int.toNat j_7) * 2)) 0) = some (Value.string s122) ∧
  V.sel (Op.bytesLess (ByteArray.toList s120) (ByteArray.toList s122))
  (∃ S123 : World → Prop, S123 (World.drew (World.drew w9)) ∧
  V.when (decide ((0 : Int) ≤ i_6 ∧ (i_6 : Int) < ((was_1l : Nat) : Int))) (V.ptr was_1 fun a125 =>
  ∃ s126, (∀ w124, S123 w124 → World.cell? w124 (Addr.add (Addr.add a125 ((Int.toNat i_6) * 2)) 0) = some (Value.string s126)) ∧
  V.when (decide ((0 : Int) ≤ i_6 ∧ (i_6 : Int) < ((was_1l : Nat) : Int))) (V.ptr was_1 fun a127 =>
  ∃ s128, (∀ w124, S123 w124 → World.cell? w124 (Addr.add (Addr.add a127 ((Int.toNat i_6) * 2)) 1) = some (Value.string s128)) ∧
  ∀ w129, w129 = (World.alloc (World.drew (World.drew w9)) (.cells #[(Value.string s126), (Value.string s128), (Value.string ByteArray.empty), (Value.bool true), (Value.bool false)] 59)) →
  S123 w129 ∧
  ∃ A130, ∃ A130l, ∃ A130c, ∃ w131, Sem.run Tryz.prog (Builtin.append_ #[23, 23] 23 #[(Value.slice out_5 out_5l out_5c), (Value.slice (some ⟨Array.size (World.heap (World.drew (World.drew w9))), 0, none⟩) 1 1)]) w129 = .ok (Value.slice A130 A130l A130c) w131 ∧
  S123 w131 ∧
  I3 A130 A130l A130c (IntKind.wrap .i64 (i_6 + 1)) j_7 w131 ∧ μ4 A130 A130l A130c (IntKind.wrap .i64 (i_6 + 1)) j_7 w131 < μ4 out_5 out_5l out_5c i_6 j_7 w9)))
  (V.sel (i_6 == ((was_1l : Nat) : Int))
  (∃ S132 : World → Prop, S132 (World.drew (World.drew (World.drew w9))) ∧
  V.when (decide ((0 : Int) ≤ j_7 ∧ (j_7 : Int) < ((now_2l : Nat) : Int))) (V.ptr now_2 fun a134 =>
  ∃ s135, (∀ w133, S132 w133 → World.cell? w133 (Addr.add (Addr.add a134 ((Int.toNat j_7) * 2)) 0) = some (Value.string s135)) ∧
  V.when (decide ((0 : Int) ≤ j_7 ∧ (j_7 : Int) < ((now_2l : Nat) : Int))) (V.ptr now_2 fun a136 =>
  ∃ s137, (∀ w133, S132 w133 → World.cell? w133 (Addr.add (Addr.add a136 ((Int.toNat j_7) * 2)) 1) = some (Value.string s137)) ∧
  ∀ w138, w138 = (World.alloc (World.drew (World.drew (World.drew w9))) (.cells #[(Value.string s135), (Value.string ByteArray.empty), (Value.string s137), (Value.bool false), (Value.bool true)] 59)) →
  S132 w138 ∧
  ∃ A139, ∃ A139l, ∃ A139c, ∃ w140, Sem.run Tryz.prog (Builtin.append_ #[23, 23] 23 #[(Value.slice out_5 out_5l out_5c), (Value.slice (some ⟨Array.size (World.heap (World.drew (World.drew (World.drew w9)))), 0, none⟩) 1 1)]) w138 = .ok (Value.slice A139 A139l A139c) w140 ∧
  S132 w140 ∧
  I3 A139 A139l A139c i_6 (IntKind.wrap .i64 (j_7 + 1)) w140 ∧ μ4 A139 A139l A139c i_6 (IntKind.wrap .i64 (j_7 + 1)) w140 < μ4 out_5 out_5l out_5c i_6 j_7 w9)))
  (V.when (decide ((0 : Int) ≤ j_7 ∧ (j_7 : Int) < ((now_2l : Nat) : Int))) (V.ptr now_2 fun a141 =>
  ∃ s142, World.cell? (World.drew w9) (Addr.add (Addr.add a141 ((Int.toNat j_7) * 2)) 0) = some (Value.string s142) ∧
  V.when (decide ((0 : Int) ≤ i_6 ∧ (i_6 : Int) < ((was_1l : Nat) : Int))) (V.ptr was_1 fun a143 =>
  ∃ s144, World.cell? (World.drew w9) (Addr.add (Addr.add a143 ((Int.toNat i_6) * 2)) 0) = some (Value.string s144) ∧
  V.sel (Op.bytesLess (ByteArray.toList s142) (ByteArray.toList s144))
  (∃ S145 : World → Prop, S145 (World.drew (World.drew (World.drew w9))) ∧
  V.when (decide ((0 : Int) ≤ j_7 ∧ (j_7 : Int) < ((now_2l : Nat) : Int))) (V.ptr now_2 fun a147 =>
  ∃ s148, (∀ w146, S145 w146 → World.cell? w146 (Addr.add (Addr.add a147 ((Int.toNat j_7) * 2)) 0) = some (Value.string s148)) ∧
  V.when (decide ((0 : Int) ≤ j_7 ∧ (j_7 : Int) < ((now_2l : Nat) : Int))) (V.ptr now_2 fun a149 =>
  ∃ s150, (∀ w146, S145 w146 → World.cell? w146 (Addr.add (Addr.add a149 ((Int.toNat j_7) * 2)) 1) = some (Value.string s150)) ∧
  ∀ w151, w151 = (World.alloc (World.drew (World.drew (World.drew w9))) (.cells #[(Value.string s148), (Value.string ByteArray.empty), (Value.string s150), (Value.bool false), (Value.bool true)] 59)) →
  S145 w151 ∧
  ∃ A152, ∃ A152l, ∃ A152c, ∃ w153, Sem.run Tryz.prog (Builtin.append_ #[23, 23] 23 #[(Value.slice out_5 out_5l out_5c), (Value.slice (some ⟨Array.size (World.heap (World.drew (World.drew (World.drew w9)))), 0, none⟩) 1 1)]) w151 = .ok (Value.slice A152 A152l A152c) w153 ∧
  S145 w153 ∧
  I3 A152 A152l A152c i_6 (IntKind.wrap .i64 (j_7 + 1)) w153 ∧ μ4 A152 A152l A152c i_6 (IntKind.wrap .i64 (j_7 + 1)) w153 < μ4 out_5 out_5l out_5c i_6 j_7 w9)))
  (V.when (decide ((0 : Int) ≤ i_6 ∧ (i_6 : Int) < ((was_1l : Nat) : Int))) (V.ptr was_1 fun a154 =>
  ∃ s155, ∃ s156, V.cellsC (fun a_ x_ => World.cell? (World.drew (World.drew w9)) a_ = some x_) (Addr.add a154 ((Int.toNat i_6) * 2)) [(Value.string s155), (Value.string s156)] ∧
  V.when (decide ((0 : Int) ≤ j_7 ∧ (j_7 : Int) < ((now_2l : Nat) : Int))) (V.ptr now_2 fun a157 =>
  ∃ s158, ∃ s159, V.cellsC (fun a_ x_ => World.cell? (World.drew (World.drew w9)) a_ = some x_) (Addr.add a157 ((Int.toNat j_7) * 2)) [(Value.string s158), (Value.string s159)] ∧
  V.sel (!((ByteArray.toList s155 == ByteArray.toList s158) && ((ByteArray.toList s156 == ByteArray.toList s159) && true)))
  (∃ S160 : World → Prop, S160 (World.drew (World.drew (World.drew (World.drew w9)))) ∧
  V.when (decide ((0 : Int) ≤ i_6 ∧ (i_6 : Int) < ((was_1l : Nat) : Int))) (V.ptr was_1 fun a162 =>
  ∃ s163, (∀ w161, S160 w161 → World.cell? w161 (Addr.add (Addr.add a162 ((Int.toNat i_6) * 2)) 0) = some (Value.string s163)) ∧
  V.when (decide ((0 : Int) ≤ i_6 ∧ (i_6 : Int) < ((was_1l : Nat) : Int))) (V.ptr was_1 fun a164 =>
  ∃ s165, (∀ w161, S160 w161 → World.cell? w161 (Addr.add (Addr.add a164 ((Int.toNat i_6) * 2)) 1) = some (Value.string s165)) ∧
  V.when (decide ((0 : Int) ≤ j_7 ∧ (j_7 : Int) < ((now_2l : Nat) : Int))) (V.ptr now_2 fun a166 =>
  ∃ s167, (∀ w161, S160 w161 → World.cell? w161 (Addr.add (Addr.add a166 ((Int.toNat j_7) * 2)) 1) = some (Value.string s167)) ∧
  ∀ w168, w168 = (World.alloc (World.drew (World.drew (World.drew (World.drew w9)))) (.cells #[(Value.string s163), (Value.string s165), (Value.string s167), (Value.bool true), (Value.bool true)] 59)) →
  S160 w168 ∧
  ∃ A169, ∃ A169l, ∃ A169c, ∃ w170, Sem.run Tryz.prog (Builtin.append_ #[23, 23] 23 #[(Value.slice out_5 out_5l out_5c), (Value.slice (some ⟨Array.size (World.heap (World.drew (World.drew (World.drew (World.drew w9))))), 0, none⟩) 1 1)]) w168 = .ok (Value.slice A169 A169l A169c) w170 ∧
  S160 w170 ∧
  I3 A169 A169l A169c (IntKind.wrap .i64 (i_6 + 1)) (IntKind.wrap .i64 (j_7 + 1)) w170 ∧ μ4 A169 A169l A169c (IntKind.wrap .i64 (i_6 + 1)) (IntKind.wrap .i64 (j_7 + 1)) w170 < μ4 out_5 out_5l out_5c i_6 j_7 w9))))
  (I3 out_5 out_5l out_5c (IntKind.wrap .i64 (i_6 + 1)) (IntKind.wrap .i64 (j_7 + 1)) (World.drew (World.drew (World.drew w9))) ∧ μ4 out_5 out_5l out_5c (IntKind.wrap .i64 (i_6 + 1)) (IntKind.wrap .i64 (j_7 + 1)) (World.drew (World.drew (World.drew w9))) < μ4 out_5 out_5l out_5c i_6 j_7 w9)))))))))))
  (V.sel (i_6 == ((was_1l : Nat) : Int))
  (∃ S171 : World → Prop, S171 (World.drew (World.drew (World.drew w9))) ∧
  V.when (decide ((0 : Int) ≤ j_7 ∧ (j_7 : Int) < ((now_2l : Nat) : Int))) (V.ptr now_2 fun a173 =>
  ∃ s174, (∀ w172, S171 w172 → World.cell? w172 (Addr.add (Addr.add a173 ((Int.toNat j_7) * 2)) 0) = some (Value.string s174)) ∧
  V.when (decide ((0 : Int) ≤ j_7 ∧ (j_7 : Int) < ((now_2l : Nat) : Int))) (V.ptr now_2 fun a175 =>
  ∃ s176, (∀ w172, S171 w172 → World.cell? w172 (Addr.add (Addr.add a175 ((Int.toNat j_7) * 2)) 1) = some (Value.string s176)) ∧
  ∀ w177, w177 = (World.alloc (World.drew (World.drew (World.drew w9))) (.cells #[(Value.string s174), (Value.string ByteArray.empty), (Value.string s176), (Value.bool false), (Value.bool true)] 59)) →
  S171 w177 ∧
  ∃ A178, ∃ A178l, ∃ A178c, ∃ w179, Sem.run Tryz.prog (Builtin.append_ #[23, 23] 23 #[(Value.slice out_5 out_5l out_5c), (Value.slice (some ⟨Array.size (World.heap (World.drew (World.drew (World.drew w9)))), 0, none⟩) 1 1)]) w177 = .ok (Value.slice A178 A178l A178c) w179 ∧
  S171 w179 ∧
  I3 A178 A178l A178c i_6 (IntKind.wrap .i64 (j_7 + 1)) w179 ∧ μ4 A178 A178l A178c i_6 (IntKind.wrap .i64 (j_7 + 1)) w179 < μ4 out_5 out_5l out_5c i_6 j_7 w9)))
  (V.when (decide ((0 : Int) ≤ j_7 ∧ (j_7 : Int) < ((now_2l : Nat) : Int))) (V.ptr now_2 fun a180 =>
  ∃ s181, World.cell? (World.drew w9) (Addr.add (Addr.add a180 ((Int.toNat j_7) * 2)) 0) = some (Value.string s181) ∧
  V.when (decide ((0 : Int) ≤ i_6 ∧ (i_6 : Int) < ((was_1l : Nat) : Int))) (V.ptr was_1 fun a182 =>
  ∃ s183, World.cell? (World.drew w9) (Addr.add (Addr.add a182 ((Int.toNat i_6) * 2)) 0) = some (Value.string s183) ∧
  V.sel (Op.bytesLess (ByteArray.toList s181) (ByteArray.toList s183))
  (∃ S184 : World → Prop, S184 (World.drew (World.drew (World.drew w9))) ∧
  V.when (decide ((0 : Int) ≤ j_7 ∧ (j_7 : Int) < ((now_2l : Nat) : Int))) (V.ptr now_2 fun a186 =>
  ∃ s187, (∀ w185, S184 w185 → World.cell? w185 (Addr.add (Addr.add a186 ((Int.toNat j_7) * 2)) 0) = some (Value.string s187)) ∧
  V.when (decide ((0 : Int) ≤ j_7 ∧ (j_7 : Int) < ((now_2l : Nat) : Int))) (V.ptr now_2 fun a188 =>
  ∃ s189, (∀ w185, S184 w185 → World.cell? w185 (Addr.add (Addr.add a188 ((Int.toNat j_7) * 2)) 1) = some (Value.string s189)) ∧
  ∀ w190, w190 = (World.alloc (World.drew (World.drew (World.drew w9))) (.cells #[(Value.string s187), (Value.string ByteArray.empty), (Value.string s189), (Value.bool false), (Value.bool true)] 59)) →
  S184 w190 ∧
  ∃ A191, ∃ A191l, ∃ A191c, ∃ w192, Sem.run Tryz.prog (Builtin.append_ #[23, 23] 23 #[(Value.slice out_5 out_5l out_5c), (Value.slice (some ⟨Array.size (World.heap (World.drew (World.drew (World.drew w9)))), 0, none⟩) 1 1)]) w190 = .ok (Value.slice A191 A191l A191c) w192 ∧
  S184 w192 ∧
  I3 A191 A191l A191c i_6 (IntKind.wrap .i64 (j_7 + 1)) w192 ∧ μ4 A191 A191l A191c i_6 (IntKind.wrap .i64 (j_7 + 1)) w192 < μ4 out_5 out_5l out_5c i_6 j_7 w9)))
  (V.when (decide ((0 : Int) ≤ i_6 ∧ (i_6 : Int) < ((was_1l : Nat) : Int))) (V.ptr was_1 fun a193 =>
  ∃ s194, ∃ s195, V.cellsC (fun a_ x_ => World.cell? (World.drew (World.drew w9)) a_ = some x_) (Addr.add a193 ((Int.toNat i_6) * 2)) [(Value.string s194), (Value.string s195)] ∧
  V.when (decide ((0 : Int) ≤ j_7 ∧ (j_7 : Int) < ((now_2l : Nat) : Int))) (V.ptr now_2 fun a196 =>
  ∃ s197, ∃ s198, V.cellsC (fun a_ x_ => World.cell? (World.drew (World.drew w9)) a_ = some x_) (Addr.add a196 ((Int.toNat j_7) * 2)) [(Value.string s197), (Value.string s198)] ∧
  V.sel (!((ByteArray.toList s194 == ByteArray.toList s197) && ((ByteArray.toList s195 == ByteArray.toList s198) && true)))
  (∃ S199 : World → Prop, S199 (World.drew (World.drew (World.drew (World.drew w9)))) ∧
  V.when (decide ((0 : Int) ≤ i_6 ∧ (i_6 : Int) < ((was_1l : Nat) : Int))) (V.ptr was_1 fun a201 =>
  ∃ s202, (∀ w200, S199 w200 → World.cell? w200 (Addr.add (Addr.add a201 ((Int.toNat i_6) * 2)) 0) = some (Value.string s202)) ∧
  V.when (decide ((0 : Int) ≤ i_6 ∧ (i_6 : Int) < ((was_1l : Nat) : Int))) (V.ptr was_1 fun a203 =>
  ∃ s204, (∀ w200, S199 w200 → World.cell? w200 (Addr.add (Addr.add a203 ((Int.toNat i_6) * 2)) 1) = some (Value.string s204)) ∧
  V.when (decide ((0 : Int) ≤ j_7 ∧ (j_7 : Int) < ((now_2l : Nat) : Int))) (V.ptr now_2 fun a205 =>
  ∃ s206, (∀ w200, S199 w200 → World.cell? w200 (Addr.add (Addr.add a205 ((Int.toNat j_7) * 2)) 1) = some (Value.string s206)) ∧
  ∀ w207, w207 = (World.alloc (World.drew (World.drew (World.drew (World.drew w9)))) (.cells #[(Value.string s202), (Value.string s204), (Value.string s206), (Value.bool true), (Value.bool true)] 59)) →
  S199 w207 ∧
  ∃ A208, ∃ A208l, ∃ A208c, ∃ w209, Sem.run Tryz.prog (Builtin.append_ #[23, 23] 23 #[(Value.slice out_5 out_5l out_5c), (Value.slice (some ⟨Array.size (World.heap (World.drew (World.drew (World.drew (World.drew w9))))), 0, none⟩) 1 1)]) w207 = .ok (Value.slice A208 A208l A208c) w209 ∧
  S199 w209 ∧
  I3 A208 A208l A208c (IntKind.wrap .i64 (i_6 + 1)) (IntKind.wrap .i64 (j_7 + 1)) w209 ∧ μ4 A208 A208l A208c (IntKind.wrap .i64 (i_6 + 1)) (IntKind.wrap .i64 (j_7 + 1)) w209 < μ4 out_5 out_5l out_5c i_6 j_7 w9))))
  (I3 out_5 out_5l out_5c (IntKind.wrap .i64 (i_6 + 1)) (IntKind.wrap .i64 (j_7 + 1)) (World.drew (World.drew (World.drew w9))) ∧ μ4 out_5 out_5l out_5c (IntKind.wrap .i64 (i_6 + 1)) (IntKind.wrap .i64 (j_7 + 1)) (World.drew (World.drew (World.drew w9))) < μ4 out_5 out_5l out_5c i_6 j_7 w9))))))))))
  (R (Ending.returned (Value.slice out_5 out_5l out_5c)) w9)))) :
  Calls Tryz.prog 30 #[(Value.slice was_1 was_1l was_1c), (Value.slice now_2 now_2l now_2c)] w R :=
  V.calls_of_R ⟨V.assoc [(0, [5, 6, 7])], V.assocP [(8, V.line [0, 1, 2, 3, 4, 5, 6, 7, 8, 9, 10, 11, 12, 13, 14, 15, 16, 17, 18, 19, 20, 21, 22, 23]), (9, V.line [0, 1, 2, 3, 4, 5, 6, 7, 8, 9, 10, 11, 12, 13, 14]), (11, V.line [0, 1, 2, 3, 4, 5, 6, 7, 8, 9, 10, 11, 12, 13, 14, 15, 16, 17]), (12, V.line [0, 1, 2, 3, 4, 5, 6, 7, 8, 9, 10, 11, 12, 13, 14]), (4, V.line [0, 1, 2, 3, 4, 5, 6, 7, 8]), (5, V.line [0, 1, 2, 3, 4, 5, 6, 7, 8, 9, 10, 11, 12, 13, 14, 15, 16, 17, 18, 19])], V.assocC [], V.assocS [], ⟨[], true⟩⟩ Tryz.func30 rfl (Eq.mp (by kernel_rfl) h)

theorem labels_Diff_l1_nf (yl : Nat) (free0_1 : Option Addr) (w : World) (R : Ending → World → Prop) (h :
  V.ptr free0_1 fun a2 =>
  ∃ A3, ∃ A3l, ∃ A3c, World.cell? w a2 = some (Value.slice A3 A3l A3c) ∧
  ∃ I4 : Int → World → Prop, ∃ μ5 : Int → World → Nat, I4 0 w ∧
  ∀ t7_6 (j7 : Nat → Value) (w8 : World), I4 t7_6 w8 →
  (V.sel (decide (t7_6 < ((A3l : Nat) : Int)))
  (V.when (decide ((0 : Int) ≤ t7_6 ∧ (t7_6 : Int) < ((A3l : Nat) : Int))) (V.ptr A3 fun a9 =>
  ∃ s10, ∃ s11, ∃ s12, ∃ b13, ∃ b14, V.cellsC (fun a_ x_ => World.cell? w8 a_ = some x_) (Addr.add a9 ((Int.toNat t7_6) * 5)) [(Value.string s10), (Value.string s11), (Value.string s12), (Value.bool b13), (Value.bool b14)] ∧
  ∀ w15, w15 = (World.alloc w8 (.cells #[(Value.string ByteArray.empty), (Value.string ByteArray.empty), (Value.string ByteArray.empty), (Value.bool false), (Value.bool false)] 59)) →
  ∃ w16, Sem.run Tryz.prog (Instr.storeAt 59 (Value.pointer (some ⟨Array.size (World.heap w8), 0, none⟩)) (Value.agg #[(Value.string s10), (Value.string s11), (Value.string s12), (Value.bool b13), (Value.bool b14)])) w15 = .ok () w16 ∧
  ∃ s17, ∃ s18, ∃ s19, ∃ b20, ∃ b21, V.cellsC (fun a_ x_ => World.cell? w16 a_ = some x_) ⟨Array.size (World.heap w8), 0, none⟩ [(Value.string s17), (Value.string s18), (Value.string s19), (Value.bool b20), (Value.bool b21)] ∧
  V.Yield Tryz.prog yl [(Value.agg #[(Value.string s17), (Value.string s18), (Value.string s19), (Value.bool b20), (Value.bool b21)])] w16 fun e23 w24 =>
  ∃ b22, e23 = Ending.returned (Value.bool b22) ∧
  V.sel (!b22)
  (R (Ending.returned undef) w24)
  (I4 (IntKind.wrap .i64 (t7_6 + 1)) w24 ∧ μ5 (IntKind.wrap .i64 (t7_6 + 1)) w24 < μ5 t7_6 w8)))
  (R (Ending.returned undef) w8))) :
  Calls Tryz.prog 31 #[(Value.func (.yield yl) #[] #[]), (Value.pointer free0_1)] w R :=
  V.calls_of_R ⟨V.assoc [(0, [7])], V.assocP [], V.assocC [], V.assocS [], ⟨[], true⟩⟩ Tryz.func31 rfl (Eq.mp (by kernel_rfl) h)

theorem labels_Make_nf (list_1 : Option Addr) (list_1l : Nat) (list_1c : Nat) (w : World) (R : Ending → World → Prop) (h :
  V.sel (decide (((list_1l : Nat) : Int) > 32))
  (R (Ending.returned (Value.tuple #[(Value.slice none 0 0), (Value.string ByteArray.empty), (Value.int .i64 34)])) w)
  (∀ w2, w2 = (World.alloc w (.map #[] 0)) →
  ∃ I3 : Int → World → Prop, ∃ μ4 : Int → World → Nat, I3 0 w2 ∧
  ∀ t16_5 (j6 : Nat → Value) (w7 : World), I3 t16_5 w7 →
  (V.sel (decide (t16_5 < ((list_1l : Nat) : Int)))
  (V.when (decide ((0 : Int) ≤ t16_5 ∧ (t16_5 : Int) < ((list_1l : Nat) : Int))) (V.ptr list_1 fun a8 =>
  ∃ s9, ∃ s10, V.cellsC (fun a_ x_ => World.cell? w7 a_ = some x_) (Addr.add a8 ((Int.toNat t16_5) * 2)) [(Value.string s9), (Value.string s10)] ∧
  ∀ w11, w11 = (World.alloc w7 (.cells #[(Value.string ByteArray.empty), (Value.string ByteArray.empty)] 40)) →
  ∃ w12, Sem.run Tryz.prog (Instr.storeAt 40 (Value.pointer (some ⟨Array.size (World.heap w7), 0, none⟩)) (Value.agg #[(Value.string s9), (Value.string s10)])) w11 = .ok () w12 ∧
  ∃ s13, World.cell? w12 (Addr.add ⟨Array.size (World.heap w7), 0, none⟩ 0) = some (Value.string s13) ∧
  Calls Tryz.prog 10 #[(Value.string s13)] w12 fun e15 w16 =>
  ∃ b14, e15 = Ending.returned (Value.bool b14) ∧
  V.sel (!b14)
  (∃ s17, World.cell? w16 (Addr.add ⟨Array.size (World.heap w7), 0, none⟩ 0) = some (Value.string s17) ∧
  R (Ending.returned (Value.tuple #[(Value.slice none 0 0), (Value.string s17), (Value.int .i64 31)])) (World.drew w16))
  (∃ s18, World.cell? w16 (Addr.add ⟨Array.size (World.heap w7), 0, none⟩ 1) = some (Value.string s18) ∧
  Calls Tryz.prog 27 #[(Value.string s18)] w16 fun e20 w21 =>
  ∃ b19, e20 = Ending.returned (Value.bool b19) ∧
  V.sel (!b19)
  (∃ s22, World.cell? w21 (Addr.add ⟨Array.size (World.heap w7), 0, none⟩ 0) = some (Value.string s22) ∧
  R (Ending.returned (Value.tuple #[(Value.slice none 0 0), (Value.string s22), (Value.int .i64 32)])) (World.drew w21))
  (∃ s23, World.cell? w21 (Addr.add ⟨Array.size (World.heap w7), 0, none⟩ 0) = some (Value.string s23) ∧
  ∃ b24, ∃ w25, Sem.run Tryz.prog (Instr.lookup 78 (Value.map (some (Array.size (World.heap w)))) (Value.string s23) true) w21 = .ok (Value.tuple #[(Value.agg #[]), (Value.bool b24)]) w25 ∧
  ∀ w26, w26 = (World.alloc w25 (.cells #[] 79)) →
  ∃ w27, Sem.run Tryz.prog (Instr.storeAt 79 (Value.pointer (some ⟨Array.size (World.heap w25), 0, none⟩)) (Value.agg #[])) w26 = .ok () w27 ∧
  V.sel b24
  (∃ s28, World.cell? w27 (Addr.add ⟨Array.size (World.heap w7), 0, none⟩ 0) = some (Value.string s28) ∧
  R (Ending.returned (Value.tuple #[(Value.slice none 0 0), (Value.string s28), (Value.int .i64 33)])) (World.drew w27))
  (∃ s29, World.cell? w27 (Addr.add ⟨Array.size (World.heap w7), 0, none⟩ 0) = some (Value.string s29) ∧
  ∃ w30, Sem.run Tryz.prog (Instr.mapUpdate 78 (Value.map (some (Array.size (World.heap w)))) (Value.string s29) (Value.agg #[])) w27 = .ok () w30 ∧
  I3 (IntKind.wrap .i64 (t16_5 + 1)) w30 ∧ μ4 (IntKind.wrap .i64 (t16_5 + 1)) w30 < μ4 t16_5 w7)))))
  (Calls Tryz.prog 28 #[(Value.slice list_1 list_1l list_1c)] w7 fun e32 w33 =>
  ∃ A31, ∃ A31l, ∃ A31c, e32 = Ending.returned (Value.slice A31 A31l A31c) ∧
  R (Ending.returned (Value.tuple #[(Value.slice A31 A31l A31c), (Value.string ByteArray.empty), (Value.int .i64 0)])) w33)))) :
  Calls Tryz.prog 32 #[(Value.slice list_1 list_1l list_1c)] w R :=
  V.calls_of_R ⟨V.assoc [(0, [16])], V.assocP [(8, V.line [0, 1, 2, 3, 4]), (10, V.line [0, 1, 2, 3, 4]), (13, V.line [0, 1, 2, 3, 4])], V.assocC [], V.assocS [], ⟨[], true⟩⟩ Tryz.func32 rfl (Eq.mp (by kernel_rfl) h)

theorem labels_Put_nf (list_1 : Option Addr) (list_1l : Nat) (list_1c : Nat) (key_2 : ByteArray) (value_3 : ByteArray) (w : World) (R : Ending → World → Prop) (h :
  Calls Tryz.prog 29 #[(Value.slice list_1 list_1l list_1c)] w fun e6 w7 =>
  ∃ n4, ∃ n5, e6 = Ending.returned (Value.tuple #[(Value.int .i64 n4), (Value.int .i64 n5)]) ∧
  V.sel (n5 != 0)
  (R (Ending.returned (Value.tuple #[(Value.slice none 0 0), (Value.int .i64 n5)])) w7)
  (Calls Tryz.prog 10 #[(Value.string key_2)] w7 fun e9 w10 =>
  ∃ b8, e9 = Ending.returned (Value.bool b8) ∧
  V.sel (!b8)
  (R (Ending.returned (Value.tuple #[(Value.slice none 0 0), (Value.int .i64 31)])) w10)
  (Calls Tryz.prog 27 #[(Value.string value_3)] w10 fun e12 w13 =>
  ∃ b11, e12 = Ending.returned (Value.bool b11) ∧
  V.sel (!b11)
  (R (Ending.returned (Value.tuple #[(Value.slice none 0 0), (Value.int .i64 32)])) w13)
  (Calls Tryz.prog 34 #[(Value.slice list_1 list_1l list_1c), (Value.string key_2)] w13 fun e16 w17 =>
  ∃ A14, ∃ A14l, ∃ A14c, ∃ b15, e16 = Ending.returned (Value.tuple #[(Value.slice A14 A14l A14c), (Value.bool b15)]) ∧
  V.sel (!b15)
  (V.sel (((list_1l : Nat) : Int) == 32)
  (R (Ending.returned (Value.tuple #[(Value.slice none 0 0), (Value.int .i64 34)])) w17)
  (∀ w18, w18 = (World.alloc w17 (.cells #[(Value.string key_2), (Value.string value_3)] 40)) →
  ∃ A19, ∃ A19l, ∃ A19c, ∃ w20, Sem.run Tryz.prog (Builtin.append_ #[22, 22] 22 #[(Value.slice A14 A14l A14c), (Value.slice (some ⟨Array.size (World.heap w17), 0, none⟩) 1 1)]) w18 = .ok (Value.slice A19 A19l A19c) w20 ∧
  Calls Tryz.prog 28 #[(Value.slice A19 A19l A19c)] w20 fun e22 w23 =>
  ∃ A21, ∃ A21l, ∃ A21c, e22 = Ending.returned (Value.slice A21 A21l A21c) ∧
  R (Ending.returned (Value.tuple #[(Value.slice A21 A21l A21c), (Value.int .i64 0)])) w23))
  (∀ w24, w24 = (World.alloc w17 (.cells #[(Value.string key_2), (Value.string value_3)] 40)) →
  ∃ A25, ∃ A25l, ∃ A25c, ∃ w26, Sem.run Tryz.prog (Builtin.append_ #[22, 22] 22 #[(Value.slice A14 A14l A14c), (Value.slice (some ⟨Array.size (World.heap w17), 0, none⟩) 1 1)]) w24 = .ok (Value.slice A25 A25l A25c) w26 ∧
  Calls Tryz.prog 28 #[(Value.slice A25 A25l A25c)] w26 fun e28 w29 =>
  ∃ A27, ∃ A27l, ∃ A27c, e28 = Ending.returned (Value.slice A27 A27l A27c) ∧
  R (Ending.returned (Value.tuple #[(Value.slice A27 A27l A27c), (Value.int .i64 0)])) w29))))) :
  Calls Tryz.prog 33 #[(Value.slice list_1 list_1l list_1c), (Value.string key_2), (Value.string value_3)] w R :=
  V.calls_of_R ⟨V.assoc [], V.assocP [], V.assocC [], V.assocS [], ⟨[], true⟩⟩ Tryz.func33 rfl (Eq.mp (by kernel_rfl) h)

theorem labels_Del_nf (list_1 : Option Addr) (list_1l : Nat) (list_1c : Nat) (key_2 : ByteArray) (w : World) (R : Ending → World → Prop) (h :
  V.when (decide ((0 : Int) ≤ 0 ∧ (0 : Int) ≤ ((list_1l : Nat) : Int) ∧ (((list_1l : Nat) : Int) : Int) ≤ 281474976710656 ∧ (32 : Int) * ((list_1l : Nat) : Int) ≤ 281474976710656)) (∀ w3, w3 = (World.alloc w (.cells ⟨V.rep (list_1l : Nat) [(Value.string ByteArray.empty), (Value.string ByteArray.empty)]⟩ 40)) →
  ∃ I4 : Option Addr → Nat → Nat → Int → World → Prop, ∃ μ5 : Option Addr → Nat → Nat → Int → World → Nat, I4 (some ⟨Array.size (World.heap w), 0, none⟩) 0 (list_1l : Nat) 0 w3 ∧
  ∀ out_6 out_6l out_6c t14_7 (j8 : Nat → Value) (w9 : World), I4 out_6 out_6l out_6c t14_7 w9 →
  (V.sel (decide (t14_7 < ((list_1l : Nat) : Int)))
  (V.when (decide ((0 : Int) ≤ t14_7 ∧ (t14_7 : Int) < ((list_1l : Nat) : Int))) (V.ptr list_1 fun a10 =>
  ∃ s11, ∃ s12, V.cellsC (fun a_ x_ => World.cell? w9 a_ = some x_) (Addr.add a10 ((Int.toNat t14_7) * 2)) [(Value.string s11), (Value.string s12)] ∧
  ∀ w13, w13 = (World.alloc w9 (.cells #[(Value.string ByteArray.empty), (Value.string ByteArray.empty)] 40)) →
  ∃ w14, Sem.run Tryz.prog (Instr.storeAt 40 (Value.pointer (some ⟨Array.size (World.heap w9), 0, none⟩)) (Value.agg #[(Value.string s11), (Value.string s12)])) w13 = .ok () w14 ∧
  ∃ s15, World.cell? w14 (Addr.add ⟨Array.size (World.heap w9), 0, none⟩ 0) = some (Value.string s15) ∧
  V.sel (!(ByteArray.toList s15 == ByteArray.toList key_2))
  (∃ s16, ∃ s17, V.cellsC (fun a_ x_ => World.cell? w14 a_ = some x_) ⟨Array.size (World.heap w9), 0, none⟩ [(Value.string s16), (Value.string s17)] ∧
  ∀ w18, w18 = (World.alloc w14 (.cells #[(Value.string s16), (Value.string s17)] 40)) →
  ∃ A19, ∃ A19l, ∃ A19c, ∃ w20, Sem.run Tryz.prog (Builtin.append_ #[22, 22] 22 #[(Value.slice out_6 out_6l out_6c), (Value.slice (some ⟨Array.size (World.heap w14), 0, none⟩) 1 1)]) w18 = .ok (Value.slice A19 A19l A19c) w20 ∧
  I4 A19 A19l A19c (IntKind.wrap .i64 (t14_7 + 1)) w20 ∧ μ5 A19 A19l A19c (IntKind.wrap .i64 (t14_7 + 1)) w20 < μ5 out_6 out_6l out_6c t14_7 w9)
  (I4 out_6 out_6l out_6c (IntKind.wrap .i64 (t14_7 + 1)) w14 ∧ μ5 out_6 out_6l out_6c (IntKind.wrap .i64 (t14_7 + 1)) w14 < μ5 out_6 out_6l out_6c t14_7 w9)))
  (Calls Tryz.prog 52 #[(Value.slice out_6 out_6l out_6c)] w9 fun e22 w23 =>
  ∃ A21, ∃ A21l, ∃ A21c, e22 = Ending.returned (Value.slice A21 A21l A21c) ∧
  R (Ending.returned (Value.tuple #[(Value.slice A21 A21l A21c), (Value.bool (decide (((out_6l : Nat) : Int) < ((list_1l : Nat) : Int))))])) w23)))) :
  Calls Tryz.prog 34 #[(Value.slice list_1 list_1l list_1c), (Value.string key_2)] w R :=
  V.calls_of_R ⟨V.assoc [(0, [6, 14])], V.assocP [], V.assocC [], V.assocS [], ⟨[], true⟩⟩ Tryz.func34 rfl (Eq.mp (by kernel_rfl) h)

theorem labels_Patch_nf (list_1 : Option Addr) (list_1l : Nat) (list_1c : Nat) (diffs_2 : Option Addr) (diffs_2l : Nat) (diffs_2c : Nat) (w : World) (R : Ending → World → Prop) (h :
  Calls Tryz.prog 29 #[(Value.slice list_1 list_1l list_1c)] w fun e5 w6 =>
  ∃ n3, ∃ n4, e5 = Ending.returned (Value.tuple #[(Value.int .i64 n3), (Value.int .i64 n4)]) ∧
  V.sel (n4 != 0)
  (R (Ending.returned (Value.tuple #[(Value.slice none 0 0), (Value.int .i64 n4)])) w6)
  (Calls Tryz.prog 49 #[(Value.slice list_1 list_1l list_1c)] w6 fun e8 w9 =>
  ∃ A7, ∃ A7l, ∃ A7c, e8 = Ending.returned (Value.slice A7 A7l A7c) ∧
  ∃ I10 : Option Addr → Nat → Nat → Int → World → Prop, ∃ μ11 : Option Addr → Nat → Nat → Int → World → Nat, I10 A7 A7l A7c 0 w9 ∧
  ∀ out_12 out_12l out_12c t24_13 (j14 : Nat → Value) (w15 : World), I10 out_12 out_12l out_12c t24_13 w15 →
  (V.sel (decide (t24_13 < ((diffs_2l : Nat) : Int)))
  (V.when (decide ((0 : Int) ≤ t24_13 ∧ (t24_13 : Int) < ((diffs_2l : Nat) : Int))) (V.ptr diffs_2 fun a16 =>
  ∃ s17, ∃ s18, ∃ s19, ∃ b20, ∃ b21, V.cellsC (fun a_ x_ => World.cell? w15 a_ = some x_) (Addr.add a16 ((Int.toNat t24_13) * 5)) [(Value.string s17), (Value.string s18), (Value.string s19), (Value.bool b20), (Value.bool b21)] ∧
  ∀ w22, w22 = (World.alloc w15 (.cells #[(Value.string ByteArray.empty), (Value.string ByteArray.empty), (Value.string ByteArray.empty), (Value.bool false), (Value.bool false)] 59)) →
  ∃ w23, Sem.run Tryz.prog (Instr.storeAt 59 (Value.pointer (some ⟨Array.size (World.heap w15), 0, none⟩)) (Value.agg #[(Value.string s17), (Value.string s18), (Value.string s19), (Value.bool b20), (Value.bool b21)])) w22 = .ok () w23 ∧
  ∃ s24, World.cell? w23 (Addr.add ⟨Array.size (World.heap w15), 0, none⟩ 0) = some (Value.string s24) ∧
  Calls Tryz.prog 10 #[(Value.string s24)] w23 fun e26 w27 =>
  ∃ b25, e26 = Ending.returned (Value.bool b25) ∧
  V.sel (!b25)
  (R (Ending.returned (Value.tuple #[(Value.slice none 0 0), (Value.int .i64 31)])) w27)
  (V.sel (decide (t24_13 > 0))
  (∃ s28, World.cell? w27 (Addr.add ⟨Array.size (World.heap w15), 0, none⟩ 0) = some (Value.string s28) ∧
  V.when (decide ((0 : Int) ≤ (IntKind.wrap .i64 (t24_13 - 1)) ∧ ((IntKind.wrap .i64 (t24_13 - 1)) : Int) < ((diffs_2l : Nat) : Int))) (V.ptr diffs_2 fun a29 =>
  ∃ s30, World.cell? w27 (Addr.add (Addr.add a29 ((Int.toNat (IntKind.wrap .i64 (t24_13 - 1))) * 5)) 0) = some (Value.string s30) ∧
  V.sel (ByteArray.toList s28 == ByteArray.toList s30)
  (R (Ending.returned (Value.tuple #[(Value.slice none 0 0), (Value.int .i64 33)])) (World.drew w27))
  (V.sel (decide (t24_13 > 0))
  (∃ s31, World.cell? (World.drew w27) (Addr.add ⟨Array.size (World.heap w15), 0, none⟩ 0) = some (Value.string s31) ∧
  V.when (decide ((0 : Int) ≤ (IntKind.wrap .i64 (t24_13 - 1)) ∧ ((IntKind.wrap .i64 (t24_13 - 1)) : Int) < ((diffs_2l : Nat) : Int))) (V.ptr diffs_2 fun a32 =>
  ∃ s33, World.cell? (World.drew w27) (Addr.add (Addr.add a32 ((Int.toNat (IntKind.wrap .i64 (t24_13 - 1))) * 5)) 0) = some (Value.string s33) ∧
  V.sel (Op.bytesLess (ByteArray.toList s31) (ByteArray.toList s33))
  (R (Ending.returned (Value.tuple #[(Value.slice none 0 0), (Value.int .i64 36)])) (World.drew (World.drew w27)))
  (∃ s34, ∃ s35, ∃ s36, ∃ b37, ∃ b38, V.cellsC (fun a_ x_ => World.cell? (World.drew (World.drew w27)) a_ = some x_) ⟨Array.size (World.heap w15), 0, none⟩ [(Value.string s34), (Value.string s35), (Value.string s36), (Value.bool b37), (Value.bool b38)] ∧
  Calls Tryz.prog 53 #[(Value.slice list_1 list_1l list_1c), (Value.agg #[(Value.string s34), (Value.string s35), (Value.string s36), (Value.bool b37), (Value.bool b38)])] (World.drew (World.drew w27)) fun e40 w41 =>
  ∃ n39, e40 = Ending.returned (Value.int .i64 n39) ∧
  V.sel (n39 != 0)
  (R (Ending.returned (Value.tuple #[(Value.slice none 0 0), (Value.int .i64 n39)])) w41)
  (∃ b42, World.cell? w41 (Addr.add ⟨Array.size (World.heap w15), 0, none⟩ 3) = some (Value.bool b42) ∧
  V.sel b42
  (∃ s43, World.cell? w41 (Addr.add ⟨Array.size (World.heap w15), 0, none⟩ 0) = some (Value.string s43) ∧
  Calls Tryz.prog 34 #[(Value.slice out_12 out_12l out_12c), (Value.string s43)] w41 fun e46 w47 =>
  ∃ A44, ∃ A44l, ∃ A44c, ∃ b45, e46 = Ending.returned (Value.tuple #[(Value.slice A44 A44l A44c), (Value.bool b45)]) ∧
  ∃ b48, World.cell? w47 (Addr.add ⟨Array.size (World.heap w15), 0, none⟩ 4) = some (Value.bool b48) ∧
  V.sel b48
  (∃ s49, World.cell? w47 (Addr.add ⟨Array.size (World.heap w15), 0, none⟩ 0) = some (Value.string s49) ∧
  ∃ s50, World.cell? w47 (Addr.add ⟨Array.size (World.heap w15), 0, none⟩ 2) = some (Value.string s50) ∧
  ∀ w51, w51 = (World.alloc w47 (.cells #[(Value.string s49), (Value.string s50)] 40)) →
  ∃ A52, ∃ A52l, ∃ A52c, ∃ w53, Sem.run Tryz.prog (Builtin.append_ #[22, 22] 22 #[(Value.slice A44 A44l A44c), (Value.slice (some ⟨Array.size (World.heap w47), 0, none⟩) 1 1)]) w51 = .ok (Value.slice A52 A52l A52c) w53 ∧
  I10 A52 A52l A52c (IntKind.wrap .i64 (t24_13 + 1)) w53 ∧ μ11 A52 A52l A52c (IntKind.wrap .i64 (t24_13 + 1)) w53 < μ11 out_12 out_12l out_12c t24_13 w15)
  (I10 A44 A44l A44c (IntKind.wrap .i64 (t24_13 + 1)) w47 ∧ μ11 A44 A44l A44c (IntKind.wrap .i64 (t24_13 + 1)) w47 < μ11 out_12 out_12l out_12c t24_13 w15))
  (∃ b54, World.cell? w41 (Addr.add ⟨Array.size (World.heap w15), 0, none⟩ 4) = some (Value.bool b54) ∧
  V.sel b54
  (∃ s55, World.cell? w41 (Addr.add ⟨Array.size (World.heap w15), 0, none⟩ 0) = some (Value.string s55) ∧
  ∃ s56, World.cell? w41 (Addr.add ⟨Array.size (World.heap w15), 0, none⟩ 2) = some (Value.string s56) ∧
  ∀ w57, w57 = (World.alloc w41 (.cells #[(Value.string s55), (Value.string s56)] 40)) →
  ∃ A58, ∃ A58l, ∃ A58c, ∃ w59, Sem.run Tryz.prog (Builtin.append_ #[22, 22] 22 #[(Value.slice out_12 out_12l out_12c), (Value.slice (some ⟨Array.size (World.heap w41), 0, none⟩) 1 1)]) w57 = .ok (Value.slice A58 A58l A58c) w59 ∧
  I10 A58 A58l A58c (IntKind.wrap .i64 (t24_13 + 1)) w59 ∧ μ11 A58 A58l A58c (IntKind.wrap .i64 (t24_13 + 1)) w59 < μ11 out_12 out_12l out_12c t24_13 w15)
  (I10 out_12 out_12l out_12c (IntKind.wrap .i64 (t24_13 + 1)) w41 ∧ μ11 out_12 out_12l out_12c (IntKind.wrap .i64 (t24_13 + 1)) w41 < μ11 out_12 out_12l out_12c t24_13 w15))))))
  (∃ s60, ∃ s61, ∃ s62, ∃ b63, ∃ b64, V.cellsC (fun a_ x_ => World.cell? (World.drew (World.drew w27)) a_ = some x_) ⟨Array.size (World.heap w15), 0, none⟩ [(Value.string s60), (Value.string s61), (Value.string s62), (Value.bool b63), (Value.bool b64)] ∧
  Calls Tryz.prog 53 #[(Value.slice list_1 list_1l list_1c), (Value.agg #[(Value.string s60), (Value.string s61), (Value.string s62), (Value.bool b63), (Value.bool b64)])] (World.drew (World.drew w27)) fun e66 w67 =>
  ∃ n65, e66 = Ending.returned (Value.int .i64 n65) ∧
  V.sel (n65 != 0)
  (R (Ending.returned (Value.tuple #[(Value.slice none 0 0), (Value.int .i64 n65)])) w67)
  (∃ b68, World.cell? w67 (Addr.add ⟨Array.size (World.heap w15), 0, none⟩ 3) = some (Value.bool b68) ∧
  V.sel b68
  (∃ s69, World.cell? w67 (Addr.add ⟨Array.size (World.heap w15), 0, none⟩ 0) = some (Value.string s69) ∧
  Calls Tryz.prog 34 #[(Value.slice out_12 out_12l out_12c), (Value.string s69)] w67 fun e72 w73 =>
  ∃ A70, ∃ A70l, ∃ A70c, ∃ b71, e72 = Ending.returned (Value.tuple #[(Value.slice A70 A70l A70c), (Value.bool b71)]) ∧
  ∃ b74, World.cell? w73 (Addr.add ⟨Array.size (World.heap w15), 0, none⟩ 4) = some (Value.bool b74) ∧
  V.sel b74
  (∃ s75, World.cell? w73 (Addr.add ⟨Array.size (World.heap w15), 0, none⟩ 0) = some (Value.string s75) ∧
  ∃ s76, World.cell? w73 (Addr.add ⟨Array.size (World.heap w15), 0, none⟩ 2) = some (Value.string s76) ∧
  ∀ w77, w77 = (World.alloc w73 (.cells #[(Value.string s75), (Value.string s76)] 40)) →
  ∃ A78, ∃ A78l, ∃ A78c, ∃ w79, Sem.run Tryz.prog (Builtin.append_ #[22, 22] 22 #[(Value.slice A70 A70l A70c), (Value.slice (some ⟨Array.size (World.heap w73), 0, none⟩) 1 1)]) w77 = .ok (Value.slice A78 A78l A78c) w79 ∧
  I10 A78 A78l A78c (IntKind.wrap .i64 (t24_13 + 1)) w79 ∧ μ11 A78 A78l A78c (IntKind.wrap .i64 (t24_13 + 1)) w79 < μ11 out_12 out_12l out_12c t24_13 w15)
  (I10 A70 A70l A70c (IntKind.wrap .i64 (t24_13 + 1)) w73 ∧ μ11 A70 A70l A70c (IntKind.wrap .i64 (t24_13 + 1)) w73 < μ11 out_12 out_12l out_12c t24_13 w15))
  (∃ b80, World.cell? w67 (Addr.add ⟨Array.size (World.heap w15), 0, none⟩ 4) = some (Value.bool b80) ∧
  V.sel b80
  (∃ s81, World.cell? w67 (Addr.add ⟨Array.size (World.heap w15), 0, none⟩ 0) = some (Value.string s81) ∧
  ∃ s82, World.cell? w67 (Addr.add ⟨Array.size (World.heap w15), 0, none⟩ 2) = some (Value.string s82) ∧
  ∀ w83, w83 = (World.alloc w67 (.cells #[(Value.string s81), (Value.string s82)] 40)) →
  ∃ A84, ∃ A84l, ∃ A84c, ∃ w85, Sem.run Tryz.prog (Builtin.append_ #[22, 22] 22 #[(Value.slice out_12 out_12l out_12c), (Value.slice (some ⟨Array.size (World.heap w67), 0, none⟩) 1 1)]) w83 = .ok (Value.slice A84 A84l A84c) w85 ∧
  I10 A84 A84l A84c (IntKind.wrap .i64 (t24_13 + 1)) w85 ∧ μ11 A84 A84l A84c (IntKind.wrap .i64 (t24_13 + 1)) w85 < μ11 out_12 out_12l out_12c t24_13 w15)
  (I10 out_12 out_12l out_12c (IntKind.wrap .i64 (t24_13 + 1)) w67 ∧ μ11 out_12 out_12l out_12c (IntKind.wrap .i64 (t24_13 + 1)) w67 < μ11 out_12 out_12l out_12c t24_13 w15)))))))
  (V.sel (decide (t24_13 > 0))
  (∃ s86, World.cell? (World.drew w27) (Addr.add ⟨Array.size (World.heap w15), 0, none⟩ 0) = some (Value.string s86) ∧
  V.when (decide ((0 : Int) ≤ (IntKind.wrap .i64 (t24_13 - 1)) ∧ ((IntKind.wrap .i64 (t24_13 - 1)) : Int) < ((diffs_2l : Nat) : Int))) (V.ptr diffs_2 fun a87 =>
  ∃ s88, World.cell? (World.drew w27) (Addr.add (Addr.add a87 ((Int.toNat (IntKind.wrap .i64 (t24_13 - 1))) * 5)) 0) = some (Value.string s88) ∧
  V.sel (Op.bytesLess (ByteArray.toList s86) (ByteArray.toList s88))
  (R (Ending.returned (Value.tuple #[(Value.slice none 0 0), (Value.int .i64 36)])) (World.drew (World.drew w27)))
  (∃ s89, ∃ s90, ∃ s91, ∃ b92, ∃ b93, V.cellsC (fun a_ x_ => World.cell? (World.drew (World.drew w27)) a_ = some x_) ⟨Array.size (World.heap w15), 0, none⟩ [(Value.string s89), (Value.string s90), (Value.string s91), (Value.bool b92), (Value.bool b93)] ∧
  Calls Tryz.prog 53 #[(Value.slice list_1 list_1l list_1c), (Value.agg #[(Value.string s89), (Value.string s90), (Value.string s91), (Value.bool b92), (Value.bool b93)])] (World.drew (World.drew w27)) fun e95 w96 =>
  ∃ n94, e95 = Ending.returned (Value.int .i64 n94) ∧
  V.sel (n94 != 0)
  (R (Ending.returned (Value.tuple #[(Value.slice none 0 0), (Value.int .i64 n94)])) w96)
  (∃ b97, World.cell? w96 (Addr.add ⟨Array.size (World.heap w15), 0, none⟩ 3) = some (Value.bool b97) ∧
  V.sel b97
  (∃ s98, World.cell? w96 (Addr.add ⟨Array.size (World.heap w15), 0, none⟩ 0) = some (Value.string s98) ∧
  Calls Tryz.prog 34 #[(Value.slice out_12 out_12l out_12c), (Value.string s98)] w96 fun e101 w102 =>
  ∃ A99, ∃ A99l, ∃ A99c, ∃ b100, e101 = Ending.returned (Value.tuple #[(Value.slice A99 A99l A99c), (Value.bool b100)]) ∧
  ∃ b103, World.cell? w102 (Addr.add ⟨Array.size (World.heap w15), 0, none⟩ 4) = some (Value.bool b103) ∧
  V.sel b103
  (∃ s104, World.cell? w102 (Addr.add ⟨Array.size (World.heap w15), 0, none⟩ 0) = some (Value.string s104) ∧
  ∃ s105, World.cell? w102 (Addr.add ⟨Array.size (World.heap w15), 0, none⟩ 2) = some (Value.string s105) ∧
  ∀ w106, w106 = (World.alloc w102 (.cells #[(Value.string s104), (Value.string s105)] 40)) →
  ∃ A107, ∃ A107l, ∃ A107c, ∃ w108, Sem.run Tryz.prog (Builtin.append_ #[22, 22] 22 #[(Value.slice A99 A99l A99c), (Value.slice (some ⟨Array.size (World.heap w102), 0, none⟩) 1 1)]) w106 = .ok (Value.slice A107 A107l A107c) w108 ∧
  I10 A107 A107l A107c (IntKind.wrap .i64 (t24_13 + 1)) w108 ∧ μ11 A107 A107l A107c (IntKind.wrap .i64 (t24_13 + 1)) w108 < μ11 out_12 out_12l out_12c t24_13 w15)
  (I10 A99 A99l A99c (IntKind.wrap .i64 (t24_13 + 1)) w102 ∧ μ11 A99 A99l A99c (IntKind.wrap .i64 (t24_13 + 1)) w102 < μ11 out_12 out_12l out_12c t24_13 w15))
  (∃ b109, World.cell? w96 (Addr.add ⟨Array.size (World.heap w15), 0, none⟩ 4) = some (Value.bool b109) ∧
  V.sel b109
  (∃ s110, World.cell? w96 (Addr.add ⟨Array.size (World.heap w15), 0, none⟩ 0) = some (Value.string s110) ∧
  ∃ s111, World.cell? w96 (Addr.add ⟨Array.size (World.heap w15), 0, none⟩ 2) = some (Value.string s111) ∧
  ∀ w112, w112 = (World.alloc w96 (.cells #[(Value.string s110), (Value.string s111)] 40)) →
  ∃ A113, ∃ A113l, ∃ A113c, ∃ w114, Sem.run Tryz.prog (Builtin.append_ #[22, 22] 22 #[(Value.slice out_12 out_12l out_12c), (Value.slice (some ⟨Array.size (World.heap w96), 0, none⟩) 1 1)]) w112 = .ok (Value.slice A113 A113l A113c) w114 ∧
  I10 A113 A113l A113c (IntKind.wrap .i64 (t24_13 + 1)) w114 ∧ μ11 A113 A113l A113c (IntKind.wrap .i64 (t24_13 + 1)) w114 < μ11 out_12 out_12l out_12c t24_13 w15)
  (I10 out_12 out_12l out_12c (IntKind.wrap .i64 (t24_13 + 1)) w96 ∧ μ11 out_12 out_12l out_12c (IntKind.wrap .i64 (t24_13 + 1)) w96 < μ11 out_12 out_12l out_12c t24_13 w15))))))
  (∃ s115, ∃ s116, ∃ s117, ∃ b118, ∃ b119, V.cellsC (fun a_ x_ => World.cell? (World.drew (World.drew w27)) a_ = some x_) ⟨Array.size (World.heap w15), 0, none⟩ [(Value.string s115), (Value.string s116), (Value.string s117), (Value.bool b118), (Value.bool b119)] ∧
  Calls Tryz.prog 53 #[(Value.slice list_1 list_1l list_1c), (Value.agg #[(Value.string s115), (Value.string s116), (Value.string s117), (Value.bool b118), (Value.bool b119)])] (World.drew (World.drew w27)) fun e121 w122 =>
  ∃ n120, e121 = Ending.returned (Value.int .i64 n120) ∧
  V.sel (n120 != 0)
  (R (Ending.returned (Value.tuple #[(Value.slice none 0 0), (Value.int .i64 n120)])) w122)
  (∃ b123, World.cell? w122 (Addr.add ⟨Array.size (World.heap w15), 0, none⟩ 3) = some (Value.bool b123) ∧
  V.sel b123
  (∃ s124, World.cell? w122 (Addr.add ⟨Array.size (World.heap w15), 0, none⟩ 0) = some (Value.string s124) ∧
  Calls Tryz.prog 34 #[(Value.slice out_12 out_12l out_12c), (Value.string s124)] w122 fun e127 w128 =>
  ∃ A125, ∃ A125l, ∃ A125c, ∃ b126, e127 = Ending.returned (Value.tuple #[(Value.slice A125 A125l A125c), (Value.bool b126)]) ∧
  ∃ b129, World.cell? w128 (Addr.add ⟨Array.size (World.heap w15), 0, none⟩ 4) = some (Value.bool b129) ∧
  V.sel b129
  (∃ s130, World.cell? w128 (Addr.add ⟨Array.size (World.heap w15), 0, none⟩ 0) = some (Value.string s130) ∧
  ∃ s131, World.cell? w128 (Addr.add ⟨Array.size (World.heap w15), 0, none⟩ 2) = some (Value.string s131) ∧
  ∀ w132, w132 = (World.alloc w128 (.cells #[(Value.string s130), (Value.string s131)] 40)) →
  ∃ A133, ∃ A133l, ∃ A133c, ∃ w134, Sem.run Tryz.prog (Builtin.append_ #[22, 22] 22 #[(Value.slice A125 A125l A125c), (Value.slice (some ⟨Array.size (World.heap w128), 0, none⟩) 1 1)]) w132 = .ok (Value.slice A133 A133l A133c) w134 ∧
  I10 A133 A133l A133c (IntKind.wrap .i64 (t24_13 + 1)) w134 ∧ μ11 A133 A133l A133c (IntKind.wrap .i64 (t24_13 + 1)) w134 < μ11 out_12 out_12l out_12c t24_13 w15)
  (I10 A125 A125l A125c (IntKind.wrap .i64 (t24_13 + 1)) w128 ∧ μ11 A125 A125l A125c (IntKind.wrap .i64 (t24_13 + 1)) w128 < μ11 out_12 out_12l out_12c t24_13 w15))
  (∃ b135, World.cell? w122 (Addr.add ⟨Array.size (World.heap w15), 0, none⟩ 4) = some (Value.bool b135) ∧
  V.sel b135
  (∃ s136, World.cell? w122 (Addr.add ⟨Array.size (World.heap w15), 0, none⟩ 0) = some (Value.string s136) ∧
  ∃ s137, World.cell? w122 (Addr.add ⟨Array.size (World.heap w15), 0, none⟩ 2) = some (Value.string s137) ∧
  ∀ w138, w138 = (World.alloc w122 (.cells #[(Value.string s136), (Value.string s137)] 40)) →
  ∃ A139, ∃ A139l, ∃ A139c, ∃ w140, Sem.run Tryz.prog (Builtin.append_ #[22, 22] 22 #[(Value.slice out_12 out_12l out_12c), (Value.slice (some ⟨Array.size (World.heap w122), 0, none⟩) 1 1)]) w138 = .ok (Value.slice A139 A139l A139c) w140 ∧
  I10 A139 A139l A139c (IntKind.wrap .i64 (t24_13 + 1)) w140 ∧ μ11 A139 A139l A139c (IntKind.wrap .i64 (t24_13 + 1)) w140 < μ11 out_12 out_12l out_12c t24_13 w15)
  (I10 out_12 out_12l out_12c (IntKind.wrap .i64 (t24_13 + 1)) w122 ∧ μ11 out_12 out_12l out_12c (IntKind.wrap .i64 (t24_13 + 1)) w122 < μ11 out_12 out_12l out_12c t24_13 w15))))))))
  (V.sel (decide (((out_12l : Nat) : Int) > 32))
  (R (Ending.returned (Value.tuple #[(Value.slice none 0 0), (Value.int .i64 34)])) w15)
  (Calls Tryz.prog 28 #[(Value.slice out_12 out_12l out_12c)] w15 fun e142 w143 =>
  ∃ A141, ∃ A141l, ∃ A141c, e142 = Ending.returned (Value.slice A141 A141l A141c) ∧
  R (Ending.returned (Value.tuple #[(Value.slice A141 A141l A141c), (Value.int .i64 0)])) w143))))) :
  Calls Tryz.prog 35 #[(Value.slice list_1 list_1l list_1c), (Value.slice diffs_2 diffs_2l diffs_2c)] w R :=
  V.calls_of_R ⟨V.assoc [(0, [8, 24])], V.assocP [(10, V.line [0, 1, 2, 3, 4, 5, 6, 7, 8, 9, 10, 11, 12]), (12, V.line [0, 1, 2, 3, 4, 5, 6, 7, 8, 9, 10, 11, 12])], V.assocC [], V.assocS [], ⟨[], true⟩⟩ Tryz.func35 rfl (Eq.mp (by kernel_rfl) h)

theorem berthref03_Make_nf (list_1 : Option Addr) (list_1l : Nat) (list_1c : Nat) (w : World) (R : Ending → World → Prop) (h :
  V.sel (decide (((list_1l : Nat) : Int) > 32))
  (R (Ending.returned (Value.tuple #[(Value.slice none 0 0), (Value.string ByteArray.empty), (Value.int .i64 34)])) w)
  (∃ I2 : Int → World → Prop, ∃ μ3 : Int → World → Nat, I2 0 w ∧
  ∀ i_4 (j5 : Nat → Value) (w6 : World), I2 i_4 w6 →
  (V.sel (decide (i_4 < ((list_1l : Nat) : Int)))
  (V.when (decide ((0 : Int) ≤ i_4 ∧ (i_4 : Int) < ((list_1l : Nat) : Int))) (V.ptr list_1 fun a7 =>
  ∃ s8, World.cell? w6 (Addr.add (Addr.add a7 ((Int.toNat i_4) * 2)) 0) = some (Value.string s8) ∧
  Calls Tryz.prog 54 #[(Value.string s8)] w6 fun e10 w11 =>
  ∃ b9, e10 = Ending.returned (Value.bool b9) ∧
  V.when (decide ((0 : Int) ≤ i_4 ∧ (i_4 : Int) < ((list_1l : Nat) : Int))) (V.ptr list_1 fun a12 =>
  ∃ s13, World.cell? w11 (Addr.add (Addr.add a12 ((Int.toNat i_4) * 2)) 1) = some (Value.string s13) ∧
  Calls Tryz.prog 55 #[(Value.string s13)] w11 fun e15 w16 =>
  ∃ b14, e15 = Ending.returned (Value.bool b14) ∧
  V.when (decide ((0 : Int) ≤ i_4 ∧ (i_4 : Int) < ((list_1l : Nat) : Int))) (V.ptr list_1 fun a17 =>
  ∃ s18, World.cell? w16 (Addr.add (Addr.add a17 ((Int.toNat i_4) * 2)) 0) = some (Value.string s18) ∧
  Calls Tryz.prog 56 #[(Value.slice list_1 list_1l list_1c), (Value.string s18)] w16 fun e20 w21 =>
  ∃ n19, e20 = Ending.returned (Value.int .i64 n19) ∧
  V.sel (!b9)
  (V.when (decide ((0 : Int) ≤ i_4 ∧ (i_4 : Int) < ((list_1l : Nat) : Int))) (V.ptr list_1 fun a22 =>
  ∃ s23, World.cell? w21 (Addr.add (Addr.add a22 ((Int.toNat i_4) * 2)) 0) = some (Value.string s23) ∧
  R (Ending.returned (Value.tuple #[(Value.slice none 0 0), (Value.string s23), (Value.int .i64 31)])) (World.drew w21)))
  (V.sel (!b14)
  (V.when (decide ((0 : Int) ≤ i_4 ∧ (i_4 : Int) < ((list_1l : Nat) : Int))) (V.ptr list_1 fun a24 =>
  ∃ s25, World.cell? w21 (Addr.add (Addr.add a24 ((Int.toNat i_4) * 2)) 0) = some (Value.string s25) ∧
  R (Ending.returned (Value.tuple #[(Value.slice none 0 0), (Value.string s25), (Value.int .i64 32)])) (World.drew w21)))
  (V.sel (decide (n19 < i_4))
  (V.when (decide ((0 : Int) ≤ i_4 ∧ (i_4 : Int) < ((list_1l : Nat) : Int))) (V.ptr list_1 fun a26 =>
  ∃ s27, World.cell? w21 (Addr.add (Addr.add a26 ((Int.toNat i_4) * 2)) 0) = some (Value.string s27) ∧
  R (Ending.returned (Value.tuple #[(Value.slice none 0 0), (Value.string s27), (Value.int .i64 33)])) (World.drew w21)))
  (I2 (IntKind.wrap .i64 (i_4 + 1)) w21 ∧ μ3 (IntKind.wrap .i64 (i_4 + 1)) w21 < μ3 i_4 w6)))))))
  (Calls Tryz.prog 57 #[(Value.slice list_1 list_1l list_1c)] w6 fun e29 w30 =>
  ∃ A28, ∃ A28l, ∃ A28c, e29 = Ending.returned (Value.slice A28 A28l A28c) ∧
  R (Ending.returned (Value.tuple #[(Value.slice A28 A28l A28c), (Value.string ByteArray.empty), (Value.int .i64 0)])) w30)))) :
  Calls Tryz.prog 36 #[(Value.slice list_1 list_1l list_1c)] w R :=
  V.calls_of_R ⟨V.assoc [(0, [5])], V.assocP [(10, V.line [0, 1, 2, 3, 4, 5, 6, 7]), (12, V.line [0, 1, 2, 3, 4, 5, 6, 7]), (14, V.line [0, 1, 2, 3, 4, 5, 6, 7])], V.assocC [], V.assocS [], ⟨[], true⟩⟩ Tryz.func36 rfl (Eq.mp (by kernel_rfl) h)

theorem berthref03_Parse_nf (text_1 : ByteArray) (w : World) (R : Ending → World → Prop) (h :
  V.sel (decide (((ByteArray.size text_1 : Nat) : Int) > 8192))
  (R (Ending.returned (Value.tuple #[(Value.slice none 0 0), (Value.int .i64 0), (Value.int .i64 39)])) w)
  (V.sel (ByteArray.toList text_1 == ByteArray.toList ByteArray.empty)
  (R (Ending.returned (Value.tuple #[(Value.slice none 0 0), (Value.int .i64 0), (Value.int .i64 0)])) w)
  (Calls Tryz.prog 58 #[(Value.string text_1), (Value.int .u8 44)] w fun e3 w4 =>
  ∃ A2, ∃ A2l, ∃ A2c, e3 = Ending.returned (Value.slice A2 A2l A2c) ∧
  ∃ I5 : Option Addr → Nat → Nat → Int → Int → World → Prop, ∃ μ6 : Option Addr → Nat → Nat → Int → Int → World → Nat, I5 none 0 0 0 0 w4 ∧
  ∀ list_7 list_7l list_7c at_8 i_9 (j10 : Nat → Value) (w11 : World), I5 list_7 list_7l list_7c at_8 i_9 w11 →
  (V.sel (decide (i_9 < ((A2l : Nat) : Int)))
  (V.when (decide ((0 : Int) ≤ i_9 ∧ (i_9 : Int) < ((A2l : Nat) : Int))) (V.ptr A2 fun a12 =>
  ∃ s13, World.cell? w11 (Addr.add a12 ((Int.toNat i_9) * 1)) = some (Value.string s13) ∧
  Calls Tryz.prog 58 #[(Value.string s13), (Value.int .u8 61)] w11 fun e15 w16 =>
  ∃ A14, ∃ A14l, ∃ A14c, e15 = Ending.returned (Value.slice A14 A14l A14c) ∧
  V.when (decide ((0 : Int) ≤ 0 ∧ (0 : Int) < ((A14l : Nat) : Int))) (V.ptr A14 fun a17 =>
  ∃ s18, World.cell? w16 (Addr.add a17 0) = some (Value.string s18) ∧
  V.sel (decide (((A14l : Nat) : Int) > 1))
  (V.when (decide ((0 : Int) ≤ i_9 ∧ (i_9 : Int) < ((A2l : Nat) : Int))) (V.ptr A2 fun a19 =>
  ∃ s20, World.cell? w16 (Addr.add a19 ((Int.toNat i_9) * 1)) = some (Value.string s20) ∧
  V.when (decide ((0 : Int) ≤ (IntKind.wrap .i64 (((ByteArray.size s18 : Nat) : Int) + 1)) ∧ ((IntKind.wrap .i64 (((ByteArray.size s18 : Nat) : Int) + 1)) : Int) ≤ (((ByteArray.size s20) : Nat) : Int))) (Calls Tryz.prog 54 #[(Value.string s18)] w16 fun e22 w23 =>
  ∃ b21, e22 = Ending.returned (Value.bool b21) ∧
  Calls Tryz.prog 55 #[(Value.string (ByteArray.extract s20 (Int.toNat (IntKind.wrap .i64 (((ByteArray.size s18 : Nat) : Int) + 1))) (ByteArray.size s20)))] w23 fun e25 w26 =>
  ∃ b24, e25 = Ending.returned (Value.bool b24) ∧
  Calls Tryz.prog 56 #[(Value.slice list_7 list_7l list_7c), (Value.string s18)] w26 fun e28 w29 =>
  ∃ n27, e28 = Ending.returned (Value.int .i64 n27) ∧
  V.sel (decide (i_9 ≥ 32))
  (R (Ending.returned (Value.tuple #[(Value.slice none 0 0), (Value.int .i64 at_8), (Value.int .i64 34)])) w29)
  (V.sel (decide (((A14l : Nat) : Int) < 2))
  (R (Ending.returned (Value.tuple #[(Value.slice none 0 0), (Value.int .i64 at_8), (Value.int .i64 35)])) w29)
  (V.sel (!b21)
  (R (Ending.returned (Value.tuple #[(Value.slice none 0 0), (Value.int .i64 at_8), (Value.int .i64 31)])) w29)
  (V.sel (!b24)
  (R (Ending.returned (Value.tuple #[(Value.slice none 0 0), (Value.int .i64 at_8), (Value.int .i64 32)])) w29)
  (V.sel (decide (n27 ≥ 0))
  (R (Ending.returned (Value.tuple #[(Value.slice none 0 0), (Value.int .i64 at_8), (Value.int .i64 33)])) w29)
  (∀ w30, w30 = (World.alloc w29 (.cells #[(Value.string s18), (Value.string (ByteArray.extract s20 (Int.toNat (IntKind.wrap .i64 (((ByteArray.size s18 : Nat) : Int) + 1))) (ByteArray.size s20)))] 40)) →
  ∃ A31, ∃ A31l, ∃ A31c, ∃ w32, Sem.run Tryz.prog (Builtin.append_ #[22, 22] 22 #[(Value.slice list_7 list_7l list_7c), (Value.slice (some ⟨Array.size (World.heap w29), 0, none⟩) 1 1)]) w30 = .ok (Value.slice A31 A31l A31c) w32 ∧
  V.when (decide ((0 : Int) ≤ i_9 ∧ (i_9 : Int) < ((A2l : Nat) : Int))) (V.ptr A2 fun a33 =>
  ∃ s34, World.cell? w32 (Addr.add a33 ((Int.toNat i_9) * 1)) = some (Value.string s34) ∧
  V.lt (IntKind.wrap .i64 ((IntKind.wrap .i64 (at_8 + ((ByteArray.size s34 : Nat) : Int))) + 1)) fun x35 =>
  I5 A31 A31l A31c x35 (IntKind.wrap .i64 (i_9 + 1)) w32 ∧ μ6 A31 A31l A31c x35 (IntKind.wrap .i64 (i_9 + 1)) w32 < μ6 list_7 list_7l list_7c at_8 i_9 w11)))))))))
  (Calls Tryz.prog 54 #[(Value.string s18)] w16 fun e37 w38 =>
  ∃ b36, e37 = Ending.returned (Value.bool b36) ∧
  Calls Tryz.prog 55 #[(Value.string ByteArray.empty)] w38 fun e40 w41 =>
  ∃ b39, e40 = Ending.returned (Value.bool b39) ∧
  Calls Tryz.prog 56 #[(Value.slice list_7 list_7l list_7c), (Value.string s18)] w41 fun e43 w44 =>
  ∃ n42, e43 = Ending.returned (Value.int .i64 n42) ∧
  V.sel (decide (i_9 ≥ 32))
  (R (Ending.returned (Value.tuple #[(Value.slice none 0 0), (Value.int .i64 at_8), (Value.int .i64 34)])) w44)
  (V.sel (decide (((A14l : Nat) : Int) < 2))
  (R (Ending.returned (Value.tuple #[(Value.slice none 0 0), (Value.int .i64 at_8), (Value.int .i64 35)])) w44)
  (V.sel (!b36)
  (R (Ending.returned (Value.tuple #[(Value.slice none 0 0), (Value.int .i64 at_8), (Value.int .i64 31)])) w44)
  (V.sel (!b39)
  (R (Ending.returned (Value.tuple #[(Value.slice none 0 0), (Value.int .i64 at_8), (Value.int .i64 32)])) w44)
  (V.sel (decide (n42 ≥ 0))
  (R (Ending.returned (Value.tuple #[(Value.slice none 0 0), (Value.int .i64 at_8), (Value.int .i64 33)])) w44)
  (∀ w45, w45 = (World.alloc w44 (.cells #[(Value.string s18), (Value.string ByteArray.empty)] 40)) →
  ∃ A46, ∃ A46l, ∃ A46c, ∃ w47, Sem.run Tryz.prog (Builtin.append_ #[22, 22] 22 #[(Value.slice list_7 list_7l list_7c), (Value.slice (some ⟨Array.size (World.heap w44), 0, none⟩) 1 1)]) w45 = .ok (Value.slice A46 A46l A46c) w47 ∧
  V.when (decide ((0 : Int) ≤ i_9 ∧ (i_9 : Int) < ((A2l : Nat) : Int))) (V.ptr A2 fun a48 =>
  ∃ s49, World.cell? w47 (Addr.add a48 ((Int.toNat i_9) * 1)) = some (Value.string s49) ∧
  V.lt (IntKind.wrap .i64 ((IntKind.wrap .i64 (at_8 + ((ByteArray.size s49 : Nat) : Int))) + 1)) fun x50 =>
  I5 A46 A46l A46c x50 (IntKind.wrap .i64 (i_9 + 1)) w47 ∧ μ6 A46 A46l A46c x50 (IntKind.wrap .i64 (i_9 + 1)) w47 < μ6 list_7 list_7l list_7c at_8 i_9 w11))))))))))
  (Calls Tryz.prog 57 #[(Value.slice list_7 list_7l list_7c)] w11 fun e52 w53 =>
  ∃ A51, ∃ A51l, ∃ A51c, e52 = Ending.returned (Value.slice A51 A51l A51c) ∧
  R (Ending.returned (Value.tuple #[(Value.slice A51 A51l A51c), (Value.int .i64 0), (Value.int .i64 0)])) w53))))) :
  Calls Tryz.prog 37 #[(Value.string text_1)] w R :=
  V.calls_of_R ⟨V.assoc [(0, [6, 7, 8])], V.assocP [], V.assocC [], V.assocS [], ⟨[], true⟩⟩ Tryz.func37 rfl (Eq.mp (by kernel_rfl) h)

theorem berthref03_Put_nf (list_1 : Option Addr) (list_1l : Nat) (list_1c : Nat) (key_2 : ByteArray) (value_3 : ByteArray) (w : World) (R : Ending → World → Prop) (h :
  Calls Tryz.prog 59 #[(Value.slice list_1 list_1l list_1c)] w fun e6 w7 =>
  ∃ n4, ∃ n5, e6 = Ending.returned (Value.tuple #[(Value.int .i64 n4), (Value.int .i64 n5)]) ∧
  Calls Tryz.prog 54 #[(Value.string key_2)] w7 fun e9 w10 =>
  ∃ b8, e9 = Ending.returned (Value.bool b8) ∧
  Calls Tryz.prog 55 #[(Value.string value_3)] w10 fun e12 w13 =>
  ∃ b11, e12 = Ending.returned (Value.bool b11) ∧
  Calls Tryz.prog 56 #[(Value.slice list_1 list_1l list_1c), (Value.string key_2)] w13 fun e15 w16 =>
  ∃ n14, e15 = Ending.returned (Value.int .i64 n14) ∧
  V.sel (n5 != 0)
  (R (Ending.returned (Value.tuple #[(Value.slice none 0 0), (Value.int .i64 n5)])) w16)
  (V.sel (!b8)
  (R (Ending.returned (Value.tuple #[(Value.slice none 0 0), (Value.int .i64 31)])) w16)
  (V.sel (!b11)
  (R (Ending.returned (Value.tuple #[(Value.slice none 0 0), (Value.int .i64 32)])) w16)
  (V.sel (decide (n14 < 0))
  (V.sel (decide (((list_1l : Nat) : Int) ≥ 32))
  (R (Ending.returned (Value.tuple #[(Value.slice none 0 0), (Value.int .i64 34)])) w16)
  (Calls Tryz.prog 60 #[(Value.slice list_1 list_1l list_1c), (Value.string key_2)] w16 fun e18 w19 =>
  ∃ A17, ∃ A17l, ∃ A17c, e18 = Ending.returned (Value.slice A17 A17l A17c) ∧
  ∀ w20, w20 = (World.alloc w19 (.cells #[(Value.string key_2), (Value.string value_3)] 40)) →
  ∃ A21, ∃ A21l, ∃ A21c, ∃ w22, Sem.run Tryz.prog (Builtin.append_ #[22, 22] 22 #[(Value.slice A17 A17l A17c), (Value.slice (some ⟨Array.size (World.heap w19), 0, none⟩) 1 1)]) w20 = .ok (Value.slice A21 A21l A21c) w22 ∧
  Calls Tryz.prog 57 #[(Value.slice A21 A21l A21c)] w22 fun e24 w25 =>
  ∃ A23, ∃ A23l, ∃ A23c, e24 = Ending.returned (Value.slice A23 A23l A23c) ∧
  R (Ending.returned (Value.tuple #[(Value.slice A23 A23l A23c), (Value.int .i64 0)])) w25))
  (Calls Tryz.prog 60 #[(Value.slice list_1 list_1l list_1c), (Value.string key_2)] w16 fun e27 w28 =>
  ∃ A26, ∃ A26l, ∃ A26c, e27 = Ending.returned (Value.slice A26 A26l A26c) ∧
  ∀ w29, w29 = (World.alloc w28 (.cells #[(Value.string key_2), (Value.string value_3)] 40)) →
  ∃ A30, ∃ A30l, ∃ A30c, ∃ w31, Sem.run Tryz.prog (Builtin.append_ #[22, 22] 22 #[(Value.slice A26 A26l A26c), (Value.slice (some ⟨Array.size (World.heap w28), 0, none⟩) 1 1)]) w29 = .ok (Value.slice A30 A30l A30c) w31 ∧
  Calls Tryz.prog 57 #[(Value.slice A30 A30l A30c)] w31 fun e33 w34 =>
  ∃ A32, ∃ A32l, ∃ A32c, e33 = Ending.returned (Value.slice A32 A32l A32c) ∧
  R (Ending.returned (Value.tuple #[(Value.slice A32 A32l A32c), (Value.int .i64 0)])) w34))))) :
  Calls Tryz.prog 38 #[(Value.slice list_1 list_1l list_1c), (Value.string key_2), (Value.string value_3)] w R :=
  V.calls_of_R ⟨V.assoc [], V.assocP [], V.assocC [], V.assocS [], ⟨[], true⟩⟩ Tryz.func38 rfl (Eq.mp (by kernel_rfl) h)

theorem berthref03_Del_nf (list_1 : Option Addr) (list_1l : Nat) (list_1c : Nat) (key_2 : ByteArray) (w : World) (R : Ending → World → Prop) (h :
  Calls Tryz.prog 56 #[(Value.slice list_1 list_1l list_1c), (Value.string key_2)] w fun e4 w5 =>
  ∃ n3, e4 = Ending.returned (Value.int .i64 n3) ∧
  Calls Tryz.prog 60 #[(Value.slice list_1 list_1l list_1c), (Value.string key_2)] w5 fun e7 w8 =>
  ∃ A6, ∃ A6l, ∃ A6c, e7 = Ending.returned (Value.slice A6 A6l A6c) ∧
  R (Ending.returned (Value.tuple #[(Value.slice A6 A6l A6c), (Value.bool (decide (n3 ≥ 0)))])) w8) :
  Calls Tryz.prog 39 #[(Value.slice list_1 list_1l list_1c), (Value.string key_2)] w R :=
  V.calls_of_R ⟨V.assoc [], V.assocP [], V.assocC [], V.assocS [], ⟨[], true⟩⟩ Tryz.func39 rfl (Eq.mp (by kernel_rfl) h)

theorem berthref03_Patch_nf (list_1 : Option Addr) (list_1l : Nat) (list_1c : Nat) (diffs_2 : Option Addr) (diffs_2l : Nat) (diffs_2c : Nat) (w : World) (R : Ending → World → Prop) (h :
  Calls Tryz.prog 59 #[(Value.slice list_1 list_1l list_1c)] w fun e5 w6 =>
  ∃ n3, ∃ n4, e5 = Ending.returned (Value.tuple #[(Value.int .i64 n3), (Value.int .i64 n4)]) ∧
  V.sel (n4 != 0)
  (R (Ending.returned (Value.tuple #[(Value.slice none 0 0), (Value.int .i64 n4)])) w6)
  (∀ w7, w7 = (World.alloc w6 (.cells #[] 40)) →
  ∃ A8, ∃ A8l, ∃ A8c, ∃ w9, Sem.run Tryz.prog (Builtin.append_ #[22, 22] 22 #[(Value.slice (some ⟨Array.size (World.heap w6), 0, none⟩) 0 0), (Value.slice list_1 list_1l list_1c)]) w7 = .ok (Value.slice A8 A8l A8c) w9 ∧
  ∃ I10 : Int → Option Addr → Nat → Nat → Int → World → Prop, ∃ μ11 : Int → Option Addr → Nat → Nat → Int → World → Nat, I10 n4 A8 A8l A8c 0 w9 ∧
  ∀ e_12 out_13 out_13l out_13c i_14 (j15 : Nat → Value) (w16 : World), I10 e_12 out_13 out_13l out_13c i_14 w16 →
  (V.sel (decide (i_14 < ((diffs_2l : Nat) : Int)))
  (V.when (decide ((0 : Int) ≤ i_14 ∧ (i_14 : Int) < ((diffs_2l : Nat) : Int))) (V.ptr diffs_2 fun a17 =>
  ∃ s18, ∃ s19, ∃ s20, ∃ b21, ∃ b22, V.cellsC (fun a_ x_ => World.cell? w16 a_ = some x_) (Addr.add a17 ((Int.toNat i_14) * 5)) [(Value.string s18), (Value.string s19), (Value.string s20), (Value.bool b21), (Value.bool b22)] ∧
  ∀ w23, w23 = (World.alloc w16 (.cells #[(Value.string ByteArray.empty), (Value.string ByteArray.empty), (Value.string ByteArray.empty), (Value.bool false), (Value.bool false)] 59)) →
  ∃ w24, Sem.run Tryz.prog (Instr.storeAt 59 (Value.pointer (some ⟨Array.size (World.heap w16), 0, none⟩)) (Value.agg #[(Value.string s18), (Value.string s19), (Value.string s20), (Value.bool b21), (Value.bool b22)])) w23 = .ok () w24 ∧
  Calls Tryz.prog 61 #[(Value.slice diffs_2 diffs_2l diffs_2c), (Value.int .i64 i_14)] w24 fun e26 w27 =>
  ∃ n25, e26 = Ending.returned (Value.int .i64 n25) ∧
  V.sel (n25 != 0)
  (R (Ending.returned (Value.tuple #[(Value.slice none 0 0), (Value.int .i64 n25)])) w27)
  (∃ s28, World.cell? w27 (Addr.add ⟨Array.size (World.heap w16), 0, none⟩ 0) = some (Value.string s28) ∧
  Calls Tryz.prog 62 #[(Value.slice list_1 list_1l list_1c), (Value.string s28)] w27 fun e31 w32 =>
  ∃ s29, ∃ b30, e31 = Ending.returned (Value.tuple #[(Value.string s29), (Value.bool b30)]) ∧
  ∃ b33, World.cell? w32 (Addr.add ⟨Array.size (World.heap w16), 0, none⟩ 3) = some (Value.bool b33) ∧
  V.sel (!(b30 == b33))
  (R (Ending.returned (Value.tuple #[(Value.slice none 0 0), (Value.int .i64 38)])) w32)
  (∃ s34, World.cell? w32 (Addr.add ⟨Array.size (World.heap w16), 0, none⟩ 1) = some (Value.string s34) ∧
  V.sel (!(ByteArray.toList s29 == ByteArray.toList s34))
  (R (Ending.returned (Value.tuple #[(Value.slice none 0 0), (Value.int .i64 38)])) w32)
  (∃ b35, World.cell? w32 (Addr.add ⟨Array.size (World.heap w16), 0, none⟩ 3) = some (Value.bool b35) ∧
  V.sel b35
  (∃ s36, World.cell? w32 (Addr.add ⟨Array.size (World.heap w16), 0, none⟩ 0) = some (Value.string s36) ∧
  Calls Tryz.prog 60 #[(Value.slice out_13 out_13l out_13c), (Value.string s36)] w32 fun e38 w39 =>
  ∃ A37, ∃ A37l, ∃ A37c, e38 = Ending.returned (Value.slice A37 A37l A37c) ∧
  ∃ b40, World.cell? w39 (Addr.add ⟨Array.size (World.heap w16), 0, none⟩ 4) = some (Value.bool b40) ∧
  V.sel b40
  (∃ s41, World.cell? w39 (Addr.add ⟨Array.size (World.heap w16), 0, none⟩ 0) = some (Value.string s41) ∧
  ∃ s42, World.cell? w39 (Addr.add ⟨Array.size (World.heap w16), 0, none⟩ 2) = some (Value.string s42) ∧
  ∀ w43, w43 = (World.alloc w39 (.cells #[(Value.string s41), (Value.string s42)] 40)) →
  ∃ A44, ∃ A44l, ∃ A44c, ∃ w45, Sem.run Tryz.prog (Builtin.append_ #[22, 22] 22 #[(Value.slice A37 A37l A37c), (Value.slice (some ⟨Array.size (World.heap w39), 0, none⟩) 1 1)]) w43 = .ok (Value.slice A44 A44l A44c) w45 ∧
  I10 n25 A44 A44l A44c (IntKind.wrap .i64 (i_14 + 1)) w45 ∧ μ11 n25 A44 A44l A44c (IntKind.wrap .i64 (i_14 + 1)) w45 < μ11 e_12 out_13 out_13l out_13c i_14 w16)
  (I10 n25 A37 A37l A37c (IntKind.wrap .i64 (i_14 + 1)) w39 ∧ μ11 n25 A37 A37l A37c (IntKind.wrap .i64 (i_14 + 1)) w39 < μ11 e_12 out_13 out_13l out_13c i_14 w16))
  (∃ b46, World.cell? w32 (Addr.add ⟨Array.size (World.heap w16), 0, none⟩ 4) = some (Value.bool b46) ∧
  V.sel b46
  (∃ s47, World.cell? w32 (Addr.add ⟨Array.size (World.heap w16), 0, none⟩ 0) = some (Value.string s47) ∧
  ∃ s48, World.cell? w32 (Addr.add ⟨Array.size (World.heap w16), 0, none⟩ 2) = some (Value.string s48) ∧
  ∀ w49, w49 = (World.alloc w32 (.cells #[(Value.string s47), (Value.string s48)] 40)) →
  ∃ A50, ∃ A50l, ∃ A50c, ∃ w51, Sem.run Tryz.prog (Builtin.append_ #[22, 22] 22 #[(Value.slice out_13 out_13l out_13c), (Value.slice (some ⟨Array.size (World.heap w32), 0, none⟩) 1 1)]) w49 = .ok (Value.slice A50 A50l A50c) w51 ∧
  I10 n25 A50 A50l A50c (IntKind.wrap .i64 (i_14 + 1)) w51 ∧ μ11 n25 A50 A50l A50c (IntKind.wrap .i64 (i_14 + 1)) w51 < μ11 e_12 out_13 out_13l out_13c i_14 w16)
  (I10 n25 out_13 out_13l out_13c (IntKind.wrap .i64 (i_14 + 1)) w32 ∧ μ11 n25 out_13 out_13l out_13c (IntKind.wrap .i64 (i_14 + 1)) w32 < μ11 e_12 out_13 out_13l out_13c i_14 w16)))))))
  (V.sel (decide (((out_13l : Nat) : Int) > 32))
  (R (Ending.returned (Value.tuple #[(Value.slice none 0 0), (Value.int .i64 34)])) w16)
  (Calls Tryz.prog 57 #[(Value.slice out_13 out_13l out_13c)] w16 fun e53 w54 =>
  ∃ A52, ∃ A52l, ∃ A52c, e53 = Ending.returned (Value.slice A52 A52l A52c) ∧
  R (Ending.returned (Value.tuple #[(Value.slice A52 A52l A52c), (Value.int .i64 0)])) w54))))) :
  Calls Tryz.prog 40 #[(Value.slice list_1 list_1l list_1c), (Value.slice diffs_2 diffs_2l diffs_2c)] w R :=
  V.calls_of_R ⟨V.assoc [(0, [7, 8, 9])], V.assocP [], V.assocC [], V.assocS [], ⟨[], true⟩⟩ Tryz.func40 rfl (Eq.mp (by kernel_rfl) h)

theorem internal_stringslite_Cut_nf (s_1 : ByteArray) (sep_2 : ByteArray) (w : World) (R : Ending → World → Prop) (h :
  Calls Tryz.prog 63 #[(Value.string s_1), (Value.string sep_2)] w fun e4 w5 =>
  ∃ n3, e4 = Ending.returned (Value.int .i64 n3) ∧
  V.sel (decide (n3 ≥ 0))
  (V.when (decide ((0 : Int) ≤ n3 ∧ (n3 : Int) ≤ (((ByteArray.size s_1) : Nat) : Int))) (V.when (decide ((0 : Int) ≤ (IntKind.wrap .i64 (n3 + ((ByteArray.size sep_2 : Nat) : Int))) ∧ ((IntKind.wrap .i64 (n3 + ((ByteArray.size sep_2 : Nat) : Int))) : Int) ≤ (((ByteArray.size s_1) : Nat) : Int))) (R (Ending.returned (Value.tuple #[(Value.string (ByteArray.extract s_1 0 (Int.toNat n3))), (Value.string (ByteArray.extract s_1 (Int.toNat (IntKind.wrap .i64 (n3 + ((ByteArray.size sep_2 : Nat) : Int)))) (ByteArray.size s_1))), (Value.bool true)])) (World.drew w5))))
  (R (Ending.returned (Value.tuple #[(Value.string s_1), (Value.string ByteArray.empty), (Value.bool false)])) w5)) :
  Calls Tryz.prog 41 #[(Value.string s_1), (Value.string sep_2)] w R :=
  V.calls_of_R ⟨V.assoc [], V.assocP [(3, V.line [0, 1, 2, 3, 4, 5, 6, 7, 8, 9, 10, 11])], V.assocC [], V.assocS [], ⟨[], true⟩⟩ Tryz.func41 rfl (Eq.mp (by kernel_rfl) h)

theorem labels_low_nf (c_1 : Int) (w : World) (R : Ending → World → Prop) (h :
  V.sel (decide (c_1 ≥ 97))
  (V.sel (decide (c_1 ≤ 122))
  (R (Ending.returned (Value.bool true)) w)
  (V.sel (decide (c_1 ≥ 48))
  (R (Ending.returned (Value.bool (decide (c_1 ≤ 57)))) w)
  (R (Ending.returned (Value.bool false)) w)))
  (V.sel (decide (c_1 ≥ 48))
  (R (Ending.returned (Value.bool (decide (c_1 ≤ 57)))) w)
  (R (Ending.returned (Value.bool false)) w))) :
  Calls Tryz.prog 42 #[(Value.int .u8 c_1)] w R :=
  V.calls_of_R ⟨V.assoc [], V.assocP [], V.assocC [], V.assocS [], ⟨[], true⟩⟩ Tryz.func42 rfl (Eq.mp (by kernel_rfl) h)

theorem labels_word_nf (c_1 : Int) (w : World) (R : Ending → World → Prop) (h :
  Calls Tryz.prog 42 #[(Value.int .u8 c_1)] w fun e3 w4 =>
  ∃ b2, e3 = Ending.returned (Value.bool b2) ∧
  V.sel b2
  (R (Ending.returned (Value.bool true)) w4)
  (V.sel (decide (c_1 ≥ 65))
  (R (Ending.returned (Value.bool (decide (c_1 ≤ 90)))) w4)
  (R (Ending.returned (Value.bool false)) w4))) :
  Calls Tryz.prog 43 #[(Value.int .u8 c_1)] w R :=
  V.calls_of_R ⟨V.assoc [], V.assocP [], V.assocC [], V.assocS [], ⟨[], true⟩⟩ Tryz.func43 rfl (Eq.mp (by kernel_rfl) h)

theorem labels_inner_nf (c_1 : Int) (w : World) (R : Ending → World → Prop) (h :
  Calls Tryz.prog 43 #[(Value.int .u8 c_1)] w fun e3 w4 =>
  ∃ b2, e3 = Ending.returned (Value.bool b2) ∧
  V.sel b2
  (R (Ending.returned (Value.bool true)) w4)
  (V.sel (c_1 == 45)
  (R (Ending.returned (Value.bool true)) w4)
  (V.sel (c_1 == 95)
  (R (Ending.returned (Value.bool true)) w4)
  (R (Ending.returned (Value.bool (c_1 == 46))) w4)))) :
  Calls Tryz.prog 44 #[(Value.int .u8 c_1)] w R :=
  V.calls_of_R ⟨V.assoc [], V.assocP [], V.assocC [], V.assocS [], ⟨[], true⟩⟩ Tryz.func44 rfl (Eq.mp (by kernel_rfl) h)

theorem berthlaw03_texts_nf (o_1 : Int) (o_2 : Option Addr) (o_2l : Nat) (o_2c : Nat) (o_3 : Option Addr) (o_3l : Nat) (o_3c : Nat) (o_4 : Option Addr) (o_4l : Nat) (o_4c : Nat) (o_5 : ByteArray) (o_6 : ByteArray) (o_7 : ByteArray) (o_8 : Int) (w : World) (R : Ending → World → Prop) (h :
  ∀ w9, w9 = (World.alloc w (.cells #[(Value.int .i64 o_1), (Value.slice o_2 o_2l o_2c), (Value.slice o_3 o_3l o_3c), (Value.slice o_4 o_4l o_4c), (Value.string o_5), (Value.string o_6), (Value.string o_7), (Value.int .i64 o_8)] 25)) →
  ∃ n10, World.cell? w9 (Addr.add ⟨Array.size (World.heap w), 0, none⟩ 0) = some (Value.int .i64 n10) ∧
  V.sel (n10 == 1)
  (∃ S11 : World → Prop, S11 (World.drew w9) ∧
  ∃ s13, (∀ w12, S11 w12 → World.cell? w12 (Addr.add ⟨Array.size (World.heap w), 0, none⟩ 4) = some (Value.string s13)) ∧
  ∃ s14, (∀ w12, S11 w12 → World.cell? w12 (Addr.add ⟨Array.size (World.heap w), 0, none⟩ 4) = some (Value.string s14)) ∧
  Calls Tryz.prog 22 #[(Value.string s13)] (World.drew w9) fun e16 w17 =>
  ∃ b15, e16 = Ending.returned (Value.bool b15) ∧
  S11 w17 ∧
  Calls Tryz.prog 64 #[(Value.string s14)] w17 fun e19 w20 =>
  ∃ b18, e19 = Ending.returned (Value.bool b18) ∧
  S11 w20 ∧
  R (Ending.returned (Value.bool (b15 == b18))) w20)
  (V.sel (n10 == 2)
  (∃ S21 : World → Prop, S21 (World.drew w9) ∧
  ∃ s23, (∀ w22, S21 w22 → World.cell? w22 (Addr.add ⟨Array.size (World.heap w), 0, none⟩ 4) = some (Value.string s23)) ∧
  ∃ s24, (∀ w22, S21 w22 → World.cell? w22 (Addr.add ⟨Array.size (World.heap w), 0, none⟩ 4) = some (Value.string s24)) ∧
  Calls Tryz.prog 10 #[(Value.string s23)] (World.drew w9) fun e26 w27 =>
  ∃ b25, e26 = Ending.returned (Value.bool b25) ∧
  S21 w27 ∧
  Calls Tryz.prog 54 #[(Value.string s24)] w27 fun e29 w30 =>
  ∃ b28, e29 = Ending.returned (Value.bool b28) ∧
  S21 w30 ∧
  R (Ending.returned (Value.bool (b25 == b28))) w30)
  (V.sel (n10 == 3)
  (∃ S31 : World → Prop, S31 (World.drew w9) ∧
  ∃ s33, (∀ w32, S31 w32 → World.cell? w32 (Addr.add ⟨Array.size (World.heap w), 0, none⟩ 4) = some (Value.string s33)) ∧
  ∃ s34, (∀ w32, S31 w32 → World.cell? w32 (Addr.add ⟨Array.size (World.heap w), 0, none⟩ 4) = some (Value.string s34)) ∧
  Calls Tryz.prog 27 #[(Value.string s33)] (World.drew w9) fun e36 w37 =>
  ∃ b35, e36 = Ending.returned (Value.bool b35) ∧
  S31 w37 ∧
  Calls Tryz.prog 55 #[(Value.string s34)] w37 fun e39 w40 =>
  ∃ b38, e39 = Ending.returned (Value.bool b38) ∧
  S31 w40 ∧
  R (Ending.returned (Value.bool (b35 == b38))) w40)
  (V.sel (n10 == 4)
  (∃ s41, World.cell? w9 (Addr.add ⟨Array.size (World.heap w), 0, none⟩ 4) = some (Value.string s41) ∧
  Calls Tryz.prog 65 #[(Value.string s41)] w9 fun e44 w45 =>
  ∃ n42, ∃ b43, e44 = Ending.returned (Value.tuple #[(Value.int .i64 n42), (Value.bool b43)]) ∧
  ∃ s46, World.cell? w45 (Addr.add ⟨Array.size (World.heap w), 0, none⟩ 4) = some (Value.string s46) ∧
  Calls Tryz.prog 66 #[(Value.string s46)] w45 fun e49 w50 =>
  ∃ n47, ∃ b48, e49 = Ending.returned (Value.tuple #[(Value.int .i64 n47), (Value.bool b48)]) ∧
  V.sel (n42 == n47)
  (R (Ending.returned (Value.bool (b43 == b48))) w50)
  (R (Ending.returned (Value.bool false)) w50))
  (∃ n51, World.cell? w9 (Addr.add ⟨Array.size (World.heap w), 0, none⟩ 7) = some (Value.int .i64 n51) ∧
  Calls Tryz.prog 67 #[(Value.int .i64 n51)] w9 fun e54 w55 =>
  ∃ s52, ∃ b53, e54 = Ending.returned (Value.tuple #[(Value.string s52), (Value.bool b53)]) ∧
  ∃ n56, World.cell? w55 (Addr.add ⟨Array.size (World.heap w), 0, none⟩ 7) = some (Value.int .i64 n56) ∧
  Calls Tryz.prog 68 #[(Value.int .i64 n56)] w55 fun e59 w60 =>
  ∃ s57, ∃ b58, e59 = Ending.returned (Value.tuple #[(Value.string s57), (Value.bool b58)]) ∧
  V.sel (ByteArray.toList s52 == ByteArray.toList s57)
  (R (Ending.returned (Value.bool (b53 == b58))) w60)
  (R (Ending.returned (Value.bool false)) w60)))))) :
  Calls Tryz.prog 45 #[(Value.agg #[(Value.int .i64 o_1), (Value.slice o_2 o_2l o_2c), (Value.slice o_3 o_3l o_3c), (Value.slice o_4 o_4l o_4c), (Value.string o_5), (Value.string o_6), (Value.string o_7), (Value.int .i64 o_8)])] w R :=
  V.calls_of_R ⟨V.assoc [], V.assocP [(3, V.line [0, 1, 3, 4, 2, 5, 6, 7]), (5, V.line [0, 1, 3, 4, 2, 5, 6, 7]), (7, V.line [0, 1, 3, 4, 2, 5, 6, 7])], V.assocC [], V.assocS [], ⟨[], true⟩⟩ Tryz.func45 rfl (Eq.mp (by kernel_rfl) h)

theorem berthlaw03_lists_nf (o_1 : Int) (o_2 : Option Addr) (o_2l : Nat) (o_2c : Nat) (o_3 : Option Addr) (o_3l : Nat) (o_3c : Nat) (o_4 : Option Addr) (o_4l : Nat) (o_4c : Nat) (o_5 : ByteArray) (o_6 : ByteArray) (o_7 : ByteArray) (o_8 : Int) (w : World) (R : Ending → World → Prop) (h :
  ∀ w9, w9 = (World.alloc w (.cells #[(Value.int .i64 o_1), (Value.slice o_2 o_2l o_2c), (Value.slice o_3 o_3l o_3c), (Value.slice o_4 o_4l o_4c), (Value.string o_5), (Value.string o_6), (Value.string o_7), (Value.int .i64 o_8)] 25)) →
  ∃ n10, World.cell? w9 (Addr.add ⟨Array.size (World.heap w), 0, none⟩ 0) = some (Value.int .i64 n10) ∧
  V.sel (n10 == 6)
  (∃ A11, ∃ A11l, ∃ A11c, World.cell? w9 (Addr.add ⟨Array.size (World.heap w), 0, none⟩ 1) = some (Value.slice A11 A11l A11c) ∧
  Calls Tryz.prog 69 #[(Value.slice A11 A11l A11c)] w9 fun e13 w14 =>
  ∃ A12, ∃ A12l, ∃ A12c, e13 = Ending.returned (Value.slice A12 A12l A12c) ∧
  Calls Tryz.prog 29 #[(Value.slice A12 A12l A12c)] w14 fun e17 w18 =>
  ∃ n15, ∃ n16, e17 = Ending.returned (Value.tuple #[(Value.int .i64 n15), (Value.int .i64 n16)]) ∧
  ∃ A19, ∃ A19l, ∃ A19c, World.cell? w18 (Addr.add ⟨Array.size (World.heap w), 0, none⟩ 1) = some (Value.slice A19 A19l A19c) ∧
  Calls Tryz.prog 59 #[(Value.slice A19 A19l A19c)] w18 fun e22 w23 =>
  ∃ n20, ∃ n21, e22 = Ending.returned (Value.tuple #[(Value.int .i64 n20), (Value.int .i64 n21)]) ∧
  V.sel (n15 == n20)
  (R (Ending.returned (Value.bool (n16 == n21))) w23)
  (R (Ending.returned (Value.bool false)) w23))
  (V.sel (n10 == 7)
  (∃ A24, ∃ A24l, ∃ A24c, World.cell? w9 (Addr.add ⟨Array.size (World.heap w), 0, none⟩ 1) = some (Value.slice A24 A24l A24c) ∧
  Calls Tryz.prog 69 #[(Value.slice A24 A24l A24c)] w9 fun e26 w27 =>
  ∃ A25, ∃ A25l, ∃ A25c, e26 = Ending.returned (Value.slice A25 A25l A25c) ∧
  Calls Tryz.prog 32 #[(Value.slice A25 A25l A25c)] w27 fun e31 w32 =>
  ∃ A28, ∃ A28l, ∃ A28c, ∃ s29, ∃ n30, e31 = Ending.returned (Value.tuple #[(Value.slice A28 A28l A28c), (Value.string s29), (Value.int .i64 n30)]) ∧
  ∃ A33, ∃ A33l, ∃ A33c, World.cell? w32 (Addr.add ⟨Array.size (World.heap w), 0, none⟩ 1) = some (Value.slice A33 A33l A33c) ∧
  Calls Tryz.prog 36 #[(Value.slice A33 A33l A33c)] w32 fun e37 w38 =>
  ∃ A34, ∃ A34l, ∃ A34c, ∃ s35, ∃ n36, e37 = Ending.returned (Value.tuple #[(Value.slice A34 A34l A34c), (Value.string s35), (Value.int .i64 n36)]) ∧
  Calls Tryz.prog 70 #[(Value.slice A28 A28l A28c), (Value.slice A34 A34l A34c)] w38 fun e40 w41 =>
  ∃ b39, e40 = Ending.returned (Value.bool b39) ∧
  V.sel b39
  (V.sel (ByteArray.toList s29 == ByteArray.toList s35)
  (R (Ending.returned (Value.bool (n30 == n36))) w41)
  (R (Ending.returned (Value.bool false)) w41))
  (R (Ending.returned (Value.bool false)) w41))
  (V.sel (n10 == 8)
  (∃ s42, World.cell? w9 (Addr.add ⟨Array.size (World.heap w), 0, none⟩ 4) = some (Value.string s42) ∧
  Calls Tryz.prog 12 #[(Value.string s42)] w9 fun e46 w47 =>
  ∃ A43, ∃ A43l, ∃ A43c, ∃ n44, ∃ n45, e46 = Ending.returned (Value.tuple #[(Value.slice A43 A43l A43c), (Value.int .i64 n44), (Value.int .i64 n45)]) ∧
  ∃ s48, World.cell? w47 (Addr.add ⟨Array.size (World.heap w), 0, none⟩ 4) = some (Value.string s48) ∧
  Calls Tryz.prog 37 #[(Value.string s48)] w47 fun e52 w53 =>
  ∃ A49, ∃ A49l, ∃ A49c, ∃ n50, ∃ n51, e52 = Ending.returned (Value.tuple #[(Value.slice A49 A49l A49c), (Value.int .i64 n50), (Value.int .i64 n51)]) ∧
  Calls Tryz.prog 70 #[(Value.slice A43 A43l A43c), (Value.slice A49 A49l A49c)] w53 fun e55 w56 =>
  ∃ b54, e55 = Ending.returned (Value.bool b54) ∧
  V.sel b54
  (V.sel (n44 == n50)
  (R (Ending.returned (Value.bool (n45 == n51))) w56)
  (R (Ending.returned (Value.bool false)) w56))
  (R (Ending.returned (Value.bool false)) w56))
  (∃ A57, ∃ A57l, ∃ A57c, World.cell? w9 (Addr.add ⟨Array.size (World.heap w), 0, none⟩ 1) = some (Value.slice A57 A57l A57c) ∧
  Calls Tryz.prog 69 #[(Value.slice A57 A57l A57c)] w9 fun e59 w60 =>
  ∃ A58, ∃ A58l, ∃ A58c, e59 = Ending.returned (Value.slice A58 A58l A58c) ∧
  Calls Tryz.prog 71 #[(Value.slice A58 A58l A58c)] w60 fun e63 w64 =>
  ∃ s61, ∃ n62, e63 = Ending.returned (Value.tuple #[(Value.string s61), (Value.int .i64 n62)]) ∧
  ∃ A65, ∃ A65l, ∃ A65c, World.cell? w64 (Addr.add ⟨Array.size (World.heap w), 0, none⟩ 1) = some (Value.slice A65 A65l A65c) ∧
  Calls Tryz.prog 72 #[(Value.slice A65 A65l A65c)] w64 fun e68 w69 =>
  ∃ s66, ∃ n67, e68 = Ending.returned (Value.tuple #[(Value.string s66), (Value.int .i64 n67)]) ∧
  V.sel (ByteArray.toList s61 == ByteArray.toList s66)
  (R (Ending.returned (Value.bool (n62 == n67))) w69)
  (R (Ending.returned (Value.bool false)) w69))))) :
  Calls Tryz.prog 46 #[(Value.agg #[(Value.int .i64 o_1), (Value.slice o_2 o_2l o_2c), (Value.slice o_3 o_3l o_3c), (Value.slice o_4 o_4l o_4c), (Value.string o_5), (Value.string o_6), (Value.string o_7), (Value.int .i64 o_8)])] w R :=
  V.calls_of_R ⟨V.assoc [], V.assocP [], V.assocC [], V.assocS [], ⟨[], true⟩⟩ Tryz.func46 rfl (Eq.mp (by kernel_rfl) h)

end Go.Proofs.YtcohengppaighaaGreatDoor
