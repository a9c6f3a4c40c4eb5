/- Normal forms of the program's functions, printed by a program of mine; the kernel checks each. -/
import Derived.Test.YtcohengppaighaaDoorProg
import Derived.Test.YtcohengppaighaaDoorV2
set_option linter.unusedVariables false
set_option maxRecDepth 100000
namespace Go.Proofs.YtcohengppaighaaDoor
open Go

theorem labels_diffs_nf (was_1 : Option Addr) (was_1l : Nat) (was_1c : Nat) (now_2 : Option Addr) (now_2l : Nat) (now_2c : Nat) (w : World) (R : Ending → World → Prop) (h :
  ∃ I3 : Option Addr → Nat → Nat → Int → Int → World → Prop, ∃ μ4 : Option Addr → Nat → Nat → Int → Int → World → Nat, I3 none 0 0 0 0 w ∧
  ∀ out_5 out_5l out_5c i_6 j_7 (j8 : Nat → Value) (w9 : World), I3 out_5 out_5l out_5c i_6 j_7 w9 →
  (V.sel (decide (i_6 < ((was_1l : Nat) : Int)))
  (V.sel (j_7 == ((now_2l : Nat) : Int))
  (∃ S10 : World → Prop, S10 (World.drew (World.drew w9)) ∧
  V.when (decide ((0 : Int) ≤ i_6 ∧ (i_6 : Int) < ((was_1l : Nat) : Int))) (V.ptr was_1 fun a12 =>
  ∃ s13, (∀ w11, S10 w11 → World.cell? w11 (Addr.add (Addr.add a12 ((Int.toNat i_6) * 2)) 0) = some (Value.string s13)) ∧
  V.when (decide ((0 : Int) ≤ i_6 ∧ (i_6 : Int) < ((was_1l : Nat) : Int))) (V.ptr was_1 fun a14 =>
  ∃ s15, (∀ w11, S10 w11 → World.cell? w11 (Addr.add (Addr.add a14 ((Int.toNat i_6) * 2)) 1) = some (Value.string s15)) ∧
  ∀ w16, w16 = (World.alloc (World.drew (World.drew w9)) (.cells #[(Value.string s13), (Value.string s15), (Value.string ByteArray.empty), (Value.bool true), (Value.bool false)] 35)) →
  S10 w16 ∧
  ∃ A17, ∃ A17l, ∃ A17c, ∃ w18, Sem.run Tryd.prog (Builtin.append_ #[24, 24] 24 #[(Value.slice out_5 out_5l out_5c), (Value.slice (some ⟨Array.size (World.heap (World.drew (World.drew w9))), 0, none⟩) 1 1)]) w16 = .ok (Value.slice A17 A17l A17c) w18 ∧
  S10 w18 ∧
  I3 A17 A17l A17c (IntKind.wrap .i64 (i_6 + 1)) j_7 w18 ∧ μ4 A17 A17l A17c (IntKind.wrap .i64 (i_6 + 1)) j_7 w18 < μ4 out_5 out_5l out_5c i_6 j_7 w9)))
  (V.sel (decide (i_6 < ((was_1l : Nat) : Int)))
  (V.when (decide ((0 : Int) ≤ i_6 ∧ (i_6 : Int) < ((was_1l : Nat) : Int))) (V.ptr was_1 fun a19 =>
  ∃ s20, World.cell? w9 (Addr.add (Addr.add a19 ((Int.toNat i_6) * 2)) 0) = some (Value.string s20) ∧
  V.when (decide ((0 : Int) ≤ j_7 ∧ (j_7 : Int) < ((now_2l : Nat) : Int))) (V.ptr now_2 fun a21 =>
  ∃ s22, World.cell? w9 (Addr.add (Addr.add a21 ((Int.toNat j_7) * 2)) 0) = some (Value.string s22) ∧
  V.sel (Op.bytesLess (ByteArray.toList s20) (ByteArray.toList s22))
  (∃ S23 : World → Prop, S23 (World.drew (World.drew w9)) ∧
  V.when (decide ((0 : Int) ≤ i_6 ∧ (i_6 : Int) < ((was_1l : Nat) : Int))) (V.ptr was_1 fun a25 =>
  ∃ s26, (∀ w24, S23 w24 → World.cell? w24 (Addr.add (Addr.add a25 ((Int.toNat i_6) * 2)) 0) = some (Value.string s26)) ∧
  V.when (decide ((0 : Int) ≤ i_6 ∧ (i_6 : Int) < ((was_1l : Nat) : Int))) (V.ptr was_1 fun a27 =>
  ∃ s28, (∀ w24, S23 w24 → World.cell? w24 (Addr.add (Addr.add a27 ((Int.toNat i_6) * 2)) 1) = some (Value.string s28)) ∧
  ∀ w29, w29 = (World.alloc (World.drew (World.drew w9)) (.cells #[(Value.string s26), (Value.string s28), (Value.string ByteArray.empty), (Value.bool true), (Value.bool false)] 35)) →
  S23 w29 ∧
  ∃ A30, ∃ A30l, ∃ A30c, ∃ w31, Sem.run Tryd.prog (Builtin.append_ #[24, 24] 24 #[(Value.slice out_5 out_5l out_5c), (Value.slice (some ⟨Array.size (World.heap (World.drew (World.drew w9))), 0, none⟩) 1 1)]) w29 = .ok (Value.slice A30 A30l A30c) w31 ∧
  S23 w31 ∧
  I3 A30 A30l A30c (IntKind.wrap .i64 (i_6 + 1)) j_7 w31 ∧ μ4 A30 A30l A30c (IntKind.wrap .i64 (i_6 + 1)) j_7 w31 < μ4 out_5 out_5l out_5c i_6 j_7 w9)))
  (V.sel (i_6 == ((was_1l : Nat) : Int))
  (∃ S32 : World → Prop, S32 (World.drew (World.drew (World.drew w9))) ∧
  V.when (decide ((0 : Int) ≤ j_7 ∧ (j_7 : Int) < ((now_2l : Nat) : Int))) (V.ptr now_2 fun a34 =>
  ∃ s35, (∀ w33, S32 w33 → World.cell? w33 (Addr.add (Addr.add a34 ((Int.toNat j_7) * 2)) 0) = some (Value.string s35)) ∧
  V.when (decide ((0 : Int) ≤ j_7 ∧ (j_7 : Int) < ((now_2l : Nat) : Int))) (V.ptr now_2 fun a36 =>
  ∃ s37, (∀ w33, S32 w33 → World.cell? w33 (Addr.add (Addr.add a36 ((Int.toNat j_7) * 2)) 1) = some (Value.string s37)) ∧
  ∀ w38, w38 = (World.alloc (World.drew (World.drew (World.drew w9))) (.cells #[(Value.string s35), (Value.string ByteArray.empty), (Value.string s37), (Value.bool false), (Value.bool true)] 35)) →
  S32 w38 ∧
  ∃ A39, ∃ A39l, ∃ A39c, ∃ w40, Sem.run Tryd.prog (Builtin.append_ #[24, 24] 24 #[(Value.slice out_5 out_5l out_5c), (Value.slice (some ⟨Array.size (World.heap (World.drew (World.drew (World.drew w9)))), 0, none⟩) 1 1)]) w38 = .ok (Value.slice A39 A39l A39c) w40 ∧
  S32 w40 ∧
  I3 A39 A39l A39c i_6 (IntKind.wrap .i64 (j_7 + 1)) w40 ∧ μ4 A39 A39l A39c i_6 (IntKind.wrap .i64 (j_7 + 1)) w40 < μ4 out_5 out_5l out_5c i_6 j_7 w9)))
  (V.when (decide ((0 : Int) ≤ j_7 ∧ (j_7 : Int) < ((now_2l : Nat) : Int))) (V.ptr now_2 fun a41 =>
  ∃ s42, World.cell? (World.drew w9) (Addr.add (Addr.add a41 ((Int.toNat j_7) * 2)) 0) = some (Value.string s42) ∧
  V.when (decide ((0 : Int) ≤ i_6 ∧ (i_6 : Int) < ((was_1l : Nat) : Int))) (V.ptr was_1 fun a43 =>
  ∃ s44, World.cell? (World.drew w9) (Addr.add (Addr.add a43 ((Int.toNat i_6) * 2)) 0) = some (Value.string s44) ∧
  V.sel (Op.bytesLess (ByteArray.toList s42) (ByteArray.toList s44))
  (∃ S45 : World → Prop, S45 (World.drew (World.drew (World.drew w9))) ∧
  V.when (decide ((0 : Int) ≤ j_7 ∧ (j_7 : Int) < ((now_2l : Nat) : Int))) (V.ptr now_2 fun a47 =>
  ∃ s48, (∀ w46, S45 w46 → World.cell? w46 (Addr.add (Addr.add a47 ((Int.toNat j_7) * 2)) 0) = some (Value.string s48)) ∧
  V.when (decide ((0 : Int) ≤ j_7 ∧ (j_7 : Int) < ((now_2l : Nat) : Int))) (V.ptr now_2 fun a49 =>
  ∃ s50, (∀ w46, S45 w46 → World.cell? w46 (Addr.add (Addr.add a49 ((Int.toNat j_7) * 2)) 1) = some (Value.string s50)) ∧
  ∀ w51, w51 = (World.alloc (World.drew (World.drew (World.drew w9))) (.cells #[(Value.string s48), (Value.string ByteArray.empty), (Value.string s50), (Value.bool false), (Value.bool true)] 35)) →
  S45 w51 ∧
  ∃ A52, ∃ A52l, ∃ A52c, ∃ w53, Sem.run Tryd.prog (Builtin.append_ #[24, 24] 24 #[(Value.slice out_5 out_5l out_5c), (Value.slice (some ⟨Array.size (World.heap (World.drew (World.drew (World.drew w9)))), 0, none⟩) 1 1)]) w51 = .ok (Value.slice A52 A52l A52c) w53 ∧
  S45 w53 ∧
  I3 A52 A52l A52c i_6 (IntKind.wrap .i64 (j_7 + 1)) w53 ∧ μ4 A52 A52l A52c i_6 (IntKind.wrap .i64 (j_7 + 1)) w53 < μ4 out_5 out_5l out_5c i_6 j_7 w9)))
  (V.when (decide ((0 : Int) ≤ i_6 ∧ (i_6 : Int) < ((was_1l : Nat) : Int))) (V.ptr was_1 fun a54 =>
  ∃ s55, ∃ s56, V.cellsC (fun a_ x_ => World.cell? (World.drew (World.drew w9)) a_ = some x_) (Addr.add a54 ((Int.toNat i_6) * 2)) [(Value.string s55), (Value.string s56)] ∧
  V.when (decide ((0 : Int) ≤ j_7 ∧ (j_7 : Int) < ((now_2l : Nat) : Int))) (V.ptr now_2 fun a57 =>
  ∃ s58, ∃ s59, V.cellsC (fun a_ x_ => World.cell? (World.drew (World.drew w9)) a_ = some x_) (Addr.add a57 ((Int.toNat j_7) * 2)) [(Value.string s58), (Value.string s59)] ∧
  V.sel (!((ByteArray.toList s55 == ByteArray.toList s58) && ((ByteArray.toList s56 == ByteArray.toList s59) && true)))
  (∃ S60 : World → Prop, S60 (World.drew (World.drew (World.drew (World.drew w9)))) ∧
  V.when (decide ((0 : Int) ≤ i_6 ∧ (i_6 : Int) < ((was_1l : Nat) : Int))) (V.ptr was_1 fun a62 =>
  ∃ s63, (∀ w61, S60 w61 → World.cell? w61 (Addr.add (Addr.add a62 ((Int.toNat i_6) * 2)) 0) = some (Value.string s63)) ∧
  V.when (decide ((0 : Int) ≤ i_6 ∧ (i_6 : Int) < ((was_1l : Nat) : Int))) (V.ptr was_1 fun a64 =>
  ∃ s65, (∀ w61, S60 w61 → World.cell? w61 (Addr.add (Addr.add a64 ((Int.toNat i_6) * 2)) 1) = some (Value.string s65)) ∧
  V.when (decide ((0 : Int) ≤ j_7 ∧ (j_7 : Int) < ((now_2l : Nat) : Int))) (V.ptr now_2 fun a66 =>
  ∃ s67, (∀ w61, S60 w61 → World.cell? w61 (Addr.add (Addr.add a66 ((Int.toNat j_7) * 2)) 1) = some (Value.string s67)) ∧
  ∀ w68, w68 = (World.alloc (World.drew (World.drew (World.drew (World.drew w9)))) (.cells #[(Value.string s63), (Value.string s65), (Value.string s67), (Value.bool true), (Value.bool true)] 35)) →
  S60 w68 ∧
  ∃ A69, ∃ A69l, ∃ A69c, ∃ w70, Sem.run Tryd.prog (Builtin.append_ #[24, 24] 24 #[(Value.slice out_5 out_5l out_5c), (Value.slice (some ⟨Array.size (World.heap (World.drew (World.drew (World.drew (World.drew w9))))), 0, none⟩) 1 1)]) w68 = .ok (Value.slice A69 A69l A69c) w70 ∧
  S60 w70 ∧
  I3 A69 A69l A69c (IntKind.wrap .i64 (i_6 + 1)) (IntKind.wrap .i64 (j_7 + 1)) w70 ∧ μ4 A69 A69l A69c (IntKind.wrap .i64 (i_6 + 1)) (IntKind.wrap .i64 (j_7 + 1)) w70 < μ4 out_5 out_5l out_5c i_6 j_7 w9))))
  (I3 out_5 out_5l out_5c (IntKind.wrap .i64 (i_6 + 1)) (IntKind.wrap .i64 (j_7 + 1)) (World.drew (World.drew (World.drew w9))) ∧ μ4 out_5 out_5l out_5c (IntKind.wrap .i64 (i_6 + 1)) (IntKind.wrap .i64 (j_7 + 1)) (World.drew (World.drew (World.drew w9))) < μ4 out_5 out_5l out_5c i_6 j_7 w9)))))))))))
  (V.sel (i_6 == ((was_1l : Nat) : Int))
  (∃ S71 : World → Prop, S71 (World.drew (World.drew (World.drew w9))) ∧
  V.when (decide ((0 : Int) ≤ j_7 ∧ (j_7 : Int) < ((now_2l : Nat) : Int))) (V.ptr now_2 fun a73 =>
  ∃ s74, (∀ w72, S71 w72 → World.cell? w72 (Addr.add (Addr.add a73 ((Int.toNat j_7) * 2)) 0) = some (Value.string s74)) ∧
  V.when (decide ((0 : Int) ≤ j_7 ∧ (j_7 : Int) < ((now_2l : Nat) : Int))) (V.ptr now_2 fun a75 =>
  ∃ s76, (∀ w72, S71 w72 → World.cell? w72 (Addr.add (Addr.add a75 ((Int.toNat j_7) * 2)) 1) = some (Value.string s76)) ∧
  ∀ w77, w77 = (World.alloc (World.drew (World.drew (World.drew w9))) (.cells #[(Value.string s74), (Value.string ByteArray.empty), (Value.string s76), (Value.bool false), (Value.bool true)] 35)) →
  S71 w77 ∧
  ∃ A78, ∃ A78l, ∃ A78c, ∃ w79, Sem.run Tryd.prog (Builtin.append_ #[24, 24] 24 #[(Value.slice out_5 out_5l out_5c), (Value.slice (some ⟨Array.size (World.heap (World.drew (World.drew (World.drew w9)))), 0, none⟩) 1 1)]) w77 = .ok (Value.slice A78 A78l A78c) w79 ∧
  S71 w79 ∧
  I3 A78 A78l A78c i_6 (IntKind.wrap .i64 (j_7 + 1)) w79 ∧ μ4 A78 A78l A78c i_6 (IntKind.wrap .i64 (j_7 + 1)) w79 < μ4 out_5 out_5l out_5c i_6 j_7 w9)))
  (V.when (decide ((0 : Int) ≤ j_7 ∧ (j_7 : Int) < ((now_2l : Nat) : Int))) (V.ptr now_2 fun a80 =>
  ∃ s81, World.cell? (World.drew w9) (Addr.add (Addr.add a80 ((Int.toNat j_7) * 2)) 0) = some (Value.string s81) ∧
  V.when (decide ((0 : Int) ≤ i_6 ∧ (i_6 : Int) < ((was_1l : Nat) : Int))) (V.ptr was_1 fun a82 =>
  ∃ s83, World.cell? (World.drew w9) (Addr.add (Addr.add a82 ((Int.toNat i_6) * 2)) 0) = some (Value.string s83) ∧
  V.sel (Op.bytesLess (ByteArray.toList s81) (ByteArray.toList s83))
  (∃ S84 : World → Prop, S84 (World.drew (World.drew (World.drew w9))) ∧
  V.when (decide ((0 : Int) ≤ j_7 ∧ (j_7 : Int) < ((now_2l : Nat) : Int))) (V.ptr now_2 fun a86 =>
  ∃ s87, (∀ w85, S84 w85 → World.cell? w85 (Addr.add (Addr.add a86 ((Int.toNat j_7) * 2)) 0) = some (Value.string s87)) ∧
  V.when (decide ((0 : Int) ≤ j_7 ∧ (j_7 : Int) < ((now_2l : Nat) : Int))) (V.ptr now_2 fun a88 =>
  ∃ s89, (∀ w85, S84 w85 → World.cell? w85 (Addr.add (Addr.add a88 ((Int.toNat j_7) * 2)) 1) = some (Value.string s89)) ∧
  ∀ w90, w90 = (World.alloc (World.drew (World.drew (World.drew w9))) (.cells #[(Value.string s87), (Value.string ByteArray.empty), (Value.string s89), (Value.bool false), (Value.bool true)] 35)) →
  S84 w90 ∧
  ∃ A91, ∃ A91l, ∃ A91c, ∃ w92, Sem.run Tryd.prog (Builtin.append_ #[24, 24] 24 #[(Value.slice out_5 out_5l out_5c), (Value.slice (some ⟨Array.size (World.heap (World.drew (World.drew (World.drew w9)))), 0, none⟩) 1 1)]) w90 = .ok (Value.slice A91 A91l A91c) w92 ∧
  S84 w92 ∧
  I3 A91 A91l A91c i_6 (IntKind.wrap .i64 (j_7 + 1)) w92 ∧ μ4 A91 A91l A91c i_6 (IntKind.wrap .i64 (j_7 + 1)) w92 < μ4 out_5 out_5l out_5c i_6 j_7 w9)))
  (V.when (decide ((0 : Int) ≤ i_6 ∧ (i_6 : Int) < ((was_1l : Nat) : Int))) (V.ptr was_1 fun a93 =>
  ∃ s94, ∃ s95, V.cellsC (fun a_ x_ => World.cell? (World.drew (World.drew w9)) a_ = some x_) (Addr.add a93 ((Int.toNat i_6) * 2)) [(Value.string s94), (Value.string s95)] ∧
  V.when (decide ((0 : Int) ≤ j_7 ∧ (j_7 : Int) < ((now_2l : Nat) : Int))) (V.ptr now_2 fun a96 =>
  ∃ s97, ∃ s98, V.cellsC (fun a_ x_ => World.cell? (World.drew (World.drew w9)) a_ = some x_) (Addr.add a96 ((Int.toNat j_7) * 2)) [(Value.string s97), (Value.string s98)] ∧
  V.sel (!((ByteArray.toList s94 == ByteArray.toList s97) && ((ByteArray.toList s95 == ByteArray.toList s98) && true)))
  (∃ S99 : World → Prop, S99 (World.drew (World.drew (World.drew (World.drew w9)))) ∧
  V.when (decide ((0 : Int) ≤ i_6 ∧ (i_6 : Int) < ((was_1l : Nat) : Int))) (V.ptr was_1 fun a101 =>
  ∃ s102, (∀ w100, S99 w100 → World.cell? w100 (Addr.add (Addr.add a101 ((Int.toNat i_6) * 2)) 0) = some (Value.string s102)) ∧
  V.when (decide ((0 : Int) ≤ i_6 ∧ (i_6 : Int) < ((was_1l : Nat) : Int))) (V.ptr was_1 fun a103 =>
  ∃ s104, (∀ w100, S99 w100 → World.cell? w100 (Addr.add (Addr.add a103 ((Int.toNat i_6) * 2)) 1) = some (Value.string s104)) ∧
  V.when (decide ((0 : Int) ≤ j_7 ∧ (j_7 : Int) < ((now_2l : Nat) : Int))) (V.ptr now_2 fun a105 =>
  ∃ s106, (∀ w100, S99 w100 → World.cell? w100 (Addr.add (Addr.add a105 ((Int.toNat j_7) * 2)) 1) = some (Value.string s106)) ∧
  ∀ w107, w107 = (World.alloc (World.drew (World.drew (World.drew (World.drew w9)))) (.cells #[(Value.string s102), (Value.string s104), (Value.string s106), (Value.bool true), (Value.bool true)] 35)) →
  S99 w107 ∧
  ∃ A108, ∃ A108l, ∃ A108c, ∃ w109, Sem.run Tryd.prog (Builtin.append_ #[24, 24] 24 #[(Value.slice out_5 out_5l out_5c), (Value.slice (some ⟨Array.size (World.heap (World.drew (World.drew (World.drew (World.drew w9))))), 0, none⟩) 1 1)]) w107 = .ok (Value.slice A108 A108l A108c) w109 ∧
  S99 w109 ∧
  I3 A108 A108l A108c (IntKind.wrap .i64 (i_6 + 1)) (IntKind.wrap .i64 (j_7 + 1)) w109 ∧ μ4 A108 A108l A108c (IntKind.wrap .i64 (i_6 + 1)) (IntKind.wrap .i64 (j_7 + 1)) w109 < μ4 out_5 out_5l out_5c i_6 j_7 w9))))
  (I3 out_5 out_5l out_5c (IntKind.wrap .i64 (i_6 + 1)) (IntKind.wrap .i64 (j_7 + 1)) (World.drew (World.drew (World.drew w9))) ∧ μ4 out_5 out_5l out_5c (IntKind.wrap .i64 (i_6 + 1)) (IntKind.wrap .i64 (j_7 + 1)) (World.drew (World.drew (World.drew w9))) < μ4 out_5 out_5l out_5c i_6 j_7 w9))))))))))
  (V.sel (decide (j_7 < ((now_2l : Nat) : Int)))
  (V.sel (j_7 == ((now_2l : Nat) : Int))
  (∃ S110 : World → Prop, S110 (World.drew (World.drew w9)) ∧
  V.when (decide ((0 : Int) ≤ i_6 ∧ (i_6 : Int) < ((was_1l : Nat) : Int))) (V.ptr was_1 fun a112 =>
  ∃ s113, (∀ w111, S110 w111 → World.cell? w111 (Addr.add (Addr.add a112 ((Int.toNat i_6) * 2)) 0) = some (Value.string s113)) ∧
  V.when (decide ((0 : Int) ≤ i_6 ∧ (i_6 : Int) < ((was_1l : Nat) : Int))) (V.ptr was_1 fun a114 =>
  ∃ s115, (∀ w111, S110 w111 → World.cell? w111 (Addr.add (Addr.add a114 ((Int.toNat i_6) * 2)) 1) = some (Value.string s115)) ∧
  ∀ w116, w116 = (World.alloc (World.drew (World.drew w9)) (.cells #[(Value.string s113), (Value.string s115), (Value.string ByteArray.empty), (Value.bool true), (Value.bool false)] 35)) →
  S110 w116 ∧
  ∃ A117, ∃ A117l, ∃ A117c, ∃ w118, Sem.run Tryd.prog (Builtin.append_ #[24, 24] 24 #[(Value.slice out_5 out_5l out_5c), (Value.slice (some ⟨Array.size (World.heap (World.drew (World.drew w9))), 0, none⟩) 1 1)]) w116 = .ok (Value.slice A117 A117l A117c) w118 ∧
  S110 w118 ∧
  I3 A117 A117l A117c (IntKind.wrap .i64 (i_6 + 1)) j_7 w118 ∧ μ4 A117 A117l A117c (IntKind.wrap .i64 (i_6 + 1)) j_7 w118 < μ4 out_5 out_5l out_5c i_6 j_7 w9)))
  (V.sel (decide (i_6 < ((was_1l : Nat) : Int)))
  (V.when (decide ((0 : Int) ≤ i_6 ∧ (i_6 : Int) < ((was_1l : Nat) : Int))) (V.ptr was_1 fun a119 =>
  ∃ s120, World.cell? w9 (Addr.add (Addr.add a119 ((Int.toNat i_6) * 2)) 0) = some (Value.string s120) ∧
  V.when (decide ((0 : Int) ≤ j_7 ∧ (j_7 : Int) < ((now_2l : Nat) : Int))) (V.ptr now_2 fun a121 =>
  ∃ s122, World.cell? w9 (Addr.add (Addr.add a121 ((Int.toNat j_7) * 2)) 0) = some (Value.string s122) ∧
  V.sel (Op.bytesLess (ByteArray.toList s120) (ByteArray.toList s122))
  (∃ S123 : World → Prop, S123 (World.drew (World.drew w9)) ∧
  V.when (decide ((0 : Int) ≤ i_6 ∧ (i_6 : Int) < ((was_1l : Nat) : Int))) (V.ptr was_1 fun a125 =>
  ∃ s126, (∀ w124, S123 w124 → World.cell? w124 (Addr.add (Addr.add a125 ((Int.toNat i_6) * 2)) 0) = some (Value.string s126)) ∧
  V.when (decide ((0 : Int) ≤ i_6 ∧ (i_6 : Int) < ((was_1l : Nat) : Int))) (V.ptr was_1 fun a127 =>
  ∃ s128, (∀ w124, S123 w124 → World.cell? w124 (Addr.add (Addr.add a127 ((Int.toNat i_6) * 2)) 1) = some (Value.string s128)) ∧
  ∀ w129, w129 = (World.alloc (World.drew (World.drew w9)) (.cells #[(Value.string s126), (Value.string s128), (Value.string ByteArray.empty), (Value.bool true), (Value.bool false)] 35)) →
  S123 w129 ∧
  ∃ A130, ∃ A130l, ∃ A130c, ∃ w131, Sem.run Tryd.prog (Builtin.append_ #[24, 24] 24 #[(Value.slice out_5 out_5l out_5c), (Value.slice (some ⟨Array.size (World.heap (World.drew (World.drew w9))), 0, none⟩) 1 1)]) w129 = .ok (Value.slice A130 A130l A130c) w131 ∧
  S123 w131 ∧
  I3 A130 A130l A130c (IntKind.wrap .i64 (i_6 + 1)) j_7 w131 ∧ μ4 A130 A130l A130c (IntKind.wrap .i64 (i_6 + 1)) j_7 w131 < μ4 out_5 out_5l out_5c i_6 j_7 w9)))
  (V.sel (i_6 == ((was_1l : Nat) : Int))
  (∃ S132 : World → Prop, S132 (World.drew (World.drew (World.drew w9))) ∧
  V.when (decide ((0 : Int) ≤ j_7 ∧ (j_7 : Int) < ((now_2l : Nat) : Int))) (V.ptr now_2 fun a134 =>
  ∃ s135, (∀ w133, S132 w133 → World.cell? w133 (Addr.add (Addr.add a134 ((Int.toNat j_7) * 2)) 0) = some (Value.string s135)) ∧
  V.when (decide ((0 : Int) ≤ j_7 ∧ (j_7 : Int) < ((now_2l : Nat) : Int))) (V.ptr now_2 fun a136 =>
  ∃ s137, (∀ w133, S132 w133 → World.cell? w133 (Addr.add (Addr.add a136 ((Int.toNat j_7) * 2)) 1) = some (Value.string s137)) ∧
  ∀ w138, w138 = (World.alloc (World.drew (World.drew (World.drew w9))) (.cells #[(Value.string s135), (Value.string ByteArray.empty), (Value.string s137), (Value.bool false), (Value.bool true)] 35)) →
  S132 w138 ∧
  ∃ A139, ∃ A139l, ∃ A139c, ∃ w140, Sem.run Tryd.prog (Builtin.append_ #[24, 24] 24 #[(Value.slice out_5 out_5l out_5c), (Value.slice (some ⟨Array.size (World.heap (World.drew (World.drew (World.drew w9)))), 0, none⟩) 1 1)]) w138 = .ok (Value.slice A139 A139l A139c) w140 ∧
  S132 w140 ∧
  I3 A139 A139l A139c i_6 (IntKind.wrap .i64 (j_7 + 1)) w140 ∧ μ4 A139 A139l A139c i_6 (IntKind.wrap .i64 (j_7 + 1)) w140 < μ4 out_5 out_5l out_5c i_6 j_7 w9)))
  (V.when (decide ((0 : Int) ≤ j_7 ∧ (j_7 : Int) < ((now_2l : Nat) : Int))) (V.ptr now_2 fun a141 =>
  ∃ s142, World.cell? (World.drew w9) (Addr.add (Addr.add a141 ((Int.toNat j_7) * 2)) 0) = some (Value.string s142) ∧
  V.when (decide ((0 : Int) ≤ i_6 ∧ (i_6 : Int) < ((was_1l : Nat) : Int))) (V.ptr was_1 fun a143 =>
  ∃ s144, World.cell? (World.drew w9) (Addr.add (Addr.add a143 ((Int.toNat i_6) * 2)) 0) = some (Value.string s144) ∧
  V.sel (Op.bytesLess (ByteArray.toList s142) (ByteArray.toList s144))
  (∃ S145 : World → Prop, S145 (World.drew (World.drew (World.drew w9))) ∧
  V.when (decide ((0 : Int) ≤ j_7 ∧ (j_7 : Int) < ((now_2l : Nat) : Int))) (V.ptr now_2 fun a147 =>
  ∃ s148, (∀ w146, S145 w146 → World.cell? w146 (Addr.add (Addr.add a147 ((Int.toNat j_7) * 2)) 0) = some (Value.string s148)) ∧
  V.when (decide ((0 : Int) ≤ j_7 ∧ (j_7 : Int) < ((now_2l : Nat) : Int))) (V.ptr now_2 fun a149 =>
  ∃ s150, (∀ w146, S145 w146 → World.cell? w146 (Addr.add (Addr.add a149 ((Int.toNat j_7) * 2)) 1) = some (Value.string s150)) ∧
  ∀ w151, w151 = (World.alloc (World.drew (World.drew (World.drew w9))) (.cells #[(Value.string s148), (Value.string ByteArray.empty), (Value.string s150), (Value.bool false), (Value.bool true)] 35)) →
  S145 w151 ∧
  ∃ A152, ∃ A152l, ∃ A152c, ∃ w153, Sem.run Tryd.prog (Builtin.append_ #[24, 24] 24 #[(Value.slice out_5 out_5l out_5c), (Value.slice (some ⟨Array.size (World.heap (World.drew (World.drew (World.drew w9)))), 0, none⟩) 1 1)]) w151 = .ok (Value.slice A152 A152l A152c) w153 ∧
  S145 w153 ∧
  I3 A152 A152l A152c i_6 (IntKind.wrap .i64 (j_7 + 1)) w153 ∧ μ4 A152 A152l A152c i_6 (IntKind.wrap .i64 (j_7 + 1)) w153 < μ4 out_5 out_5l out_5c i_6 j_7 w9)))
  (V.when (decide ((0 : Int) ≤ i_6 ∧ (i_6 : Int) < ((was_1l : Nat) : Int))) (V.ptr was_1 fun a154 =>
  ∃ s155, ∃ s156, V.cellsC (fun a_ x_ => World.cell? (World.drew (World.drew w9)) a_ = some x_) (Addr.add a154 ((Int.toNat i_6) * 2)) [(Value.string s155), (Value.string s156)] ∧
  V.when (decide ((0 : Int) ≤ j_7 ∧ (j_7 : Int) < ((now_2l : Nat) : Int))) (V.ptr now_2 fun a157 =>
  ∃ s158, ∃ s159, V.cellsC (fun a_ x_ => World.cell? (World.drew (World.drew w9)) a_ = some x_) (Addr.add a157 ((Int.toNat j_7) * 2)) [(Value.string s158), (Value.string s159)] ∧
  V.sel (!((ByteArray.toList s155 == ByteArray.toList s158) && ((ByteArray.toList s156 == ByteArray.toList s159) && true)))
  (∃ S160 : World → Prop, S160 (World.drew (World.drew (World.drew (World.drew w9)))) ∧
  V.when (decide ((0 : Int) ≤ i_6 ∧ (i_6 : Int) < ((was_1l : Nat) : Int))) (V.ptr was_1 fun a162 =>
  ∃ s163, (∀ w161, S160 w161 → World.cell? w161 (Addr.add (Addr.add a162 ((Int.toNat i_6) * 2)) 0) = some (Value.string s163)) ∧
  V.when (decide ((0 : Int) ≤ i_6 ∧ (i_6 : Int) < ((was_1l : Nat) : Int))) (V.ptr was_1 fun a164 =>
  ∃ s165, (∀ w161, S160 w161 → World.cell? w161 (Addr.add (Addr.add a164 ((Int.toNat i_6) * 2)) 1) = some (Value.string s165)) ∧
  V.when (decide ((0 : Int) ≤ j_7 ∧ (j_7 : Int) < ((now_2l : Nat) : Int))) (V.ptr now_2 fun a166 =>
  ∃ s167, (∀ w161, S160 w161 → World.cell? w161 (Addr.add (Addr.add a166 ((Int.toNat j_7) * 2)) 1) = some (Value.string s167)) ∧
  ∀ w168, w168 = (World.alloc (World.drew (World.drew (World.drew (World.drew w9)))) (.cells #[(Value.string s163), (Value.string s165), (Value.string s167), (Value.bool true), (Value.bool true)] 35)) →
  S160 w168 ∧
  ∃ A169, ∃ A169l, ∃ A169c, ∃ w170, Sem.run Tryd.prog (Builtin.append_ #[24, 24] 24 #[(Value.slice out_5 out_5l out_5c), (Value.slice (some ⟨Array.size (World.heap (World.drew (World.drew (World.drew (World.drew w9))))), 0, none⟩) 1 1)]) w168 = .ok (Value.slice A169 A169l A169c) w170 ∧
  S160 w170 ∧
  I3 A169 A169l A169c (IntKind.wrap .i64 (i_6 + 1)) (IntKind.wrap .i64 (j_7 + 1)) w170 ∧ μ4 A169 A169l A169c (IntKind.wrap .i64 (i_6 + 1)) (IntKind.wrap .i64 (j_7 + 1)) w170 < μ4 out_5 out_5l out_5c i_6 j_7 w9))))
  (I3 out_5 out_5l out_5c (IntKind.wrap .i64 (i_6 + 1)) (IntKind.wrap .i64 (j_7 + 1)) (World.drew (World.drew (World.drew w9))) ∧ μ4 out_5 out_5l out_5c (IntKind.wrap .i64 (i_6 + 1)) (IntKind.wrap .i64 (j_7 + 1)) (World.drew (World.drew (World.drew w9))) < μ4 out_5 out_5l out_5c i_6 j_7 w9)))))))))))
  (V.sel (i_6 == ((was_1l : Nat) : Int))
  (∃ S171 : World → Prop, S171 (World.drew (World.drew (World.drew w9))) ∧
  V.when (decide ((0 : Int) ≤ j_7 ∧ (j_7 : Int) < ((now_2l : Nat) : Int))) (V.ptr now_2 fun a173 =>
  ∃ s174, (∀ w172, S171 w172 → World.cell? w172 (Addr.add (Addr.add a173 ((Int.toNat j_7) * 2)) 0) = some (Value.string s174)) ∧
  V.when (decide ((0 : Int) ≤ j_7 ∧ (j_7 : Int) < ((now_2l : Nat) : Int))) (V.ptr now_2 fun a175 =>
  ∃ s176, (∀ w172, S171 w172 → World.cell? w172 (Addr.add (Addr.add a175 ((Int.toNat j_7) * 2)) 1) = some (Value.string s176)) ∧
  ∀ w177, w177 = (World.alloc (World.drew (World.drew (World.drew w9))) (.cells #[(Value.string s174), (Value.string ByteArray.empty), (Value.string s176), (Value.bool false), (Value.bool true)] 35)) →
  S171 w177 ∧
  ∃ A178, ∃ A178l, ∃ A178c, ∃ w179, Sem.run Tryd.prog (Builtin.append_ #[24, 24] 24 #[(Value.slice out_5 out_5l out_5c), (Value.slice (some ⟨Array.size (World.heap (World.drew (World.drew (World.drew w9)))), 0, none⟩) 1 1)]) w177 = .ok (Value.slice A178 A178l A178c) w179 ∧
  S171 w179 ∧
  I3 A178 A178l A178c i_6 (IntKind.wrap .i64 (j_7 + 1)) w179 ∧ μ4 A178 A178l A178c i_6 (IntKind.wrap .i64 (j_7 + 1)) w179 < μ4 out_5 out_5l out_5c i_6 j_7 w9)))
  (V.when (decide ((0 : Int) ≤ j_7 ∧ (j_7 : Int) < ((now_2l : Nat) : Int))) (V.ptr now_2 fun a180 =>
  ∃ s181, World.cell? (World.drew w9) (Addr.add (Addr.add a180 ((Int.toNat j_7) * 2)) 0) = some (Value.string s181) ∧
  V.when (decide ((0 : Int) ≤ i_6 ∧ (i_6 : Int) < ((was_1l : Nat) : Int))) (V.ptr was_1 fun a182 =>
  ∃ s183, World.cell? (World.drew w9) (Addr.add (Addr.add a182 ((Int.toNat i_6) * 2)) 0) = some (Value.string s183) ∧
  V.sel (Op.bytesLess (ByteArray.toList s181) (ByteArray.toList s183))
  (∃ S184 : World → Prop, S184 (World.drew (World.drew (World.drew w9))) ∧
  V.when (decide ((0 : Int) ≤ j_7 ∧ (j_7 : Int) < ((now_2l : Nat) : Int))) (V.ptr now_2 fun a186 =>
  ∃ s187, (∀ w185, S184 w185 → World.cell? w185 (Addr.add (Addr.add a186 ((Int.toNat j_7) * 2)) 0) = some (Value.string s187)) ∧
  V.when (decide ((0 : Int) ≤ j_7 ∧ (j_7 : Int) < ((now_2l : Nat) : Int))) (V.ptr now_2 fun a188 =>
  ∃ s189, (∀ w185, S184 w185 → World.cell? w185 (Addr.add (Addr.add a188 ((Int.toNat j_7) * 2)) 1) = some (Value.string s189)) ∧
  ∀ w190, w190 = (World.alloc (World.drew (World.drew (World.drew w9))) (.cells #[(Value.string s187), (Value.string ByteArray.empty), (Value.string s189), (Value.bool false), (Value.bool true)] 35)) →
  S184 w190 ∧
  ∃ A191, ∃ A191l, ∃ A191c, ∃ w192, Sem.run Tryd.prog (Builtin.append_ #[24, 24] 24 #[(Value.slice out_5 out_5l out_5c), (Value.slice (some ⟨Array.size (World.heap (World.drew (World.drew (World.drew w9)))), 0, none⟩) 1 1)]) w190 = .ok (Value.slice A191 A191l A191c) w192 ∧
  S184 w192 ∧
  I3 A191 A191l A191c i_6 (IntKind.wrap .i64 (j_7 + 1)) w192 ∧ μ4 A191 A191l A191c i_6 (IntKind.wrap .i64 (j_7 + 1)) w192 < μ4 out_5 out_5l out_5c i_6 j_7 w9)))
  (V.when (decide ((0 : Int) ≤ i_6 ∧ (i_6 : Int) < ((was_1l : Nat) : Int))) (V.ptr was_1 fun a193 =>
  ∃ s194, ∃ s195, V.cellsC (fun a_ x_ => World.cell? (World.drew (World.drew w9)) a_ = some x_) (Addr.add a193 ((Int.toNat i_6) * 2)) [(Value.string s194), (Value.string s195)] ∧
  V.when (decide ((0 : Int) ≤ j_7 ∧ (j_7 : Int) < ((now_2l : Nat) : Int))) (V.ptr now_2 fun a196 =>
  ∃ s197, ∃ s198, V.cellsC (fun a_ x_ => World.cell? (World.drew (World.drew w9)) a_ = some x_) (Addr.add a196 ((Int.toNat j_7) * 2)) [(Value.string s197), (Value.string s198)] ∧
  V.sel (!((ByteArray.toList s194 == ByteArray.toList s197) && ((ByteArray.toList s195 == ByteArray.toList s198) && true)))
  (∃ S199 : World → Prop, S199 (World.drew (World.drew (World.drew (World.drew w9)))) ∧
  V.when (decide ((0 : Int) ≤ i_6 ∧ (i_6 : Int) < ((was_1l : Nat) : Int))) (V.ptr was_1 fun a201 =>
  ∃ s202, (∀ w200, S199 w200 → World.cell? w200 (Addr.add (Addr.add a201 ((Int.toNat i_6) * 2)) 0) = some (Value.string s202)) ∧
  V.when (decide ((0 : Int) ≤ i_6 ∧ (i_6 : Int) < ((was_1l : Nat) : Int))) (V.ptr was_1 fun a203 =>
  ∃ s204, (∀ w200, S199 w200 → World.cell? w200 (Addr.add (Addr.add a203 ((Int.toNat i_6) * 2)) 1) = some (Value.string s204)) ∧
  V.when (decide ((0 : Int) ≤ j_7 ∧ (j_7 : Int) < ((now_2l : Nat) : Int))) (V.ptr now_2 fun a205 =>
  ∃ s206, (∀ w200, S199 w200 → World.cell? w200 (Addr.add (Addr.add a205 ((Int.toNat j_7) * 2)) 1) = some (Value.string s206)) ∧
  ∀ w207, w207 = (World.alloc (World.drew (World.drew (World.drew (World.drew w9)))) (.cells #[(Value.string s202), (Value.string s204), (Value.string s206), (Value.bool true), (Value.bool true)] 35)) →
  S199 w207 ∧
  ∃ A208, ∃ A208l, ∃ A208c, ∃ w209, Sem.run Tryd.prog (Builtin.append_ #[24, 24] 24 #[(Value.slice out_5 out_5l out_5c), (Value.slice (some ⟨Array.size (World.heap (World.drew (World.drew (World.drew (World.drew w9))))), 0, none⟩) 1 1)]) w207 = .ok (Value.slice A208 A208l A208c) w209 ∧
  S199 w209 ∧
  I3 A208 A208l A208c (IntKind.wrap .i64 (i_6 + 1)) (IntKind.wrap .i64 (j_7 + 1)) w209 ∧ μ4 A208 A208l A208c (IntKind.wrap .i64 (i_6 + 1)) (IntKind.wrap .i64 (j_7 + 1)) w209 < μ4 out_5 out_5l out_5c i_6 j_7 w9))))
  (I3 out_5 out_5l out_5c (IntKind.wrap .i64 (i_6 + 1)) (IntKind.wrap .i64 (j_7 + 1)) (World.drew (World.drew (World.drew w9))) ∧ μ4 out_5 out_5l out_5c (IntKind.wrap .i64 (i_6 + 1)) (IntKind.wrap .i64 (j_7 + 1)) (World.drew (World.drew (World.drew w9))) < μ4 out_5 out_5l out_5c i_6 j_7 w9))))))))))
  (R (Ending.returned (Value.slice out_5 out_5l out_5c)) w9)))) :
  Calls Tryd.prog 33 #[(Value.slice was_1 was_1l was_1c), (Value.slice now_2 now_2l now_2c)] w R :=
  V.calls_of_R ⟨V.assoc [(0, [5, 6, 7])], V.assocP [(8, V.line [0, 1, 2, 3, 4, 5, 6, 7, 8, 9, 10, 11, 12, 13, 14, 15, 16, 17, 18, 19, 20, 21, 22, 23]), (9, V.line [0, 1, 2, 3, 4, 5, 6, 7, 8, 9, 10, 11, 12, 13, 14]), (11, V.line [0, 1, 2, 3, 4, 5, 6, 7, 8, 9, 10, 11, 12, 13, 14, 15, 16, 17]), (12, V.line [0, 1, 2, 3, 4, 5, 6, 7, 8, 9, 10, 11, 12, 13, 14]), (4, V.line [0, 1, 2, 3, 4, 5, 6, 7, 8]), (5, V.line [0, 1, 2, 3, 4, 5, 6, 7, 8, 9, 10, 11, 12, 13, 14, 15, 16, 17, 18, 19])], V.assocC [], V.assocS [], ⟨[], true⟩⟩ Tryd.func33 rfl (Eq.mp (by kernel_rfl) h)

theorem labels_Diff_l1_nf (yl : Nat) (free0_1 : Option Addr) (w : World) (R : Ending → World → Prop) (h :
  V.ptr free0_1 fun a2 =>
  ∃ A3, ∃ A3l, ∃ A3c, World.cell? w a2 = some (Value.slice A3 A3l A3c) ∧
  ∃ I4 : Int → World → Prop, ∃ μ5 : Int → World → Nat, I4 0 w ∧
  ∀ t7_6 (j7 : Nat → Value) (w8 : World), I4 t7_6 w8 →
  (V.sel (decide (t7_6 < ((A3l : Nat) : Int)))
  (V.when (decide ((0 : Int) ≤ t7_6 ∧ (t7_6 : Int) < ((A3l : Nat) : Int))) (V.ptr A3 fun a9 =>
  ∃ s10, ∃ s11, ∃ s12, ∃ b13, ∃ b14, V.cellsC (fun a_ x_ => World.cell? w8 a_ = some x_) (Addr.add a9 ((Int.toNat t7_6) * 5)) [(Value.string s10), (Value.string s11), (Value.string s12), (Value.bool b13), (Value.bool b14)] ∧
  ∀ w15, w15 = (World.alloc w8 (.cells #[(Value.string ByteArray.empty), (Value.string ByteArray.empty), (Value.string ByteArray.empty), (Value.bool false), (Value.bool false)] 35)) →
  ∃ w16, Sem.run Tryd.prog (Instr.storeAt 35 (Value.pointer (some ⟨Array.size (World.heap w8), 0, none⟩)) (Value.agg #[(Value.string s10), (Value.string s11), (Value.string s12), (Value.bool b13), (Value.bool b14)])) w15 = .ok () w16 ∧
  ∃ s17, ∃ s18, ∃ s19, ∃ b20, ∃ b21, V.cellsC (fun a_ x_ => World.cell? w16 a_ = some x_) ⟨Array.size (World.heap w8), 0, none⟩ [(Value.string s17), (Value.string s18), (Value.string s19), (Value.bool b20), (Value.bool b21)] ∧
  V.Yield Tryd.prog yl [(Value.agg #[(Value.string s17), (Value.string s18), (Value.string s19), (Value.bool b20), (Value.bool b21)])] w16 fun e23 w24 =>
  ∃ b22, e23 = Ending.returned (Value.bool b22) ∧
  V.sel (!b22)
  (R (Ending.returned undef) w24)
  (I4 (IntKind.wrap .i64 (t7_6 + 1)) w24 ∧ μ5 (IntKind.wrap .i64 (t7_6 + 1)) w24 < μ5 t7_6 w8)))
  (R (Ending.returned undef) w8))) :
  Calls Tryd.prog 34 #[(Value.func (.yield yl) #[] #[]), (Value.pointer free0_1)] w R :=
  V.calls_of_R ⟨V.assoc [(0, [7])], V.assocP [], V.assocC [], V.assocS [], ⟨[], true⟩⟩ Tryd.func34 rfl (Eq.mp (by kernel_rfl) h)

theorem labels_sorted_nf (list_1 : Option Addr) (list_1l : Nat) (list_1c : Nat) (w : World) (R : Ending → World → Prop) (h :
  Calls Tryd.prog 41 #[(Value.slice list_1 list_1l list_1c)] w fun e3 w4 =>
  ∃ A2, ∃ A2l, ∃ A2c, e3 = Ending.returned (Value.slice A2 A2l A2c) ∧
  ∀ w5, w5 = (World.alloc w4 (.cells #[(Value.slice none 0 0)] 22)) →
  ∃ w6, Sem.run Tryd.prog (Instr.storeAt 22 (Value.pointer (some ⟨Array.size (World.heap w4), 0, none⟩)) (Value.slice A2 A2l A2c)) w5 = .ok () w6 ∧
  ∃ A7, ∃ A7l, ∃ A7c, World.cell? w6 ⟨Array.size (World.heap w4), 0, none⟩ = some (Value.slice A7 A7l A7c) ∧
  Calls Tryd.prog 53 #[(Value.iface 22 (Value.slice A7 A7l A7c)), (Value.func (.func 54) #[] #[(Value.pointer (some ⟨Array.size (World.heap w4), 0, none⟩))])] w6 fun e8 w9 =>
  e8 = Ending.returned undef ∧
  ∃ A10, ∃ A10l, ∃ A10c, World.cell? w9 ⟨Array.size (World.heap w4), 0, none⟩ = some (Value.slice A10 A10l A10c) ∧
  Calls Tryd.prog 47 #[(Value.slice A10 A10l A10c)] w9 fun e12 w13 =>
  ∃ A11, ∃ A11l, ∃ A11c, e12 = Ending.returned (Value.slice A11 A11l A11c) ∧
  R (Ending.returned (Value.slice A11 A11l A11c)) w13) :
  Calls Tryd.prog 37 #[(Value.slice list_1 list_1l list_1c)] w R :=
  V.calls_of_R ⟨V.assoc [], V.assocP [], V.assocC [], V.assocS [], ⟨[], true⟩⟩ Tryd.func37 rfl (Eq.mp (by kernel_rfl) h)

theorem strings_Builder_WriteByte_nf (b_1 : Option Addr) (c_2 : Int) (w : World) (R : Ending → World → Prop) (h :
  Calls Tryd.prog 55 #[(Value.pointer b_1)] w fun e3 w4 =>
  e3 = Ending.returned undef ∧
  V.ptr b_1 fun a5 =>
  ∃ A6, ∃ A6l, ∃ A6c, World.cell? w4 (Addr.add a5 1) = some (Value.slice A6 A6l A6c) ∧
  ∀ w7, w7 = (World.alloc w4 (.cells #[(Value.int .u8 c_2)] 5)) →
  ∃ A8, ∃ A8l, ∃ A8c, ∃ w9, Sem.run Tryd.prog (Builtin.append_ #[71, 71] 71 #[(Value.slice A6 A6l A6c), (Value.slice (some ⟨Array.size (World.heap w4), 0, none⟩) 1 1)]) w7 = .ok (Value.slice A8 A8l A8c) w9 ∧
  V.ptr b_1 fun a10 =>
  ∃ w11, Sem.run Tryd.prog (Instr.storeAt 71 (Value.pointer (some (Addr.add a10 1))) (Value.slice A8 A8l A8c)) w9 = .ok () w11 ∧
  R (Ending.returned Value.nilIface) w11) :
  Calls Tryd.prog 38 #[(Value.pointer b_1), (Value.int .u8 c_2)] w R :=
  V.calls_of_R ⟨V.assoc [], V.assocP [], V.assocC [], V.assocS [], ⟨[], true⟩⟩ Tryd.func38 rfl (Eq.mp (by kernel_rfl) h)

theorem strings_Builder_WriteString_nf (b_1 : Option Addr) (s_2 : ByteArray) (w : World) (R : Ending → World → Prop) (h :
  Calls Tryd.prog 55 #[(Value.pointer b_1)] w fun e3 w4 =>
  e3 = Ending.returned undef ∧
  V.ptr b_1 fun a5 =>
  ∃ A6, ∃ A6l, ∃ A6c, World.cell? w4 (Addr.add a5 1) = some (Value.slice A6 A6l A6c) ∧
  ∃ A7, ∃ A7l, ∃ A7c, ∃ w8, Sem.run Tryd.prog (Builtin.append_ #[71, 9] 71 #[(Value.slice A6 A6l A6c), (Value.string s_2)]) w4 = .ok (Value.slice A7 A7l A7c) w8 ∧
  V.ptr b_1 fun a9 =>
  ∃ w10, Sem.run Tryd.prog (Instr.storeAt 71 (Value.pointer (some (Addr.add a9 1))) (Value.slice A7 A7l A7c)) w8 = .ok () w10 ∧
  R (Ending.returned (Value.tuple #[(Value.int .i64 ((ByteArray.size s_2 : Nat) : Int)), Value.nilIface])) w10) :
  Calls Tryd.prog 39 #[(Value.pointer b_1), (Value.string s_2)] w R :=
  V.calls_of_R ⟨V.assoc [], V.assocP [], V.assocC [], V.assocS [], ⟨[], true⟩⟩ Tryd.func39 rfl (Eq.mp (by kernel_rfl) h)

theorem slices_Clone___api_Label_api_Label__nf (s_1 : Option Addr) (s_1l : Nat) (s_1c : Nat) (w : World) (R : Ending → World → Prop) (h :
  V.sel (Option.isNone s_1)
  (R (Ending.returned (Value.slice none 0 0)) w)
  (∀ w2, w2 = (World.alloc w (.cells #[] 27)) →
  ∃ A3, ∃ A3l, ∃ A3c, ∃ w4, Sem.run Tryd.prog (Builtin.append_ #[22, 22] 22 #[(Value.slice (some ⟨Array.size (World.heap w), 0, none⟩) 0 0), (Value.slice s_1 s_1l s_1c)]) w2 = .ok (Value.slice A3 A3l A3c) w4 ∧
  R (Ending.returned (Value.slice A3 A3l A3c)) w4)) :
  Calls Tryd.prog 41 #[(Value.slice s_1 s_1l s_1c)] w R :=
  V.calls_of_R ⟨V.assoc [], V.assocP [], V.assocC [], V.assocS [], ⟨[], true⟩⟩ Tryd.func41 rfl (Eq.mp (by kernel_rfl) h)

end Go.Proofs.YtcohengppaighaaDoor
