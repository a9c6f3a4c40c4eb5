/- Normal forms of the program's functions, printed by a program of mine; the kernel checks each. -/
import Derived.Test.YtfjgiaimlmnepaaProg
import Derived.Test.YtfjgiaimlmnepaaV2
set_option linter.unusedVariables false
set_option maxRecDepth 100000
namespace Go.Proofs.Ytfjgiaimlmnepaa
open Go

theorem queue_Queue_Len_nf (q_1 : Option Addr) (w : World) (R : Ending → World → Prop) (h :
  V.sel (Option.isNone q_1)
  (R (Ending.returned (Value.int .i64 0)) w)
  (V.ptr q_1 fun a2 =>
  ∃ A3, ∃ A3l, ∃ A3c, World.cell? w (Addr.add a2 0) = some (Value.slice A3 A3l A3c) ∧
  R (Ending.returned (Value.int .i64 ((A3l : Nat) : Int))) w)) :
  Calls Try.prog 22 #[(Value.pointer q_1)] w R :=
  V.calls_of_R ⟨V.assoc [], V.assocP [], V.assocC [], V.assocS [], ⟨[], true⟩⟩ Try.func22 rfl (Eq.mp (by kernel_rfl) h)

theorem queue_Queue_Next_nf (q_1 : Option Addr) (w : World) (R : Ending → World → Prop) (h :
  V.sel (Option.isNone q_1)
  (R (Ending.returned (Value.int .i64 0)) w)
  (V.ptr q_1 fun a2 =>
  ∃ n3, World.cell? w (Addr.add a2 2) = some (Value.int .i64 n3) ∧
  R (Ending.returned (Value.int .i64 n3)) w)) :
  Calls Try.prog 23 #[(Value.pointer q_1)] w R :=
  V.calls_of_R ⟨V.assoc [], V.assocP [], V.assocC [], V.assocS [], ⟨[], true⟩⟩ Try.func23 rfl (Eq.mp (by kernel_rfl) h)

theorem berthlaw25_ahead_nf (a_1 : ByteArray) (a_2 : Int) (a_3 : Int) (a_4 : Int) (a_5 : Int) (a_6 : Bool) (b_7 : ByteArray) (b_8 : Int) (b_9 : Int) (b_10 : Int) (b_11 : Int) (b_12 : Bool) (w : World) (R : Ending → World → Prop) (h :
  ∀ w13, w13 = (World.alloc w (.cells #[(Value.string a_1), (Value.int .i64 a_2), (Value.int .i64 a_3), (Value.int .i64 a_4), (Value.int .i64 a_5), (Value.bool a_6)] 34)) →
  ∀ w14, w14 = (World.alloc w13 (.cells #[(Value.string b_7), (Value.int .i64 b_8), (Value.int .i64 b_9), (Value.int .i64 b_10), (Value.int .i64 b_11), (Value.bool b_12)] 34)) →
  ∃ n15, World.cell? w14 (Addr.add ⟨Array.size (World.heap w), 0, none⟩ 1) = some (Value.int .i64 n15) ∧
  ∃ n16, World.cell? w14 (Addr.add ⟨Array.size (World.heap w13), 0, none⟩ 1) = some (Value.int .i64 n16) ∧
  V.sel (decide (n15 > n16))
  (R (Ending.returned (Value.bool true)) w14)
  (∃ n17, World.cell? w14 (Addr.add ⟨Array.size (World.heap w), 0, none⟩ 1) = some (Value.int .i64 n17) ∧
  ∃ n18, World.cell? w14 (Addr.add ⟨Array.size (World.heap w13), 0, none⟩ 1) = some (Value.int .i64 n18) ∧
  V.sel (n17 == n18)
  (∃ n19, World.cell? w14 (Addr.add ⟨Array.size (World.heap w), 0, none⟩ 2) = some (Value.int .i64 n19) ∧
  ∃ n20, World.cell? w14 (Addr.add ⟨Array.size (World.heap w13), 0, none⟩ 2) = some (Value.int .i64 n20) ∧
  R (Ending.returned (Value.bool (decide (n19 < n20)))) w14)
  (R (Ending.returned (Value.bool false)) w14))) :
  Calls Try.prog 24 #[(Value.agg #[(Value.string a_1), (Value.int .i64 a_2), (Value.int .i64 a_3), (Value.int .i64 a_4), (Value.int .i64 a_5), (Value.bool a_6)]), (Value.agg #[(Value.string b_7), (Value.int .i64 b_8), (Value.int .i64 b_9), (Value.int .i64 b_10), (Value.int .i64 b_11), (Value.bool b_12)])] w R :=
  V.calls_of_R ⟨V.assoc [], V.assocP [], V.assocC [], V.assocS [], ⟨[], true⟩⟩ Try.func24 rfl (Eq.mp (by kernel_rfl) h)

theorem berthlaw25_down_nf (q_1 : Option Addr) (w : World) (R : Ending → World → Prop) (h :
  Calls Try.prog 22 #[(Value.pointer q_1)] w fun e3 w4 =>
  ∃ n2, e3 = Ending.returned (Value.int .i64 n2) ∧
  ∀ w5, w5 = (World.alloc w4 (.cells #[(Value.string ByteArray.empty), (Value.int .i64 0), (Value.int .i64 0), (Value.int .i64 0), (Value.int .i64 0), (Value.bool false)] 34)) →
  ∃ w6, Sem.run Try.prog (Instr.storeAt 34 (Value.pointer (some ⟨Array.size (World.heap w4), 0, none⟩)) (Value.agg #[(Value.string ByteArray.empty), (Value.int .i64 0), (Value.int .i64 0), (Value.int .i64 0), (Value.int .i64 0), (Value.bool false)])) w5 = .ok () w6 ∧
  ∃ I7 : Int → World → Prop, ∃ μ8 : Int → World → Nat, I7 0 w6 ∧
  ∀ i_9 (j10 : Nat → Value) (w11 : World), I7 i_9 w11 →
  (V.sel (decide (i_9 ≤ n2))
  (Calls Try.prog 20 #[(Value.pointer q_1), (Value.int .i64 1099511627776)] w11 fun e14 w15 =>
  ∃ s12, ∃ b13, e14 = Ending.returned (Value.tuple #[(Value.string s12), (Value.bool b13)]) ∧
  V.sel (!b13)
  (Calls Try.prog 19 #[(Value.pointer q_1)] w15 fun e17 w18 =>
  ∃ A16, ∃ A16l, ∃ A16c, e17 = Ending.returned (Value.slice A16 A16l A16c) ∧
  ∃ I19 : Int → World → Prop, ∃ μ20 : Int → World → Nat, I19 0 w18 ∧
  ∀ i_21 (j22 : Nat → Value) (w23 : World), I19 i_21 w23 →
  (V.sel (decide (i_21 < ((A16l : Nat) : Int)))
  (V.when (decide ((0 : Int) ≤ i_21 ∧ (i_21 : Int) < ((A16l : Nat) : Int))) (V.ptr A16 fun a24 =>
  ∃ b25, World.cell? w23 (Addr.add (Addr.add a24 ((Int.toNat i_21) * 6)) 5) = some (Value.bool b25) ∧
  V.sel (!b25)
  (V.when (decide ((0 : Int) ≤ i_21 ∧ (i_21 : Int) < ((A16l : Nat) : Int))) (V.ptr A16 fun a26 =>
  ∃ n27, World.cell? w23 (Addr.add (Addr.add a26 ((Int.toNat i_21) * 6)) 4) = some (Value.int .i64 n27) ∧
  V.sel (decide (n27 ≤ 1099511627776))
  (R (Ending.returned (Value.bool false)) w23)
  (I19 (IntKind.wrap .i64 (i_21 + 1)) w23 ∧ μ20 (IntKind.wrap .i64 (i_21 + 1)) w23 < μ20 i_21 w23)))
  (I19 (IntKind.wrap .i64 (i_21 + 1)) w23 ∧ μ20 (IntKind.wrap .i64 (i_21 + 1)) w23 < μ20 i_21 w23)))
  (R (Ending.returned (Value.bool true)) w23)))
  (Calls Try.prog 15 #[(Value.pointer q_1), (Value.string s12)] w15 fun e35 w36 =>
  ∃ s28, ∃ n29, ∃ n30, ∃ n31, ∃ n32, ∃ b33, ∃ n34, e35 = Ending.returned (Value.tuple #[(Value.agg #[(Value.string s28), (Value.int .i64 n29), (Value.int .i64 n30), (Value.int .i64 n31), (Value.int .i64 n32), (Value.bool b33)]), (Value.int .i64 n34)]) ∧
  ∀ w37, w37 = (World.alloc w36 (.cells #[(Value.string ByteArray.empty), (Value.int .i64 0), (Value.int .i64 0), (Value.int .i64 0), (Value.int .i64 0), (Value.bool false)] 34)) →
  ∃ w38, Sem.run Try.prog (Instr.storeAt 34 (Value.pointer (some ⟨Array.size (World.heap w36), 0, none⟩)) (Value.agg #[(Value.string s28), (Value.int .i64 n29), (Value.int .i64 n30), (Value.int .i64 n31), (Value.int .i64 n32), (Value.bool b33)])) w37 = .ok () w38 ∧
  Calls Try.prog 11 #[(Value.int .i64 n34)] w38 fun e40 w41 =>
  ∃ n39, e40 = Ending.returned (Value.int .i64 n39) ∧
  V.sel (n39 != 0)
  (R (Ending.returned (Value.bool false)) w41)
  (∃ s42, World.cell? w41 (Addr.add ⟨Array.size (World.heap w36), 0, none⟩ 0) = some (Value.string s42) ∧
  V.sel (!(ByteArray.toList s42 == ByteArray.toList s12))
  (R (Ending.returned (Value.bool false)) w41)
  (∃ b43, World.cell? w41 (Addr.add ⟨Array.size (World.heap w36), 0, none⟩ 5) = some (Value.bool b43) ∧
  V.sel b43
  (R (Ending.returned (Value.bool false)) w41)
  (V.sel (decide (i_9 > 0))
  (∃ s44, ∃ n45, ∃ n46, ∃ n47, ∃ n48, ∃ b49, V.cellsC (fun a_ x_ => World.cell? w41 a_ = some x_) ⟨Array.size (World.heap w4), 0, none⟩ [(Value.string s44), (Value.int .i64 n45), (Value.int .i64 n46), (Value.int .i64 n47), (Value.int .i64 n48), (Value.bool b49)] ∧
  ∃ s50, ∃ n51, ∃ n52, ∃ n53, ∃ n54, ∃ b55, V.cellsC (fun a_ x_ => World.cell? w41 a_ = some x_) ⟨Array.size (World.heap w36), 0, none⟩ [(Value.string s50), (Value.int .i64 n51), (Value.int .i64 n52), (Value.int .i64 n53), (Value.int .i64 n54), (Value.bool b55)] ∧
  Calls Try.prog 24 #[(Value.agg #[(Value.string s44), (Value.int .i64 n45), (Value.int .i64 n46), (Value.int .i64 n47), (Value.int .i64 n48), (Value.bool b49)]), (Value.agg #[(Value.string s50), (Value.int .i64 n51), (Value.int .i64 n52), (Value.int .i64 n53), (Value.int .i64 n54), (Value.bool b55)])] w41 fun e57 w58 =>
  ∃ b56, e57 = Ending.returned (Value.bool b56) ∧
  V.sel (!b56)
  (R (Ending.returned (Value.bool false)) w58)
  (∃ s59, ∃ n60, ∃ n61, ∃ n62, ∃ n63, ∃ b64, V.cellsC (fun a_ x_ => World.cell? w58 a_ = some x_) ⟨Array.size (World.heap w36), 0, none⟩ [(Value.string s59), (Value.int .i64 n60), (Value.int .i64 n61), (Value.int .i64 n62), (Value.int .i64 n63), (Value.bool b64)] ∧
  ∃ w65, Sem.run Try.prog (Instr.storeAt 34 (Value.pointer (some ⟨Array.size (World.heap w4), 0, none⟩)) (Value.agg #[(Value.string s59), (Value.int .i64 n60), (Value.int .i64 n61), (Value.int .i64 n62), (Value.int .i64 n63), (Value.bool b64)])) w58 = .ok () w65 ∧
  I7 (IntKind.wrap .i64 (i_9 + 1)) w65 ∧ μ8 (IntKind.wrap .i64 (i_9 + 1)) w65 < μ8 i_9 w11))
  (∃ s66, ∃ n67, ∃ n68, ∃ n69, ∃ n70, ∃ b71, V.cellsC (fun a_ x_ => World.cell? w41 a_ = some x_) ⟨Array.size (World.heap w36), 0, none⟩ [(Value.string s66), (Value.int .i64 n67), (Value.int .i64 n68), (Value.int .i64 n69), (Value.int .i64 n70), (Value.bool b71)] ∧
  ∃ w72, Sem.run Try.prog (Instr.storeAt 34 (Value.pointer (some ⟨Array.size (World.heap w4), 0, none⟩)) (Value.agg #[(Value.string s66), (Value.int .i64 n67), (Value.int .i64 n68), (Value.int .i64 n69), (Value.int .i64 n70), (Value.bool b71)])) w41 = .ok () w72 ∧
  I7 (IntKind.wrap .i64 (i_9 + 1)) w72 ∧ μ8 (IntKind.wrap .i64 (i_9 + 1)) w72 < μ8 i_9 w11))))))
  (Calls Try.prog 19 #[(Value.pointer q_1)] w11 fun e74 w75 =>
  ∃ A73, ∃ A73l, ∃ A73c, e74 = Ending.returned (Value.slice A73 A73l A73c) ∧
  ∃ I76 : Int → World → Prop, ∃ μ77 : Int → World → Nat, I76 0 w75 ∧
  ∀ i_78 (j79 : Nat → Value) (w80 : World), I76 i_78 w80 →
  (V.sel (decide (i_78 < ((A73l : Nat) : Int)))
  (V.when (decide ((0 : Int) ≤ i_78 ∧ (i_78 : Int) < ((A73l : Nat) : Int))) (V.ptr A73 fun a81 =>
  ∃ b82, World.cell? w80 (Addr.add (Addr.add a81 ((Int.toNat i_78) * 6)) 5) = some (Value.bool b82) ∧
  V.sel (!b82)
  (V.when (decide ((0 : Int) ≤ i_78 ∧ (i_78 : Int) < ((A73l : Nat) : Int))) (V.ptr A73 fun a83 =>
  ∃ n84, World.cell? w80 (Addr.add (Addr.add a83 ((Int.toNat i_78) * 6)) 4) = some (Value.int .i64 n84) ∧
  V.sel (decide (n84 ≤ 1099511627776))
  (R (Ending.returned (Value.bool false)) w80)
  (I76 (IntKind.wrap .i64 (i_78 + 1)) w80 ∧ μ77 (IntKind.wrap .i64 (i_78 + 1)) w80 < μ77 i_78 w80)))
  (I76 (IntKind.wrap .i64 (i_78 + 1)) w80 ∧ μ77 (IntKind.wrap .i64 (i_78 + 1)) w80 < μ77 i_78 w80)))
  (R (Ending.returned (Value.bool true)) w80))))) :
  Calls Try.prog 25 #[(Value.pointer q_1)] w R :=
  V.calls_of_R ⟨V.assoc [(0, [5]), (1, [11])], V.assocP [], V.assocC [], V.assocS [], ⟨[], true⟩⟩ Try.func25 rfl (Eq.mp (by kernel_rfl) h)

theorem berthref25_SameRows_nf (a_1 : Option Addr) (a_1l : Nat) (a_1c : Nat) (b_2 : Option Addr) (b_2l : Nat) (b_2c : Nat) (w : World) (R : Ending → World → Prop) (h :
  V.sel (((a_1l : Nat) : Int) != ((b_2l : Nat) : Int))
  (R (Ending.returned (Value.bool false)) w)
  (∃ I3 : Int → World → Prop, ∃ μ4 : Int → World → Nat, I3 0 w ∧
  ∀ i_5 (j6 : Nat → Value) (w7 : World), I3 i_5 w7 →
  (V.sel (decide (i_5 < ((a_1l : Nat) : Int)))
  (V.when (decide ((0 : Int) ≤ i_5 ∧ (i_5 : Int) < ((a_1l : Nat) : Int))) (V.ptr a_1 fun a8 =>
  ∃ s9, ∃ n10, ∃ n11, ∃ n12, ∃ n13, ∃ b14, V.cellsC (fun a_ x_ => World.cell? w7 a_ = some x_) (Addr.add a8 ((Int.toNat i_5) * 6)) [(Value.string s9), (Value.int .i64 n10), (Value.int .i64 n11), (Value.int .i64 n12), (Value.int .i64 n13), (Value.bool b14)] ∧
  V.when (decide ((0 : Int) ≤ i_5 ∧ (i_5 : Int) < ((b_2l : Nat) : Int))) (V.ptr b_2 fun a15 =>
  ∃ s16, ∃ n17, ∃ n18, ∃ n19, ∃ n20, ∃ b21, V.cellsC (fun a_ x_ => World.cell? w7 a_ = some x_) (Addr.add a15 ((Int.toNat i_5) * 6)) [(Value.string s16), (Value.int .i64 n17), (Value.int .i64 n18), (Value.int .i64 n19), (Value.int .i64 n20), (Value.bool b21)] ∧
  V.sel (!((ByteArray.toList s9 == ByteArray.toList s16) && (((n10 : Int) == n17) && (((n11 : Int) == n18) && (((n12 : Int) == n19) && (((n13 : Int) == n20) && ((b14 == b21) && true)))))))
  (R (Ending.returned (Value.bool false)) (World.drew w7))
  (I3 (IntKind.wrap .i64 (i_5 + 1)) (World.drew w7) ∧ μ4 (IntKind.wrap .i64 (i_5 + 1)) (World.drew w7) < μ4 i_5 w7))))
  (R (Ending.returned (Value.bool true)) w7)))) :
  Calls Try.prog 26 #[(Value.slice a_1 a_1l a_1c), (Value.slice b_2 b_2l b_2c)] w R :=
  V.calls_of_R ⟨V.assoc [(0, [5])], V.assocP [(6, V.line [0, 1, 2, 3, 4, 5, 6, 7, 8])], V.assocC [], V.assocS [], ⟨[], true⟩⟩ Try.func26 rfl (Eq.mp (by kernel_rfl) h)

theorem queue_Restore_nf (list_1 : Option Addr) (list_1l : Nat) (list_1c : Nat) (next_2 : Int) (w : World) (R : Ending → World → Prop) (h :
  V.sel (decide (next_2 < 0))
  (R (Ending.returned (Value.tuple #[(Value.pointer none), (Value.int .i64 255)])) w)
  (V.sel (decide (next_2 > 1099511627776))
  (R (Ending.returned (Value.tuple #[(Value.pointer none), (Value.int .i64 255)])) w)
  (V.sel (decide (((list_1l : Nat) : Int) > 2048))
  (R (Ending.returned (Value.tuple #[(Value.pointer none), (Value.int .i64 255)])) w)
  (Calls Try.prog 13 #[] w fun e4 w5 =>
  ∃ p3, e4 = Ending.returned (Value.pointer p3) ∧
  V.ptr p3 fun a6 =>
  ∃ w7, Sem.run Try.prog (Instr.storeAt 3 (Value.pointer (some (Addr.add a6 2))) (Value.int .i64 next_2)) w5 = .ok () w7 ∧
  ∀ w8, w8 = (World.alloc w7 (.map #[] 0)) →
  ∃ I9 : Int → World → Prop, ∃ μ10 : Int → World → Nat, I9 0 w8 ∧
  ∀ t31_11 (j12 : Nat → Value) (w13 : World), I9 t31_11 w13 →
  (V.sel (decide (t31_11 < ((list_1l : Nat) : Int)))
  (V.when (decide ((0 : Int) ≤ t31_11 ∧ (t31_11 : Int) < ((list_1l : Nat) : Int))) (V.ptr list_1 fun a14 =>
  ∃ s15, ∃ n16, ∃ n17, ∃ n18, ∃ n19, ∃ b20, V.cellsC (fun a_ x_ => World.cell? w13 a_ = some x_) (Addr.add a14 ((Int.toNat t31_11) * 6)) [(Value.string s15), (Value.int .i64 n16), (Value.int .i64 n17), (Value.int .i64 n18), (Value.int .i64 n19), (Value.bool b20)] ∧
  ∀ w21, w21 = (World.alloc w13 (.cells #[(Value.string ByteArray.empty), (Value.int .i64 0), (Value.int .i64 0), (Value.int .i64 0), (Value.int .i64 0), (Value.bool false)] 34)) →
  ∃ w22, Sem.run Try.prog (Instr.storeAt 34 (Value.pointer (some ⟨Array.size (World.heap w13), 0, none⟩)) (Value.agg #[(Value.string s15), (Value.int .i64 n16), (Value.int .i64 n17), (Value.int .i64 n18), (Value.int .i64 n19), (Value.bool b20)])) w21 = .ok () w22 ∧
  ∃ J23 : Bool → World → Prop, (∃ S24 : World → Prop, S24 (World.drew w22) ∧
  V.ptr p3 fun a26 =>
  ∃ m27, (∀ w25, S24 w25 → World.cell? w25 (Addr.add a26 1) = some (Value.map m27)) ∧
  ∃ s28, (∀ w25, S24 w25 → World.cell? w25 (Addr.add ⟨Array.size (World.heap w13), 0, none⟩ 0) = some (Value.string s28)) ∧
  (∃ s29, ∃ n30, ∃ n31, ∃ n32, ∃ n33, ∃ b34, ∃ b35, ∃ w36, Sem.run Try.prog (Instr.lookup 60 (Value.map m27) (Value.string s28) true) (World.drew w22) = .ok (Value.tuple #[(Value.agg #[(Value.string s29), (Value.int .i64 n30), (Value.int .i64 n31), (Value.int .i64 n32), (Value.int .i64 n33), (Value.bool b34)]), (Value.bool b35)]) w36 ∧
  S24 w36 ∧
  ∀ w37, w37 = (World.alloc w36 (.cells #[(Value.string ByteArray.empty), (Value.int .i64 0), (Value.int .i64 0), (Value.int .i64 0), (Value.int .i64 0), (Value.bool false)] 34)) →
  S24 w37 ∧
  ∃ w38, Sem.run Try.prog (Instr.storeAt 34 (Value.pointer (some ⟨Array.size (World.heap w36), 0, none⟩)) (Value.agg #[(Value.string s29), (Value.int .i64 n30), (Value.int .i64 n31), (Value.int .i64 n32), (Value.int .i64 n33), (Value.bool b34)])) w37 = .ok () w38 ∧
  S24 w38 ∧
  J23 b35 w38) ∧
  (∀ w39, w39 = (World.alloc (World.drew w22) (.cells #[(Value.string ByteArray.empty), (Value.int .i64 0), (Value.int .i64 0), (Value.int .i64 0), (Value.int .i64 0), (Value.bool false)] 34)) →
  S24 w39 ∧
  ∃ s40, ∃ n41, ∃ n42, ∃ n43, ∃ n44, ∃ b45, ∃ b46, ∃ w47, Sem.run Try.prog (Instr.lookup 60 (Value.map m27) (Value.string s28) true) w39 = .ok (Value.tuple #[(Value.agg #[(Value.string s40), (Value.int .i64 n41), (Value.int .i64 n42), (Value.int .i64 n43), (Value.int .i64 n44), (Value.bool b45)]), (Value.bool b46)]) w47 ∧
  S24 w47 ∧
  ∃ w48, Sem.run Try.prog (Instr.storeAt 34 (Value.pointer (some ⟨Array.size (World.heap (World.drew w22)), 0, none⟩)) (Value.agg #[(Value.string s40), (Value.int .i64 n41), (Value.int .i64 n42), (Value.int .i64 n43), (Value.int .i64 n44), (Value.bool b45)])) w47 = .ok () w48 ∧
  S24 w48 ∧
  J23 b46 w48) ∧ True) ∧
  ∀ twice_49 (j50 : Nat → Value) (w51 : World), J23 twice_49 w51 →
  ∃ S52 : World → Prop, S52 (World.drew w51) ∧
  V.sel twice_49
  (R (Ending.returned (Value.tuple #[(Value.pointer none), (Value.int .i64 255)])) (World.drew w51))
  (∃ s54, ∃ n55, ∃ n56, ∃ n57, ∃ n58, ∃ b59, V.cellsC (fun a_ x_ => ∀ w53, S52 w53 → World.cell? w53 a_ = some x_) ⟨Array.size (World.heap w13), 0, none⟩ [(Value.string s54), (Value.int .i64 n55), (Value.int .i64 n56), (Value.int .i64 n57), (Value.int .i64 n58), (Value.bool b59)] ∧
  Calls Try.prog 34 #[(Value.agg #[(Value.string s54), (Value.int .i64 n55), (Value.int .i64 n56), (Value.int .i64 n57), (Value.int .i64 n58), (Value.bool b59)]), (Value.int .i64 next_2)] (World.drew w51) fun e61 w62 =>
  ∃ b60, e61 = Ending.returned (Value.bool b60) ∧
  S52 w62 ∧
  V.sel (!b60)
  (R (Ending.returned (Value.tuple #[(Value.pointer none), (Value.int .i64 255)])) w62)
  (V.sel (decide (t31_11 > 0))
  (V.when (decide ((0 : Int) ≤ (IntKind.wrap .i64 (t31_11 - 1)) ∧ ((IntKind.wrap .i64 (t31_11 - 1)) : Int) < ((list_1l : Nat) : Int))) (V.ptr list_1 fun a63 =>
  ∃ s64, ∃ n65, ∃ n66, ∃ n67, ∃ n68, ∃ b69, V.cellsC (fun a_ x_ => ∀ w53, S52 w53 → World.cell? w53 a_ = some x_) (Addr.add a63 ((Int.toNat (IntKind.wrap .i64 (t31_11 - 1))) * 6)) [(Value.string s64), (Value.int .i64 n65), (Value.int .i64 n66), (Value.int .i64 n67), (Value.int .i64 n68), (Value.bool b69)] ∧
  ∃ s70, ∃ n71, ∃ n72, ∃ n73, ∃ n74, ∃ b75, V.cellsC (fun a_ x_ => ∀ w53, S52 w53 → World.cell? w53 a_ = some x_) ⟨Array.size (World.heap w13), 0, none⟩ [(Value.string s70), (Value.int .i64 n71), (Value.int .i64 n72), (Value.int .i64 n73), (Value.int .i64 n74), (Value.bool b75)] ∧
  Calls Try.prog 35 #[(Value.pointer p3), (Value.agg #[(Value.string s64), (Value.int .i64 n65), (Value.int .i64 n66), (Value.int .i64 n67), (Value.int .i64 n68), (Value.bool b69)]), (Value.agg #[(Value.string s70), (Value.int .i64 n71), (Value.int .i64 n72), (Value.int .i64 n73), (Value.int .i64 n74), (Value.bool b75)])] w62 fun e77 w78 =>
  ∃ n76, e77 = Ending.returned (Value.int .i64 n76) ∧
  S52 w78 ∧
  V.sel (decide (n76 ≥ 0))
  (R (Ending.returned (Value.tuple #[(Value.pointer none), (Value.int .i64 255)])) w78)
  (∃ n79, World.cell? w78 (Addr.add ⟨Array.size (World.heap w13), 0, none⟩ 2) = some (Value.int .i64 n79) ∧
  ∃ n80, ∃ w81, Sem.run Try.prog (Instr.lookup 66 (Value.map (some (Array.size (World.heap w7)))) (Value.int .i64 n79) false) w78 = .ok (Value.int .i64 n80) w81 ∧
  ∃ w82, Sem.run Try.prog (Instr.mapUpdate 66 (Value.map (some (Array.size (World.heap w7)))) (Value.int .i64 n79) (Value.int .i64 (IntKind.wrap .i64 (n80 + 1)))) w81 = .ok () w82 ∧
  ∃ n83, World.cell? w82 (Addr.add ⟨Array.size (World.heap w13), 0, none⟩ 2) = some (Value.int .i64 n83) ∧
  ∃ n84, ∃ w85, Sem.run Try.prog (Instr.lookup 66 (Value.map (some (Array.size (World.heap w7)))) (Value.int .i64 n83) false) w82 = .ok (Value.int .i64 n84) w85 ∧
  V.sel (decide (n84 > 1))
  (R (Ending.returned (Value.tuple #[(Value.pointer none), (Value.int .i64 255)])) w85)
  (V.ptr p3 fun a86 =>
  ∃ m87, World.cell? w85 (Addr.add a86 1) = some (Value.map m87) ∧
  ∃ s88, World.cell? w85 (Addr.add ⟨Array.size (World.heap w13), 0, none⟩ 0) = some (Value.string s88) ∧
  ∃ s89, ∃ n90, ∃ n91, ∃ n92, ∃ n93, ∃ b94, V.cellsC (fun a_ x_ => World.cell? w85 a_ = some x_) ⟨Array.size (World.heap w13), 0, none⟩ [(Value.string s89), (Value.int .i64 n90), (Value.int .i64 n91), (Value.int .i64 n92), (Value.int .i64 n93), (Value.bool b94)] ∧
  ∃ w95, Sem.run Try.prog (Instr.mapUpdate 60 (Value.map m87) (Value.string s88) (Value.agg #[(Value.string s89), (Value.int .i64 n90), (Value.int .i64 n91), (Value.int .i64 n92), (Value.int .i64 n93), (Value.bool b94)])) (World.drew w85) = .ok () w95 ∧
  I9 (IntKind.wrap .i64 (t31_11 + 1)) w95 ∧ μ10 (IntKind.wrap .i64 (t31_11 + 1)) w95 < μ10 t31_11 w13))))
  (∃ n96, World.cell? w62 (Addr.add ⟨Array.size (World.heap w13), 0, none⟩ 2) = some (Value.int .i64 n96) ∧
  ∃ n97, ∃ w98, Sem.run Try.prog (Instr.lookup 66 (Value.map (some (Array.size (World.heap w7)))) (Value.int .i64 n96) false) w62 = .ok (Value.int .i64 n97) w98 ∧
  ∃ w99, Sem.run Try.prog (Instr.mapUpdate 66 (Value.map (some (Array.size (World.heap w7)))) (Value.int .i64 n96) (Value.int .i64 (IntKind.wrap .i64 (n97 + 1)))) w98 = .ok () w99 ∧
  ∃ n100, World.cell? w99 (Addr.add ⟨Array.size (World.heap w13), 0, none⟩ 2) = some (Value.int .i64 n100) ∧
  ∃ n101, ∃ w102, Sem.run Try.prog (Instr.lookup 66 (Value.map (some (Array.size (World.heap w7)))) (Value.int .i64 n100) false) w99 = .ok (Value.int .i64 n101) w102 ∧
  V.sel (decide (n101 > 1))
  (R (Ending.returned (Value.tuple #[(Value.pointer none), (Value.int .i64 255)])) w102)
  (V.ptr p3 fun a103 =>
  ∃ m104, World.cell? w102 (Addr.add a103 1) = some (Value.map m104) ∧
  ∃ s105, World.cell? w102 (Addr.add ⟨Array.size (World.heap w13), 0, none⟩ 0) = some (Value.string s105) ∧
  ∃ s106, ∃ n107, ∃ n108, ∃ n109, ∃ n110, ∃ b111, V.cellsC (fun a_ x_ => World.cell? w102 a_ = some x_) ⟨Array.size (World.heap w13), 0, none⟩ [(Value.string s106), (Value.int .i64 n107), (Value.int .i64 n108), (Value.int .i64 n109), (Value.int .i64 n110), (Value.bool b111)] ∧
  ∃ w112, Sem.run Try.prog (Instr.mapUpdate 60 (Value.map m104) (Value.string s105) (Value.agg #[(Value.string s106), (Value.int .i64 n107), (Value.int .i64 n108), (Value.int .i64 n109), (Value.int .i64 n110), (Value.bool b111)])) (World.drew w102) = .ok () w112 ∧
  I9 (IntKind.wrap .i64 (t31_11 + 1)) w112 ∧ μ10 (IntKind.wrap .i64 (t31_11 + 1)) w112 < μ10 t31_11 w13))))))
  (∀ w113, w113 = (World.alloc w13 (.cells #[] 34)) →
  ∃ A114, ∃ A114l, ∃ A114c, ∃ w115, Sem.run Try.prog (Builtin.append_ #[29, 29] 29 #[(Value.slice (some ⟨Array.size (World.heap w13), 0, none⟩) 0 0), (Value.slice list_1 list_1l list_1c)]) w113 = .ok (Value.slice A114 A114l A114c) w115 ∧
  V.ptr p3 fun a116 =>
  ∃ w117, Sem.run Try.prog (Instr.storeAt 29 (Value.pointer (some (Addr.add a116 0))) (Value.slice A114 A114l A114c)) w115 = .ok () w117 ∧
  R (Ending.returned (Value.tuple #[(Value.pointer p3), (Value.int .i64 0)])) w117)))))) :
  Calls Try.prog 27 #[(Value.slice list_1 list_1l list_1c), (Value.int .i64 next_2)] w R :=
  V.calls_of_R ⟨V.assoc [(0, [31])], V.assocP [(9, (V.Plan.one 0 (V.Plan.one 1 (V.Plan.one 2 (V.Plan.one 3 (V.Plan.one 4 (V.Plan.one 5 (V.Plan.alt 6 (V.Plan.one 7 (V.Plan.one 8 (V.Plan.one 9 (V.Plan.one 10 (V.Plan.one 11 (V.Plan.one 12 V.Plan.done)))))) (V.Plan.alt 10 (V.Plan.one 6 (V.Plan.one 7 (V.Plan.one 8 (V.Plan.one 9 (V.Plan.one 11 (V.Plan.one 12 V.Plan.done)))))) V.Plan.stop))))))))), (10, V.line [0, 1, 2, 3, 4, 5, 6, 7, 8, 9, 10, 11, 12, 13, 14, 15, 16, 17, 18, 19, 20, 21]), (15, V.line [0, 1, 2, 3, 4, 5, 6, 7])], V.assocC [(9, ([11], [V.Sh.one .bool]))], V.assocS [], ⟨[], true⟩⟩ Try.func27 rfl (Eq.mp (by kernel_rfl) h)

theorem berthlaw25_rows_nf (l_1 : Option Addr) (l_1l : Nat) (l_1c : Nat) (w : World) (R : Ending → World → Prop) (h :
  ∀ w2, w2 = (World.alloc w (.cells #[] 34)) →
  ∃ A3, ∃ A3l, ∃ A3c, ∃ w4, Sem.run Try.prog (Builtin.append_ #[29, 29] 29 #[(Value.slice (some ⟨Array.size (World.heap w), 0, none⟩) 0 0), (Value.slice l_1 l_1l l_1c)]) w2 = .ok (Value.slice A3 A3l A3c) w4 ∧
  R (Ending.returned (Value.slice A3 A3l A3c)) w4) :
  Calls Try.prog 28 #[(Value.slice l_1 l_1l l_1c)] w R :=
  V.calls_of_R ⟨V.assoc [], V.assocP [], V.assocC [], V.assocS [], ⟨[], true⟩⟩ Try.func28 rfl (Eq.mp (by kernel_rfl) h)

theorem berthlaw25_Pair_step_nf (g_1 : Option Addr) (o_2 : Int) (o_3 : ByteArray) (o_4 : Int) (o_5 : Int) (o_6 : Option Addr) (o_6l : Nat) (o_6c : Nat) (w : World) (R : Ending → World → Prop) (h :
  ∀ w7, w7 = (World.alloc w (.cells #[(Value.int .i64 o_2), (Value.string o_3), (Value.int .i64 o_4), (Value.int .i64 o_5), (Value.slice o_6 o_6l o_6c)] 31)) →
  ∃ n8, World.cell? w7 (Addr.add ⟨Array.size (World.heap w), 0, none⟩ 0) = some (Value.int .i64 n8) ∧
  V.sel (decide (n8 ≥ 1))
  (∃ n9, World.cell? w7 (Addr.add ⟨Array.size (World.heap w), 0, none⟩ 0) = some (Value.int .i64 n9) ∧
  V.sel (decide (n9 ≤ 3))
  (∃ n10, ∃ s11, ∃ n12, ∃ n13, ∃ A14, ∃ A14l, ∃ A14c, V.cellsC (fun a_ x_ => World.cell? w7 a_ = some x_) ⟨Array.size (World.heap w), 0, none⟩ [(Value.int .i64 n10), (Value.string s11), (Value.int .i64 n12), (Value.int .i64 n13), (Value.slice A14 A14l A14c)] ∧
  Calls Try.prog 36 #[(Value.pointer g_1), (Value.agg #[(Value.int .i64 n10), (Value.string s11), (Value.int .i64 n12), (Value.int .i64 n13), (Value.slice A14 A14l A14c)])] w7 fun e16 w17 =>
  ∃ b15, e16 = Ending.returned (Value.bool b15) ∧
  R (Ending.returned (Value.bool b15)) w17)
  (∃ n18, World.cell? w7 (Addr.add ⟨Array.size (World.heap w), 0, none⟩ 0) = some (Value.int .i64 n18) ∧
  V.sel (n18 == 6)
  (∃ S19 : World → Prop, S19 (World.drew w7) ∧
  V.ptr g_1 fun a21 =>
  ∃ p22, (∀ w20, S19 w20 → World.cell? w20 (Addr.add a21 0) = some (Value.pointer p22)) ∧
  ∃ n23, (∀ w20, S19 w20 → World.cell? w20 (Addr.add ⟨Array.size (World.heap w), 0, none⟩ 3) = some (Value.int .i64 n23)) ∧
  Calls Try.prog 20 #[(Value.pointer p22), (Value.int .i64 n23)] (World.drew w7) fun e26 w27 =>
  ∃ s24, ∃ b25, e26 = Ending.returned (Value.tuple #[(Value.string s24), (Value.bool b25)]) ∧
  S19 w27 ∧
  ∃ S28 : World → Prop, S28 (World.drew w27) ∧
  V.ptr g_1 fun a30 =>
  ∃ A31, ∃ A31l, ∃ A31c, ∃ n32, V.cellsC (fun a_ x_ => ∀ w29, S28 w29 → World.cell? w29 a_ = some x_) (Addr.add a30 1) [(Value.slice A31 A31l A31c), (Value.int .i64 n32)] ∧
  ∃ n33, (∀ w29, S28 w29 → World.cell? w29 (Addr.add ⟨Array.size (World.heap w), 0, none⟩ 3) = some (Value.int .i64 n33)) ∧
  Calls Try.prog 37 #[(Value.agg #[(Value.slice A31 A31l A31c), (Value.int .i64 n32)]), (Value.int .i64 n33)] (World.drew w27) fun e36 w37 =>
  ∃ s34, ∃ b35, e36 = Ending.returned (Value.tuple #[(Value.string s34), (Value.bool b35)]) ∧
  S28 w37 ∧
  V.sel (ByteArray.toList s24 == ByteArray.toList s34)
  (R (Ending.returned (Value.bool (b25 == b35))) w37)
  (R (Ending.returned (Value.bool false)) w37))
  (∃ n38, World.cell? w7 (Addr.add ⟨Array.size (World.heap w), 0, none⟩ 0) = some (Value.int .i64 n38) ∧
  V.sel (decide (n38 ≥ 4))
  (∃ n39, World.cell? w7 (Addr.add ⟨Array.size (World.heap w), 0, none⟩ 0) = some (Value.int .i64 n39) ∧
  V.sel (decide (n39 ≤ 8))
  (∃ n40, ∃ s41, ∃ n42, ∃ n43, ∃ A44, ∃ A44l, ∃ A44c, V.cellsC (fun a_ x_ => World.cell? w7 a_ = some x_) ⟨Array.size (World.heap w), 0, none⟩ [(Value.int .i64 n40), (Value.string s41), (Value.int .i64 n42), (Value.int .i64 n43), (Value.slice A44 A44l A44c)] ∧
  Calls Try.prog 38 #[(Value.pointer g_1), (Value.agg #[(Value.int .i64 n40), (Value.string s41), (Value.int .i64 n42), (Value.int .i64 n43), (Value.slice A44 A44l A44c)])] w7 fun e46 w47 =>
  ∃ b45, e46 = Ending.returned (Value.bool b45) ∧
  R (Ending.returned (Value.bool b45)) w47)
  (∃ n48, World.cell? w7 (Addr.add ⟨Array.size (World.heap w), 0, none⟩ 0) = some (Value.int .i64 n48) ∧
  V.sel (n48 == 9)
  (Calls Try.prog 30 #[(Value.pointer g_1)] w7 fun e50 w51 =>
  ∃ b49, e50 = Ending.returned (Value.bool b49) ∧
  R (Ending.returned (Value.bool b49)) w51)
  (R (Ending.returned (Value.bool true)) w7)))
  (∃ n52, World.cell? w7 (Addr.add ⟨Array.size (World.heap w), 0, none⟩ 0) = some (Value.int .i64 n52) ∧
  V.sel (n52 == 9)
  (Calls Try.prog 30 #[(Value.pointer g_1)] w7 fun e54 w55 =>
  ∃ b53, e54 = Ending.returned (Value.bool b53) ∧
  R (Ending.returned (Value.bool b53)) w55)
  (R (Ending.returned (Value.bool true)) w7)))))
  (∃ n56, World.cell? w7 (Addr.add ⟨Array.size (World.heap w), 0, none⟩ 0) = some (Value.int .i64 n56) ∧
  V.sel (n56 == 6)
  (∃ S57 : World → Prop, S57 (World.drew w7) ∧
  V.ptr g_1 fun a59 =>
  ∃ p60, (∀ w58, S57 w58 → World.cell? w58 (Addr.add a59 0) = some (Value.pointer p60)) ∧
  ∃ n61, (∀ w58, S57 w58 → World.cell? w58 (Addr.add ⟨Array.size (World.heap w), 0, none⟩ 3) = some (Value.int .i64 n61)) ∧
  Calls Try.prog 20 #[(Value.pointer p60), (Value.int .i64 n61)] (World.drew w7) fun e64 w65 =>
  ∃ s62, ∃ b63, e64 = Ending.returned (Value.tuple #[(Value.string s62), (Value.bool b63)]) ∧
  S57 w65 ∧
  ∃ S66 : World → Prop, S66 (World.drew w65) ∧
  V.ptr g_1 fun a68 =>
  ∃ A69, ∃ A69l, ∃ A69c, ∃ n70, V.cellsC (fun a_ x_ => ∀ w67, S66 w67 → World.cell? w67 a_ = some x_) (Addr.add a68 1) [(Value.slice A69 A69l A69c), (Value.int .i64 n70)] ∧
  ∃ n71, (∀ w67, S66 w67 → World.cell? w67 (Addr.add ⟨Array.size (World.heap w), 0, none⟩ 3) = some (Value.int .i64 n71)) ∧
  Calls Try.prog 37 #[(Value.agg #[(Value.slice A69 A69l A69c), (Value.int .i64 n70)]), (Value.int .i64 n71)] (World.drew w65) fun e74 w75 =>
  ∃ s72, ∃ b73, e74 = Ending.returned (Value.tuple #[(Value.string s72), (Value.bool b73)]) ∧
  S66 w75 ∧
  V.sel (ByteArray.toList s62 == ByteArray.toList s72)
  (R (Ending.returned (Value.bool (b63 == b73))) w75)
  (R (Ending.returned (Value.bool false)) w75))
  (∃ n76, World.cell? w7 (Addr.add ⟨Array.size (World.heap w), 0, none⟩ 0) = some (Value.int .i64 n76) ∧
  V.sel (decide (n76 ≥ 4))
  (∃ n77, World.cell? w7 (Addr.add ⟨Array.size (World.heap w), 0, none⟩ 0) = some (Value.int .i64 n77) ∧
  V.sel (decide (n77 ≤ 8))
  (∃ n78, ∃ s79, ∃ n80, ∃ n81, ∃ A82, ∃ A82l, ∃ A82c, V.cellsC (fun a_ x_ => World.cell? w7 a_ = some x_) ⟨Array.size (World.heap w), 0, none⟩ [(Value.int .i64 n78), (Value.string s79), (Value.int .i64 n80), (Value.int .i64 n81), (Value.slice A82 A82l A82c)] ∧
  Calls Try.prog 38 #[(Value.pointer g_1), (Value.agg #[(Value.int .i64 n78), (Value.string s79), (Value.int .i64 n80), (Value.int .i64 n81), (Value.slice A82 A82l A82c)])] w7 fun e84 w85 =>
  ∃ b83, e84 = Ending.returned (Value.bool b83) ∧
  R (Ending.returned (Value.bool b83)) w85)
  (∃ n86, World.cell? w7 (Addr.add ⟨Array.size (World.heap w), 0, none⟩ 0) = some (Value.int .i64 n86) ∧
  V.sel (n86 == 9)
  (Calls Try.prog 30 #[(Value.pointer g_1)] w7 fun e88 w89 =>
  ∃ b87, e88 = Ending.returned (Value.bool b87) ∧
  R (Ending.returned (Value.bool b87)) w89)
  (R (Ending.returned (Value.bool true)) w7)))
  (∃ n90, World.cell? w7 (Addr.add ⟨Array.size (World.heap w), 0, none⟩ 0) = some (Value.int .i64 n90) ∧
  V.sel (n90 == 9)
  (Calls Try.prog 30 #[(Value.pointer g_1)] w7 fun e92 w93 =>
  ∃ b91, e92 = Ending.returned (Value.bool b91) ∧
  R (Ending.returned (Value.bool b91)) w93)
  (R (Ending.returned (Value.bool true)) w7))))) :
  Calls Try.prog 29 #[(Value.pointer g_1), (Value.agg #[(Value.int .i64 o_2), (Value.string o_3), (Value.int .i64 o_4), (Value.int .i64 o_5), (Value.slice o_6 o_6l o_6c)])] w R :=
  V.calls_of_R ⟨V.assoc [], V.assocP [(4, V.line [0, 1, 2, 3, 4, 5, 6, 7, 8, 9, 10, 11]), (5, V.line [0, 1, 2, 3, 4, 5, 6, 7, 8, 9, 10, 11])], V.assocC [], V.assocS [], ⟨[], true⟩⟩ Try.func29 rfl (Eq.mp (by kernel_rfl) h)

theorem berthlaw25_Pair_asks_nf (g_1 : Option Addr) (w : World) (R : Ending → World → Prop) (h :
  ∃ S2 : World → Prop, S2 (World.drew w) ∧
  V.ptr g_1 fun a4 =>
  ∃ p5, (∀ w3, S2 w3 → World.cell? w3 (Addr.add a4 0) = some (Value.pointer p5)) ∧
  V.sel (Option.isNone p5)
  (R (Ending.returned (Value.bool false)) (World.drew w))
  (V.ptr g_1 fun a6 =>
  ∃ p7, (∀ w3, S2 w3 → World.cell? w3 (Addr.add a6 0) = some (Value.pointer p7)) ∧
  V.ptr g_1 fun a8 =>
  ∃ A9, ∃ A9l, ∃ A9c, (∀ w3, S2 w3 → World.cell? w3 (Addr.add (Addr.add a8 1) 0) = some (Value.slice A9 A9l A9c)) ∧
  Calls Try.prog 22 #[(Value.pointer p7)] (World.drew w) fun e11 w12 =>
  ∃ n10, e11 = Ending.returned (Value.int .i64 n10) ∧
  S2 w12 ∧
  V.sel (n10 != ((A9l : Nat) : Int))
  (R (Ending.returned (Value.bool false)) w12)
  (V.ptr g_1 fun a13 =>
  ∃ p14, (∀ w3, S2 w3 → World.cell? w3 (Addr.add a13 0) = some (Value.pointer p14)) ∧
  V.ptr g_1 fun a15 =>
  ∃ n16, (∀ w3, S2 w3 → World.cell? w3 (Addr.add (Addr.add a15 1) 1) = some (Value.int .i64 n16)) ∧
  Calls Try.prog 23 #[(Value.pointer p14)] w12 fun e18 w19 =>
  ∃ n17, e18 = Ending.returned (Value.int .i64 n17) ∧
  S2 w19 ∧
  V.sel (n17 != n16)
  (R (Ending.returned (Value.bool false)) w19)
  (∃ S20 : World → Prop, S20 (World.drew w19) ∧
  V.ptr g_1 fun a22 =>
  ∃ p23, (∀ w21, S20 w21 → World.cell? w21 (Addr.add a22 0) = some (Value.pointer p23)) ∧
  V.ptr g_1 fun a24 =>
  ∃ A25, ∃ A25l, ∃ A25c, (∀ w21, S20 w21 → World.cell? w21 (Addr.add (Addr.add a24 1) 0) = some (Value.slice A25 A25l A25c)) ∧
  Calls Try.prog 19 #[(Value.pointer p23)] (World.drew w19) fun e27 w28 =>
  ∃ A26, ∃ A26l, ∃ A26c, e27 = Ending.returned (Value.slice A26 A26l A26c) ∧
  S20 w28 ∧
  Calls Try.prog 26 #[(Value.slice A26 A26l A26c), (Value.slice A25 A25l A25c)] w28 fun e30 w31 =>
  ∃ b29, e30 = Ending.returned (Value.bool b29) ∧
  S20 w31 ∧
  R (Ending.returned (Value.bool b29)) w31)))) :
  Calls Try.prog 30 #[(Value.pointer g_1)] w R :=
  V.calls_of_R ⟨V.assoc [], V.assocP [(1, V.line [0, 1, 2, 3, 4, 5, 6, 7, 8, 9, 11, 12, 13, 14, 15, 16, 10, 17, 18, 19, 20, 21, 22, 23, 25, 26, 27, 28, 29, 24, 30, 31]), (3, V.line [0, 1, 2, 3, 5, 6, 7, 8, 9, 4, 10, 11])], V.assocC [], V.assocS [], ⟨[], true⟩⟩ Try.func30 rfl (Eq.mp (by kernel_rfl) h)

theorem queue_Queue_put_nf (q_1 : Option Addr) (w_2 : ByteArray) (w_3 : Int) (w_4 : Int) (w_5 : Int) (w_6 : Int) (w_7 : Bool) (w : World) (R : Ending → World → Prop) (h :
  ∀ w8, w8 = (World.alloc w (.cells #[(Value.string w_2), (Value.int .i64 w_3), (Value.int .i64 w_4), (Value.int .i64 w_5), (Value.int .i64 w_6), (Value.bool w_7)] 34)) →
  ∃ S9 : World → Prop, S9 (World.drew w8) ∧
  V.ptr q_1 fun a11 =>
  ∃ A12, ∃ A12l, ∃ A12c, (∀ w10, S9 w10 → World.cell? w10 (Addr.add a11 0) = some (Value.slice A12 A12l A12c)) ∧
  ∃ s13, ∃ n14, ∃ n15, ∃ n16, ∃ n17, ∃ b18, V.cellsC (fun a_ x_ => ∀ w10, S9 w10 → World.cell? w10 a_ = some x_) ⟨Array.size (World.heap w), 0, none⟩ [(Value.string s13), (Value.int .i64 n14), (Value.int .i64 n15), (Value.int .i64 n16), (Value.int .i64 n17), (Value.bool b18)] ∧
  Calls Try.prog 39 #[(Value.slice A12 A12l A12c), (Value.agg #[(Value.string s13), (Value.int .i64 n14), (Value.int .i64 n15), (Value.int .i64 n16), (Value.int .i64 n17), (Value.bool b18)]), (Value.func (.func 35) #[(Value.pointer q_1)] #[])] (World.drew w8) fun e21 w22 =>
  ∃ n19, ∃ b20, e21 = Ending.returned (Value.tuple #[(Value.int .i64 n19), (Value.bool b20)]) ∧
  S9 w22 ∧
  ∃ S23 : World → Prop, S23 (World.drew w22) ∧
  V.ptr q_1 fun a25 =>
  ∃ A26, ∃ A26l, ∃ A26c, (∀ w24, S23 w24 → World.cell? w24 (Addr.add a25 0) = some (Value.slice A26 A26l A26c)) ∧
  ∃ s27, ∃ n28, ∃ n29, ∃ n30, ∃ n31, ∃ b32, V.cellsC (fun a_ x_ => ∀ w24, S23 w24 → World.cell? w24 a_ = some x_) ⟨Array.size (World.heap w), 0, none⟩ [(Value.string s27), (Value.int .i64 n28), (Value.int .i64 n29), (Value.int .i64 n30), (Value.int .i64 n31), (Value.bool b32)] ∧
  ∀ w33, w33 = (World.alloc (World.drew w22) (.cells #[(Value.string s27), (Value.int .i64 n28), (Value.int .i64 n29), (Value.int .i64 n30), (Value.int .i64 n31), (Value.bool b32)] 34)) →
  S23 w33 ∧
  Calls Try.prog 40 #[(Value.slice A26 A26l A26c), (Value.int .i64 n19), (Value.slice (some ⟨Array.size (World.heap (World.drew w22)), 0, none⟩) 1 1)] w33 fun e35 w36 =>
  ∃ A34, ∃ A34l, ∃ A34c, e35 = Ending.returned (Value.slice A34 A34l A34c) ∧
  S23 w36 ∧
  V.ptr q_1 fun a37 =>
  ∃ w38, Sem.run Try.prog (Instr.storeAt 29 (Value.pointer (some (Addr.add a37 0))) (Value.slice A34 A34l A34c)) w36 = .ok () w38 ∧
  V.ptr q_1 fun a39 =>
  ∃ m40, World.cell? w38 (Addr.add a39 1) = some (Value.map m40) ∧
  ∃ s41, World.cell? w38 (Addr.add ⟨Array.size (World.heap w), 0, none⟩ 0) = some (Value.string s41) ∧
  ∃ s42, ∃ n43, ∃ n44, ∃ n45, ∃ n46, ∃ b47, V.cellsC (fun a_ x_ => World.cell? w38 a_ = some x_) ⟨Array.size (World.heap w), 0, none⟩ [(Value.string s42), (Value.int .i64 n43), (Value.int .i64 n44), (Value.int .i64 n45), (Value.int .i64 n46), (Value.bool b47)] ∧
  ∃ w48, Sem.run Try.prog (Instr.mapUpdate 60 (Value.map m40) (Value.string s41) (Value.agg #[(Value.string s42), (Value.int .i64 n43), (Value.int .i64 n44), (Value.int .i64 n45), (Value.int .i64 n46), (Value.bool b47)])) (World.drew w38) = .ok () w48 ∧
  R (Ending.returned undef) w48) :
  Calls Try.prog 31 #[(Value.pointer q_1), (Value.agg #[(Value.string w_2), (Value.int .i64 w_3), (Value.int .i64 w_4), (Value.int .i64 w_5), (Value.int .i64 w_6), (Value.bool w_7)])] w R :=
  V.calls_of_R ⟨V.assoc [], V.assocP [(1, V.line [0, 1, 2, 3, 4, 5, 6, 7, 8, 9, 10, 11, 12]), (2, V.line [0, 1, 2, 3, 4, 5, 6, 7, 8, 9, 10, 11]), (3, V.line [0, 1, 2, 3, 4, 5, 6, 7])], V.assocC [], V.assocS [], ⟨[], true⟩⟩ Try.func31 rfl (Eq.mp (by kernel_rfl) h)

theorem queue_Queue_drop_nf (q_1 : Option Addr) (w_2 : ByteArray) (w_3 : Int) (w_4 : Int) (w_5 : Int) (w_6 : Int) (w_7 : Bool) (w : World) (R : Ending → World → Prop) (h :
  ∀ w8, w8 = (World.alloc w (.cells #[(Value.string w_2), (Value.int .i64 w_3), (Value.int .i64 w_4), (Value.int .i64 w_5), (Value.int .i64 w_6), (Value.bool w_7)] 34)) →
  ∃ S9 : World → Prop, S9 (World.drew w8) ∧
  V.ptr q_1 fun a11 =>
  ∃ A12, ∃ A12l, ∃ A12c, (∀ w10, S9 w10 → World.cell? w10 (Addr.add a11 0) = some (Value.slice A12 A12l A12c)) ∧
  ∃ s13, ∃ n14, ∃ n15, ∃ n16, ∃ n17, ∃ b18, V.cellsC (fun a_ x_ => ∀ w10, S9 w10 → World.cell? w10 a_ = some x_) ⟨Array.size (World.heap w), 0, none⟩ [(Value.string s13), (Value.int .i64 n14), (Value.int .i64 n15), (Value.int .i64 n16), (Value.int .i64 n17), (Value.bool b18)] ∧
  Calls Try.prog 39 #[(Value.slice A12 A12l A12c), (Value.agg #[(Value.string s13), (Value.int .i64 n14), (Value.int .i64 n15), (Value.int .i64 n16), (Value.int .i64 n17), (Value.bool b18)]), (Value.func (.func 35) #[(Value.pointer q_1)] #[])] (World.drew w8) fun e21 w22 =>
  ∃ n19, ∃ b20, e21 = Ending.returned (Value.tuple #[(Value.int .i64 n19), (Value.bool b20)]) ∧
  S9 w22 ∧
  V.ptr q_1 fun a23 =>
  ∃ A24, ∃ A24l, ∃ A24c, World.cell? w22 (Addr.add a23 0) = some (Value.slice A24 A24l A24c) ∧
  Calls Try.prog 41 #[(Value.slice A24 A24l A24c), (Value.int .i64 n19), (Value.int .i64 (IntKind.wrap .i64 (n19 + 1)))] w22 fun e26 w27 =>
  ∃ A25, ∃ A25l, ∃ A25c, e26 = Ending.returned (Value.slice A25 A25l A25c) ∧
  V.ptr q_1 fun a28 =>
  ∃ w29, Sem.run Try.prog (Instr.storeAt 29 (Value.pointer (some (Addr.add a28 0))) (Value.slice A25 A25l A25c)) w27 = .ok () w29 ∧
  ∃ S30 : World → Prop, S30 (World.drew w29) ∧
  V.ptr q_1 fun a32 =>
  ∃ m33, (∀ w31, S30 w31 → World.cell? w31 (Addr.add a32 1) = some (Value.map m33)) ∧
  ∃ s34, (∀ w31, S30 w31 → World.cell? w31 (Addr.add ⟨Array.size (World.heap w), 0, none⟩ 0) = some (Value.string s34)) ∧
  ∃ w35, Sem.run Try.prog (Builtin.delete_ #[60, 9] 0 #[(Value.map m33), (Value.string s34)]) (World.drew w29) = .ok undef w35 ∧
  S30 w35 ∧
  R (Ending.returned undef) w35) :
  Calls Try.prog 32 #[(Value.pointer q_1), (Value.agg #[(Value.string w_2), (Value.int .i64 w_3), (Value.int .i64 w_4), (Value.int .i64 w_5), (Value.int .i64 w_6), (Value.bool w_7)])] w R :=
  V.calls_of_R ⟨V.assoc [], V.assocP [(1, V.line [0, 1, 2, 3, 4, 5, 6, 7, 8, 9, 10, 11, 12]), (3, V.line [0, 1, 2, 3, 4, 5, 6])], V.assocC [], V.assocS [], ⟨[], true⟩⟩ Try.func32 rfl (Eq.mp (by kernel_rfl) h)

theorem queue_wait_nf (tries_1 : Int) (w : World) (R : Ending → World → Prop) (h :
  ∃ I2 : Int → Int → World → Prop, ∃ μ3 : Int → Int → World → Nat, I2 tries_1 1 w ∧
  ∀ tries_4 n_5 (j6 : Nat → Value) (w7 : World), I2 tries_4 n_5 w7 →
  (V.sel (decide (tries_4 > 1))
  (V.sel (decide (n_5 < 64))
  (I2 (IntKind.wrap .i64 (tries_4 - 1)) (IntKind.wrap .i64 (n_5 * 2)) w7 ∧ μ3 (IntKind.wrap .i64 (tries_4 - 1)) (IntKind.wrap .i64 (n_5 * 2)) w7 < μ3 tries_4 n_5 w7)
  (R (Ending.returned (Value.int .i64 n_5)) w7))
  (R (Ending.returned (Value.int .i64 n_5)) w7))) :
  Calls Try.prog 33 #[(Value.int .i64 tries_1)] w R :=
  V.calls_of_R ⟨V.assoc [(0, [0, 3])], V.assocP [], V.assocC [], V.assocS [], ⟨[], true⟩⟩ Try.func33 rfl (Eq.mp (by kernel_rfl) h)

theorem queue_sound_nf (w_1 : ByteArray) (w_2 : Int) (w_3 : Int) (w_4 : Int) (w_5 : Int) (w_6 : Bool) (next_7 : Int) (w : World) (R : Ending → World → Prop) (h :
  ∀ w8, w8 = (World.alloc w (.cells #[(Value.string w_1), (Value.int .i64 w_2), (Value.int .i64 w_3), (Value.int .i64 w_4), (Value.int .i64 w_5), (Value.bool w_6)] 34)) →
  ∃ n9, World.cell? w8 (Addr.add ⟨Array.size (World.heap w), 0, none⟩ 2) = some (Value.int .i64 n9) ∧
  V.sel (decide (n9 ≥ 0))
  (∃ n10, World.cell? w8 (Addr.add ⟨Array.size (World.heap w), 0, none⟩ 2) = some (Value.int .i64 n10) ∧
  V.sel (decide (n10 < next_7))
  (∃ n11, World.cell? w8 (Addr.add ⟨Array.size (World.heap w), 0, none⟩ 3) = some (Value.int .i64 n11) ∧
  V.sel (decide (n11 ≥ 0))
  (∃ n12, World.cell? w8 (Addr.add ⟨Array.size (World.heap w), 0, none⟩ 3) = some (Value.int .i64 n12) ∧
  V.sel (decide (n12 ≤ 1099511627776))
  (∃ n13, World.cell? w8 (Addr.add ⟨Array.size (World.heap w), 0, none⟩ 4) = some (Value.int .i64 n13) ∧
  V.sel (decide (n13 ≥ 0))
  (∃ n14, World.cell? w8 (Addr.add ⟨Array.size (World.heap w), 0, none⟩ 4) = some (Value.int .i64 n14) ∧
  R (Ending.returned (Value.bool (decide (n14 ≤ 1099511627840)))) w8)
  (R (Ending.returned (Value.bool false)) w8))
  (R (Ending.returned (Value.bool false)) w8))
  (R (Ending.returned (Value.bool false)) w8))
  (R (Ending.returned (Value.bool false)) w8))
  (R (Ending.returned (Value.bool false)) w8)) :
  Calls Try.prog 34 #[(Value.agg #[(Value.string w_1), (Value.int .i64 w_2), (Value.int .i64 w_3), (Value.int .i64 w_4), (Value.int .i64 w_5), (Value.bool w_6)]), (Value.int .i64 next_7)] w R :=
  V.calls_of_R ⟨V.assoc [], V.assocP [], V.assocC [], V.assocS [], ⟨[], true⟩⟩ Try.func34 rfl (Eq.mp (by kernel_rfl) h)

theorem queue_Queue_compare_nf (q_1 : Option Addr) (a_2 : ByteArray) (a_3 : Int) (a_4 : Int) (a_5 : Int) (a_6 : Int) (a_7 : Bool) (b_8 : ByteArray) (b_9 : Int) (b_10 : Int) (b_11 : Int) (b_12 : Int) (b_13 : Bool) (w : World) (R : Ending → World → Prop) (h :
  ∀ w14, w14 = (World.alloc w (.cells #[(Value.string a_2), (Value.int .i64 a_3), (Value.int .i64 a_4), (Value.int .i64 a_5), (Value.int .i64 a_6), (Value.bool a_7)] 34)) →
  ∀ w15, w15 = (World.alloc w14 (.cells #[(Value.string b_8), (Value.int .i64 b_9), (Value.int .i64 b_10), (Value.int .i64 b_11), (Value.int .i64 b_12), (Value.bool b_13)] 34)) →
  ∃ n16, World.cell? w15 (Addr.add ⟨Array.size (World.heap w14), 0, none⟩ 1) = some (Value.int .i64 n16) ∧
  ∃ n17, World.cell? w15 (Addr.add ⟨Array.size (World.heap w), 0, none⟩ 1) = some (Value.int .i64 n17) ∧
  Calls Try.prog 42 #[(Value.int .i64 n16), (Value.int .i64 n17)] w15 fun e19 w20 =>
  ∃ n18, e19 = Ending.returned (Value.int .i64 n18) ∧
  V.sel (n18 != 0)
  (R (Ending.returned (Value.int .i64 n18)) w20)
  (∃ n21, World.cell? w20 (Addr.add ⟨Array.size (World.heap w), 0, none⟩ 2) = some (Value.int .i64 n21) ∧
  ∃ n22, World.cell? w20 (Addr.add ⟨Array.size (World.heap w14), 0, none⟩ 2) = some (Value.int .i64 n22) ∧
  Calls Try.prog 42 #[(Value.int .i64 n21), (Value.int .i64 n22)] w20 fun e24 w25 =>
  ∃ n23, e24 = Ending.returned (Value.int .i64 n23) ∧
  R (Ending.returned (Value.int .i64 n23)) w25)) :
  Calls Try.prog 35 #[(Value.pointer q_1), (Value.agg #[(Value.string a_2), (Value.int .i64 a_3), (Value.int .i64 a_4), (Value.int .i64 a_5), (Value.int .i64 a_6), (Value.bool a_7)]), (Value.agg #[(Value.string b_8), (Value.int .i64 b_9), (Value.int .i64 b_10), (Value.int .i64 b_11), (Value.int .i64 b_12), (Value.bool b_13)])] w R :=
  V.calls_of_R ⟨V.assoc [], V.assocP [], V.assocC [], V.assocS [], ⟨[], true⟩⟩ Try.func35 rfl (Eq.mp (by kernel_rfl) h)

theorem berthlaw25_Pair_making_nf (g_1 : Option Addr) (o_2 : Int) (o_3 : ByteArray) (o_4 : Int) (o_5 : Int) (o_6 : Option Addr) (o_6l : Nat) (o_6c : Nat) (w : World) (R : Ending → World → Prop) (h :
  ∀ w7, w7 = (World.alloc w (.cells #[(Value.int .i64 o_2), (Value.string o_3), (Value.int .i64 o_4), (Value.int .i64 o_5), (Value.slice o_6 o_6l o_6c)] 31)) →
  ∃ n8, World.cell? w7 (Addr.add ⟨Array.size (World.heap w), 0, none⟩ 0) = some (Value.int .i64 n8) ∧
  V.sel (n8 == 1)
  (Calls Try.prog 13 #[] w7 fun e10 w11 =>
  ∃ p9, e10 = Ending.returned (Value.pointer p9) ∧
  V.ptr g_1 fun a12 =>
  ∃ w13, Sem.run Try.prog (Instr.storeAt 26 (Value.pointer (some (Addr.add a12 0))) (Value.pointer p9)) w11 = .ok () w13 ∧
  V.ptr g_1 fun a14 =>
  ∃ w15, Sem.run Try.prog (Instr.storeAt 56 (Value.pointer (some (Addr.add a14 1))) (Value.agg #[(Value.slice none 0 0), (Value.int .i64 0)])) w13 = .ok () w15 ∧
  V.ptr g_1 fun a16 =>
  ∃ p17, World.cell? w15 (Addr.add a16 0) = some (Value.pointer p17) ∧
  R (Ending.returned (Value.bool (!(Option.isNone p17)))) w15)
  (V.sel (n8 == 3)
  (∃ S18 : World → Prop, S18 (World.drew w7) ∧
  V.ptr g_1 fun a20 =>
  ∃ p21, (∀ w19, S18 w19 → World.cell? w19 (Addr.add a20 0) = some (Value.pointer p21)) ∧
  V.ptr g_1 fun a22 =>
  ∃ p23, (∀ w19, S18 w19 → World.cell? w19 (Addr.add a22 0) = some (Value.pointer p23)) ∧
  Calls Try.prog 19 #[(Value.pointer p21)] (World.drew w7) fun e25 w26 =>
  ∃ A24, ∃ A24l, ∃ A24c, e25 = Ending.returned (Value.slice A24 A24l A24c) ∧
  S18 w26 ∧
  Calls Try.prog 23 #[(Value.pointer p23)] w26 fun e28 w29 =>
  ∃ n27, e28 = Ending.returned (Value.int .i64 n27) ∧
  S18 w29 ∧
  Calls Try.prog 27 #[(Value.slice A24 A24l A24c), (Value.int .i64 n27)] w29 fun e32 w33 =>
  ∃ p30, ∃ n31, e32 = Ending.returned (Value.tuple #[(Value.pointer p30), (Value.int .i64 n31)]) ∧
  S18 w33 ∧
  V.sel (Option.isNone p30)
  (R (Ending.returned (Value.bool false)) w33)
  (Calls Try.prog 11 #[(Value.int .i64 n31)] w33 fun e35 w36 =>
  ∃ n34, e35 = Ending.returned (Value.int .i64 n34) ∧
  V.sel (n34 != 0)
  (R (Ending.returned (Value.bool false)) w36)
  (V.ptr g_1 fun a37 =>
  ∃ w38, Sem.run Try.prog (Instr.storeAt 26 (Value.pointer (some (Addr.add a37 0))) (Value.pointer p30)) w36 = .ok () w38 ∧
  R (Ending.returned (Value.bool true)) w38)))
  (∃ S39 : World → Prop, S39 (World.drew w7) ∧
  ∃ A41, ∃ A41l, ∃ A41c, (∀ w40, S39 w40 → World.cell? w40 (Addr.add ⟨Array.size (World.heap w), 0, none⟩ 4) = some (Value.slice A41 A41l A41c)) ∧
  ∃ n42, (∀ w40, S39 w40 → World.cell? w40 (Addr.add ⟨Array.size (World.heap w), 0, none⟩ 3) = some (Value.int .i64 n42)) ∧
  Calls Try.prog 28 #[(Value.slice A41 A41l A41c)] (World.drew w7) fun e44 w45 =>
  ∃ A43, ∃ A43l, ∃ A43c, e44 = Ending.returned (Value.slice A43 A43l A43c) ∧
  S39 w45 ∧
  Calls Try.prog 27 #[(Value.slice A43 A43l A43c), (Value.int .i64 n42)] w45 fun e48 w49 =>
  ∃ p46, ∃ n47, e48 = Ending.returned (Value.tuple #[(Value.pointer p46), (Value.int .i64 n47)]) ∧
  S39 w49 ∧
  ∃ A50, ∃ A50l, ∃ A50c, World.cell? w49 (Addr.add ⟨Array.size (World.heap w), 0, none⟩ 4) = some (Value.slice A50 A50l A50c) ∧
  ∃ n51, World.cell? w49 (Addr.add ⟨Array.size (World.heap w), 0, none⟩ 3) = some (Value.int .i64 n51) ∧
  Calls Try.prog 43 #[(Value.slice A50 A50l A50c), (Value.int .i64 n51)] w49 fun e55 w56 =>
  ∃ A52, ∃ A52l, ∃ A52c, ∃ n53, ∃ n54, e55 = Ending.returned (Value.tuple #[(Value.agg #[(Value.slice A52 A52l A52c), (Value.int .i64 n53)]), (Value.int .i64 n54)]) ∧
  ∀ w57, w57 = (World.alloc w56 (.cells #[(Value.slice none 0 0), (Value.int .i64 0)] 56)) →
  ∃ w58, Sem.run Try.prog (Instr.storeAt 56 (Value.pointer (some ⟨Array.size (World.heap w56), 0, none⟩)) (Value.agg #[(Value.slice A52 A52l A52c), (Value.int .i64 n53)])) w57 = .ok () w58 ∧
  Calls Try.prog 11 #[(Value.int .i64 n47)] w58 fun e60 w61 =>
  ∃ n59, e60 = Ending.returned (Value.int .i64 n59) ∧
  V.sel (n59 != n54)
  (R (Ending.returned (Value.bool false)) w61)
  (V.sel (!((Option.isNone p46) == (n54 != 0)))
  (R (Ending.returned (Value.bool false)) w61)
  (V.sel (n54 == 0)
  (∃ S62 : World → Prop, S62 (World.drew w61) ∧
  ∃ A64, ∃ A64l, ∃ A64c, ∃ n65, V.cellsC (fun a_ x_ => ∀ w63, S62 w63 → World.cell? w63 a_ = some x_) ⟨Array.size (World.heap w56), 0, none⟩ [(Value.slice A64 A64l A64c), (Value.int .i64 n65)] ∧
  V.ptr g_1 fun a66 =>
  ∃ w67, Sem.run Try.prog (Instr.storeAt 26 (Value.pointer (some (Addr.add a66 0))) (Value.pointer p46)) (World.drew w61) = .ok () w67 ∧
  S62 w67 ∧
  V.ptr g_1 fun a68 =>
  ∃ w69, Sem.run Try.prog (Instr.storeAt 56 (Value.pointer (some (Addr.add a68 1))) (Value.agg #[(Value.slice A64 A64l A64c), (Value.int .i64 n65)])) w67 = .ok () w69 ∧
  R (Ending.returned (Value.bool true)) w69)
  (R (Ending.returned (Value.bool true)) w61)))))) :
  Calls Try.prog 36 #[(Value.pointer g_1), (Value.agg #[(Value.int .i64 o_2), (Value.string o_3), (Value.int .i64 o_4), (Value.int .i64 o_5), (Value.slice o_6 o_6l o_6c)])] w R :=
  V.calls_of_R ⟨V.assoc [], V.assocP [(6, V.line [0, 1, 2, 3, 5, 6, 7, 8, 4, 9, 10, 11, 12, 13, 14, 15]), (11, V.line [0, 1, 3, 4, 2, 5, 6, 7, 8, 9, 10]), (16, V.line [0, 1, 2, 3, 4, 5, 6, 7, 8, 9])], V.assocC [], V.assocS [], ⟨[], true⟩⟩ Try.func36 rfl (Eq.mp (by kernel_rfl) h)

theorem berthref25_Ready_nf (q_1 : Option Addr) (q_1l : Nat) (q_1c : Nat) (q_2 : Int) (now_3 : Int) (w : World) (R : Ending → World → Prop) (h :
  ∀ w4, w4 = (World.alloc w (.cells #[(Value.slice q_1 q_1l q_1c), (Value.int .i64 q_2)] 56)) →
  V.sel (decide (now_3 < 0))
  (R (Ending.returned (Value.tuple #[(Value.string ByteArray.empty), (Value.bool false)])) w4)
  (V.sel (decide (now_3 > 1099511627776))
  (R (Ending.returned (Value.tuple #[(Value.string ByteArray.empty), (Value.bool false)])) w4)
  (∃ I5 : Int → World → Prop, ∃ μ6 : Int → World → Nat, I5 0 w4 ∧
  ∀ i_7 (j8 : Nat → Value) (w9 : World), I5 i_7 w9 →
  (∃ A10, ∃ A10l, ∃ A10c, World.cell? w9 (Addr.add ⟨Array.size (World.heap w), 0, none⟩ 0) = some (Value.slice A10 A10l A10c) ∧
  V.sel (decide (i_7 < ((A10l : Nat) : Int)))
  (∃ A11, ∃ A11l, ∃ A11c, World.cell? w9 (Addr.add ⟨Array.size (World.heap w), 0, none⟩ 0) = some (Value.slice A11 A11l A11c) ∧
  V.when (decide ((0 : Int) ≤ i_7 ∧ (i_7 : Int) < ((A11l : Nat) : Int))) (V.ptr A11 fun a12 =>
  ∃ b13, World.cell? w9 (Addr.add (Addr.add a12 ((Int.toNat i_7) * 6)) 5) = some (Value.bool b13) ∧
  V.sel (!b13)
  (∃ A14, ∃ A14l, ∃ A14c, World.cell? w9 (Addr.add ⟨Array.size (World.heap w), 0, none⟩ 0) = some (Value.slice A14 A14l A14c) ∧
  V.when (decide ((0 : Int) ≤ i_7 ∧ (i_7 : Int) < ((A14l : Nat) : Int))) (V.ptr A14 fun a15 =>
  ∃ n16, World.cell? w9 (Addr.add (Addr.add a15 ((Int.toNat i_7) * 6)) 4) = some (Value.int .i64 n16) ∧
  V.sel (decide (n16 ≤ now_3))
  (∃ A17, ∃ A17l, ∃ A17c, World.cell? w9 (Addr.add ⟨Array.size (World.heap w), 0, none⟩ 0) = some (Value.slice A17 A17l A17c) ∧
  V.when (decide ((0 : Int) ≤ i_7 ∧ (i_7 : Int) < ((A17l : Nat) : Int))) (V.ptr A17 fun a18 =>
  ∃ s19, World.cell? w9 (Addr.add (Addr.add a18 ((Int.toNat i_7) * 6)) 0) = some (Value.string s19) ∧
  R (Ending.returned (Value.tuple #[(Value.string s19), (Value.bool true)])) w9))
  (I5 (IntKind.wrap .i64 (i_7 + 1)) w9 ∧ μ6 (IntKind.wrap .i64 (i_7 + 1)) w9 < μ6 i_7 w9)))
  (I5 (IntKind.wrap .i64 (i_7 + 1)) w9 ∧ μ6 (IntKind.wrap .i64 (i_7 + 1)) w9 < μ6 i_7 w9)))
  (R (Ending.returned (Value.tuple #[(Value.string ByteArray.empty), (Value.bool false)])) w9))))) :
  Calls Try.prog 37 #[(Value.agg #[(Value.slice q_1 q_1l q_1c), (Value.int .i64 q_2)]), (Value.int .i64 now_3)] w R :=
  V.calls_of_R ⟨V.assoc [(0, [6])], V.assocP [], V.assocC [], V.assocS [], ⟨[], true⟩⟩ Try.func37 rfl (Eq.mp (by kernel_rfl) h)

theorem berthlaw25_Pair_changing_nf (g_1 : Option Addr) (o_2 : Int) (o_3 : ByteArray) (o_4 : Int) (o_5 : Int) (o_6 : Option Addr) (o_6l : Nat) (o_6c : Nat) (w : World) (R : Ending → World → Prop) (h :
  ∀ w7, w7 = (World.alloc w (.cells #[(Value.int .i64 o_2), (Value.string o_3), (Value.int .i64 o_4), (Value.int .i64 o_5), (Value.slice o_6 o_6l o_6c)] 31)) →
  ∃ n8, World.cell? w7 (Addr.add ⟨Array.size (World.heap w), 0, none⟩ 0) = some (Value.int .i64 n8) ∧
  V.sel (n8 == 4)
  (∃ S9 : World → Prop, S9 (World.drew w7) ∧
  V.ptr g_1 fun a11 =>
  ∃ p12, (∀ w10, S9 w10 → World.cell? w10 (Addr.add a11 0) = some (Value.pointer p12)) ∧
  ∃ s13, (∀ w10, S9 w10 → World.cell? w10 (Addr.add ⟨Array.size (World.heap w), 0, none⟩ 1) = some (Value.string s13)) ∧
  ∃ n14, (∀ w10, S9 w10 → World.cell? w10 (Addr.add ⟨Array.size (World.heap w), 0, none⟩ 2) = some (Value.int .i64 n14)) ∧
  Calls Try.prog 14 #[(Value.pointer p12), (Value.string s13), (Value.int .i64 n14)] (World.drew w7) fun e16 w17 =>
  ∃ n15, e16 = Ending.returned (Value.int .i64 n15) ∧
  S9 w17 ∧
  ∃ J18 : Option Addr → Int → World → Prop, (∃ S19 : World → Prop, S19 (World.drew w17) ∧
  V.ptr g_1 fun a21 =>
  ∃ A22, ∃ A22l, ∃ A22c, ∃ n23, V.cellsC (fun a_ x_ => ∀ w20, S19 w20 → World.cell? w20 a_ = some x_) (Addr.add a21 1) [(Value.slice A22 A22l A22c), (Value.int .i64 n23)] ∧
  ∃ s24, (∀ w20, S19 w20 → World.cell? w20 (Addr.add ⟨Array.size (World.heap w), 0, none⟩ 1) = some (Value.string s24)) ∧
  ∃ n25, (∀ w20, S19 w20 → World.cell? w20 (Addr.add ⟨Array.size (World.heap w), 0, none⟩ 2) = some (Value.int .i64 n25)) ∧
  (Calls Try.prog 44 #[(Value.agg #[(Value.slice A22 A22l A22c), (Value.int .i64 n23)]), (Value.string s24), (Value.int .i64 n25)] (World.drew w17) fun e29 w30 =>
  ∃ A26, ∃ A26l, ∃ A26c, ∃ n27, ∃ n28, e29 = Ending.returned (Value.tuple #[(Value.agg #[(Value.slice A26 A26l A26c), (Value.int .i64 n27)]), (Value.int .i64 n28)]) ∧
  S19 w30 ∧
  ∀ w31, w31 = (World.alloc w30 (.cells #[(Value.slice none 0 0), (Value.int .i64 0)] 56)) →
  S19 w31 ∧
  ∃ w32, Sem.run Try.prog (Instr.storeAt 56 (Value.pointer (some ⟨Array.size (World.heap w30), 0, none⟩)) (Value.agg #[(Value.slice A26 A26l A26c), (Value.int .i64 n27)])) w31 = .ok () w32 ∧
  S19 w32 ∧
  J18 (some ⟨Array.size (World.heap w30), 0, none⟩) n28 w32) ∧
  (∀ w33, w33 = (World.alloc (World.drew w17) (.cells #[(Value.slice none 0 0), (Value.int .i64 0)] 56)) →
  S19 w33 ∧
  Calls Try.prog 44 #[(Value.agg #[(Value.slice A22 A22l A22c), (Value.int .i64 n23)]), (Value.string s24), (Value.int .i64 n25)] w33 fun e37 w38 =>
  ∃ A34, ∃ A34l, ∃ A34c, ∃ n35, ∃ n36, e37 = Ending.returned (Value.tuple #[(Value.agg #[(Value.slice A34 A34l A34c), (Value.int .i64 n35)]), (Value.int .i64 n36)]) ∧
  S19 w38 ∧
  ∃ w39, Sem.run Try.prog (Instr.storeAt 56 (Value.pointer (some ⟨Array.size (World.heap (World.drew w17)), 0, none⟩)) (Value.agg #[(Value.slice A34 A34l A34c), (Value.int .i64 n35)])) w38 = .ok () w39 ∧
  S19 w39 ∧
  J18 (some ⟨Array.size (World.heap (World.drew w17)), 0, none⟩) n36 w39) ∧ True) ∧
  ∀ r_40 f_41 (j42 : Nat → Value) (w43 : World), J18 r_40 f_41 w43 →
  V.ptr r_40 fun a44 =>
  ∃ A45, ∃ A45l, ∃ A45c, ∃ n46, V.cellsC (fun a_ x_ => World.cell? w43 a_ = some x_) a44 [(Value.slice A45 A45l A45c), (Value.int .i64 n46)] ∧
  V.ptr g_1 fun a47 =>
  ∃ w48, Sem.run Try.prog (Instr.storeAt 56 (Value.pointer (some (Addr.add a47 1))) (Value.agg #[(Value.slice A45 A45l A45c), (Value.int .i64 n46)])) w43 = .ok () w48 ∧
  Calls Try.prog 11 #[(Value.int .i64 n15)] w48 fun e50 w51 =>
  ∃ n49, e50 = Ending.returned (Value.int .i64 n49) ∧
  R (Ending.returned (Value.bool (n49 == f_41))) w51)
  (V.sel (n8 == 5)
  (∃ J52 : Option Addr → Int → World → Prop, (∃ S53 : World → Prop, S53 (World.drew w7) ∧
  V.ptr g_1 fun a55 =>
  ∃ p56, (∀ w54, S53 w54 → World.cell? w54 (Addr.add a55 0) = some (Value.pointer p56)) ∧
  ∃ s57, (∀ w54, S53 w54 → World.cell? w54 (Addr.add ⟨Array.size (World.heap w), 0, none⟩ 1) = some (Value.string s57)) ∧
  (Calls Try.prog 15 #[(Value.pointer p56), (Value.string s57)] (World.drew w7) fun e65 w66 =>
  ∃ s58, ∃ n59, ∃ n60, ∃ n61, ∃ n62, ∃ b63, ∃ n64, e65 = Ending.returned (Value.tuple #[(Value.agg #[(Value.string s58), (Value.int .i64 n59), (Value.int .i64 n60), (Value.int .i64 n61), (Value.int .i64 n62), (Value.bool b63)]), (Value.int .i64 n64)]) ∧
  S53 w66 ∧
  ∀ w67, w67 = (World.alloc w66 (.cells #[(Value.string ByteArray.empty), (Value.int .i64 0), (Value.int .i64 0), (Value.int .i64 0), (Value.int .i64 0), (Value.bool false)] 34)) →
  S53 w67 ∧
  ∃ w68, Sem.run Try.prog (Instr.storeAt 34 (Value.pointer (some ⟨Array.size (World.heap w66), 0, none⟩)) (Value.agg #[(Value.string s58), (Value.int .i64 n59), (Value.int .i64 n60), (Value.int .i64 n61), (Value.int .i64 n62), (Value.bool b63)])) w67 = .ok () w68 ∧
  S53 w68 ∧
  J52 (some ⟨Array.size (World.heap w66), 0, none⟩) n64 w68) ∧
  (∀ w69, w69 = (World.alloc (World.drew w7) (.cells #[(Value.string ByteArray.empty), (Value.int .i64 0), (Value.int .i64 0), (Value.int .i64 0), (Value.int .i64 0), (Value.bool false)] 34)) →
  S53 w69 ∧
  Calls Try.prog 15 #[(Value.pointer p56), (Value.string s57)] w69 fun e77 w78 =>
  ∃ s70, ∃ n71, ∃ n72, ∃ n73, ∃ n74, ∃ b75, ∃ n76, e77 = Ending.returned (Value.tuple #[(Value.agg #[(Value.string s70), (Value.int .i64 n71), (Value.int .i64 n72), (Value.int .i64 n73), (Value.int .i64 n74), (Value.bool b75)]), (Value.int .i64 n76)]) ∧
  S53 w78 ∧
  ∃ w79, Sem.run Try.prog (Instr.storeAt 34 (Value.pointer (some ⟨Array.size (World.heap (World.drew w7)), 0, none⟩)) (Value.agg #[(Value.string s70), (Value.int .i64 n71), (Value.int .i64 n72), (Value.int .i64 n73), (Value.int .i64 n74), (Value.bool b75)])) w78 = .ok () w79 ∧
  S53 w79 ∧
  J52 (some ⟨Array.size (World.heap (World.drew w7)), 0, none⟩) n76 w79) ∧ True) ∧
  ∀ w_80 e_81 (j82 : Nat → Value) (w83 : World), J52 w_80 e_81 w83 →
  ∃ J84 : Option Addr → Option Addr → Int → World → Prop, (∃ S85 : World → Prop, S85 (World.drew w83) ∧
  V.ptr g_1 fun a87 =>
  ∃ A88, ∃ A88l, ∃ A88c, ∃ n89, V.cellsC (fun a_ x_ => ∀ w86, S85 w86 → World.cell? w86 a_ = some x_) (Addr.add a87 1) [(Value.slice A88 A88l A88c), (Value.int .i64 n89)] ∧
  ∃ s90, (∀ w86, S85 w86 → World.cell? w86 (Addr.add ⟨Array.size (World.heap w), 0, none⟩ 1) = some (Value.string s90)) ∧
  (Calls Try.prog 45 #[(Value.agg #[(Value.slice A88 A88l A88c), (Value.int .i64 n89)]), (Value.string s90)] (World.drew w83) fun e100 w101 =>
  ∃ A91, ∃ A91l, ∃ A91c, ∃ n92, ∃ s93, ∃ n94, ∃ n95, ∃ n96, ∃ n97, ∃ b98, ∃ n99, e100 = Ending.returned (Value.tuple #[(Value.agg #[(Value.slice A91 A91l A91c), (Value.int .i64 n92)]), (Value.agg #[(Value.string s93), (Value.int .i64 n94), (Value.int .i64 n95), (Value.int .i64 n96), (Value.int .i64 n97), (Value.bool b98)]), (Value.int .i64 n99)]) ∧
  S85 w101 ∧
  (∀ w102, w102 = (World.alloc w101 (.cells #[(Value.slice none 0 0), (Value.int .i64 0)] 56)) →
  S85 w102 ∧
  ∀ w103, w103 = (World.alloc w102 (.cells #[(Value.string ByteArray.empty), (Value.int .i64 0), (Value.int .i64 0), (Value.int .i64 0), (Value.int .i64 0), (Value.bool false)] 34)) →
  S85 w103 ∧
  ∃ w104, Sem.run Try.prog (Instr.storeAt 56 (Value.pointer (some ⟨Array.size (World.heap w101), 0, none⟩)) (Value.agg #[(Value.slice A91 A91l A91c), (Value.int .i64 n92)])) w103 = .ok () w104 ∧
  S85 w104 ∧
  ∃ w105, Sem.run Try.prog (Instr.storeAt 34 (Value.pointer (some ⟨Array.size (World.heap w102), 0, none⟩)) (Value.agg #[(Value.string s93), (Value.int .i64 n94), (Value.int .i64 n95), (Value.int .i64 n96), (Value.int .i64 n97), (Value.bool b98)])) w104 = .ok () w105 ∧
  S85 w105 ∧
  J84 (some ⟨Array.size (World.heap w101), 0, none⟩) (some ⟨Array.size (World.heap w102), 0, none⟩) n99 w105) ∧
  (∀ w106, w106 = (World.alloc w101 (.cells #[(Value.string ByteArray.empty), (Value.int .i64 0), (Value.int .i64 0), (Value.int .i64 0), (Value.int .i64 0), (Value.bool false)] 34)) →
  S85 w106 ∧
  ∀ w107, w107 = (World.alloc w106 (.cells #[(Value.slice none 0 0), (Value.int .i64 0)] 56)) →
  S85 w107 ∧
  ∃ w108, Sem.run Try.prog (Instr.storeAt 56 (Value.pointer (some ⟨Array.size (World.heap w106), 0, none⟩)) (Value.agg #[(Value.slice A91 A91l A91c), (Value.int .i64 n92)])) w107 = .ok () w108 ∧
  S85 w108 ∧
  ∃ w109, Sem.run Try.prog (Instr.storeAt 34 (Value.pointer (some ⟨Array.size (World.heap w101), 0, none⟩)) (Value.agg #[(Value.string s93), (Value.int .i64 n94), (Value.int .i64 n95), (Value.int .i64 n96), (Value.int .i64 n97), (Value.bool b98)])) w108 = .ok () w109 ∧
  S85 w109 ∧
  J84 (some ⟨Array.size (World.heap w106), 0, none⟩) (some ⟨Array.size (World.heap w101), 0, none⟩) n99 w109) ∧ True) ∧
  (∀ w110, w110 = (World.alloc (World.drew w83) (.cells #[(Value.slice none 0 0), (Value.int .i64 0)] 56)) →
  S85 w110 ∧
  (Calls Try.prog 45 #[(Value.agg #[(Value.slice A88 A88l A88c), (Value.int .i64 n89)]), (Value.string s90)] w110 fun e120 w121 =>
  ∃ A111, ∃ A111l, ∃ A111c, ∃ n112, ∃ s113, ∃ n114, ∃ n115, ∃ n116, ∃ n117, ∃ b118, ∃ n119, e120 = Ending.returned (Value.tuple #[(Value.agg #[(Value.slice A111 A111l A111c), (Value.int .i64 n112)]), (Value.agg #[(Value.string s113), (Value.int .i64 n114), (Value.int .i64 n115), (Value.int .i64 n116), (Value.int .i64 n117), (Value.bool b118)]), (Value.int .i64 n119)]) ∧
  S85 w121 ∧
  ∀ w122, w122 = (World.alloc w121 (.cells #[(Value.string ByteArray.empty), (Value.int .i64 0), (Value.int .i64 0), (Value.int .i64 0), (Value.int .i64 0), (Value.bool false)] 34)) →
  S85 w122 ∧
  ∃ w123, Sem.run Try.prog (Instr.storeAt 56 (Value.pointer (some ⟨Array.size (World.heap (World.drew w83)), 0, none⟩)) (Value.agg #[(Value.slice A111 A111l A111c), (Value.int .i64 n112)])) w122 = .ok () w123 ∧
  S85 w123 ∧
  ∃ w124, Sem.run Try.prog (Instr.storeAt 34 (Value.pointer (some ⟨Array.size (World.heap w121), 0, none⟩)) (Value.agg #[(Value.string s113), (Value.int .i64 n114), (Value.int .i64 n115), (Value.int .i64 n116), (Value.int .i64 n117), (Value.bool b118)])) w123 = .ok () w124 ∧
  S85 w124 ∧
  J84 (some ⟨Array.size (World.heap (World.drew w83)), 0, none⟩) (some ⟨Array.size (World.heap w121), 0, none⟩) n119 w124) ∧
  (∀ w125, w125 = (World.alloc w110 (.cells #[(Value.string ByteArray.empty), (Value.int .i64 0), (Value.int .i64 0), (Value.int .i64 0), (Value.int .i64 0), (Value.bool false)] 34)) →
  S85 w125 ∧
  Calls Try.prog 45 #[(Value.agg #[(Value.slice A88 A88l A88c), (Value.int .i64 n89)]), (Value.string s90)] w125 fun e135 w136 =>
  ∃ A126, ∃ A126l, ∃ A126c, ∃ n127, ∃ s128, ∃ n129, ∃ n130, ∃ n131, ∃ n132, ∃ b133, ∃ n134, e135 = Ending.returned (Value.tuple #[(Value.agg #[(Value.slice A126 A126l A126c), (Value.int .i64 n127)]), (Value.agg #[(Value.string s128), (Value.int .i64 n129), (Value.int .i64 n130), (Value.int .i64 n131), (Value.int .i64 n132), (Value.bool b133)]), (Value.int .i64 n134)]) ∧
  S85 w136 ∧
  ∃ w137, Sem.run Try.prog (Instr.storeAt 56 (Value.pointer (some ⟨Array.size (World.heap (World.drew w83)), 0, none⟩)) (Value.agg #[(Value.slice A126 A126l A126c), (Value.int .i64 n127)])) w136 = .ok () w137 ∧
  S85 w137 ∧
  ∃ w138, Sem.run Try.prog (Instr.storeAt 34 (Value.pointer (some ⟨Array.size (World.heap w110), 0, none⟩)) (Value.agg #[(Value.string s128), (Value.int .i64 n129), (Value.int .i64 n130), (Value.int .i64 n131), (Value.int .i64 n132), (Value.bool b133)])) w137 = .ok () w138 ∧
  S85 w138 ∧
  J84 (some ⟨Array.size (World.heap (World.drew w83)), 0, none⟩) (some ⟨Array.size (World.heap w110), 0, none⟩) n134 w138) ∧ True) ∧
  (∀ w139, w139 = (World.alloc (World.drew w83) (.cells #[(Value.string ByteArray.empty), (Value.int .i64 0), (Value.int .i64 0), (Value.int .i64 0), (Value.int .i64 0), (Value.bool false)] 34)) →
  S85 w139 ∧
  (Calls Try.prog 45 #[(Value.agg #[(Value.slice A88 A88l A88c), (Value.int .i64 n89)]), (Value.string s90)] w139 fun e149 w150 =>
  ∃ A140, ∃ A140l, ∃ A140c, ∃ n141, ∃ s142, ∃ n143, ∃ n144, ∃ n145, ∃ n146, ∃ b147, ∃ n148, e149 = Ending.returned (Value.tuple #[(Value.agg #[(Value.slice A140 A140l A140c), (Value.int .i64 n141)]), (Value.agg #[(Value.string s142), (Value.int .i64 n143), (Value.int .i64 n144), (Value.int .i64 n145), (Value.int .i64 n146), (Value.bool b147)]), (Value.int .i64 n148)]) ∧
  S85 w150 ∧
  ∀ w151, w151 = (World.alloc w150 (.cells #[(Value.slice none 0 0), (Value.int .i64 0)] 56)) →
  S85 w151 ∧
  ∃ w152, Sem.run Try.prog (Instr.storeAt 56 (Value.pointer (some ⟨Array.size (World.heap w150), 0, none⟩)) (Value.agg #[(Value.slice A140 A140l A140c), (Value.int .i64 n141)])) w151 = .ok () w152 ∧
  S85 w152 ∧
  ∃ w153, Sem.run Try.prog (Instr.storeAt 34 (Value.pointer (some ⟨Array.size (World.heap (World.drew w83)), 0, none⟩)) (Value.agg #[(Value.string s142), (Value.int .i64 n143), (Value.int .i64 n144), (Value.int .i64 n145), (Value.int .i64 n146), (Value.bool b147)])) w152 = .ok () w153 ∧
  S85 w153 ∧
  J84 (some ⟨Array.size (World.heap w150), 0, none⟩) (some ⟨Array.size (World.heap (World.drew w83)), 0, none⟩) n148 w153) ∧
  (∀ w154, w154 = (World.alloc w139 (.cells #[(Value.slice none 0 0), (Value.int .i64 0)] 56)) →
  S85 w154 ∧
  Calls Try.prog 45 #[(Value.agg #[(Value.slice A88 A88l A88c), (Value.int .i64 n89)]), (Value.string s90)] w154 fun e164 w165 =>
  ∃ A155, ∃ A155l, ∃ A155c, ∃ n156, ∃ s157, ∃ n158, ∃ n159, ∃ n160, ∃ n161, ∃ b162, ∃ n163, e164 = Ending.returned (Value.tuple #[(Value.agg #[(Value.slice A155 A155l A155c), (Value.int .i64 n156)]), (Value.agg #[(Value.string s157), (Value.int .i64 n158), (Value.int .i64 n159), (Value.int .i64 n160), (Value.int .i64 n161), (Value.bool b162)]), (Value.int .i64 n163)]) ∧
  S85 w165 ∧
  ∃ w166, Sem.run Try.prog (Instr.storeAt 56 (Value.pointer (some ⟨Array.size (World.heap w139), 0, none⟩)) (Value.agg #[(Value.slice A155 A155l A155c), (Value.int .i64 n156)])) w165 = .ok () w166 ∧
  S85 w166 ∧
  ∃ w167, Sem.run Try.prog (Instr.storeAt 34 (Value.pointer (some ⟨Array.size (World.heap (World.drew w83)), 0, none⟩)) (Value.agg #[(Value.string s157), (Value.int .i64 n158), (Value.int .i64 n159), (Value.int .i64 n160), (Value.int .i64 n161), (Value.bool b162)])) w166 = .ok () w167 ∧
  S85 w167 ∧
  J84 (some ⟨Array.size (World.heap w139), 0, none⟩) (some ⟨Array.size (World.heap (World.drew w83)), 0, none⟩) n163 w167) ∧ True) ∧ True) ∧
  ∀ r_168 v_169 f_170 (j171 : Nat → Value) (w172 : World), J84 r_168 v_169 f_170 w172 →
  V.ptr r_168 fun a173 =>
  ∃ A174, ∃ A174l, ∃ A174c, ∃ n175, V.cellsC (fun a_ x_ => World.cell? w172 a_ = some x_) a173 [(Value.slice A174 A174l A174c), (Value.int .i64 n175)] ∧
  V.ptr g_1 fun a176 =>
  ∃ w177, Sem.run Try.prog (Instr.storeAt 56 (Value.pointer (some (Addr.add a176 1))) (Value.agg #[(Value.slice A174 A174l A174c), (Value.int .i64 n175)])) w172 = .ok () w177 ∧
  Calls Try.prog 11 #[(Value.int .i64 e_81)] w177 fun e179 w180 =>
  ∃ n178, e179 = Ending.returned (Value.int .i64 n178) ∧
  V.sel (n178 == f_170)
  (V.ptr w_80 fun a181 =>
  ∃ s182, ∃ n183, ∃ n184, ∃ n185, ∃ n186, ∃ b187, V.cellsC (fun a_ x_ => World.cell? w180 a_ = some x_) a181 [(Value.string s182), (Value.int .i64 n183), (Value.int .i64 n184), (Value.int .i64 n185), (Value.int .i64 n186), (Value.bool b187)] ∧
  V.ptr v_169 fun a188 =>
  ∃ s189, ∃ n190, ∃ n191, ∃ n192, ∃ n193, ∃ b194, V.cellsC (fun a_ x_ => World.cell? w180 a_ = some x_) a188 [(Value.string s189), (Value.int .i64 n190), (Value.int .i64 n191), (Value.int .i64 n192), (Value.int .i64 n193), (Value.bool b194)] ∧
  R (Ending.returned (Value.bool ((ByteArray.toList s182 == ByteArray.toList s189) && (((n183 : Int) == n190) && (((n184 : Int) == n191) && (((n185 : Int) == n192) && (((n186 : Int) == n193) && ((b187 == b194) && true)))))))) w180)
  (R (Ending.returned (Value.bool false)) w180))
  (V.sel (n8 == 7)
  (∃ S195 : World → Prop, S195 (World.drew w7) ∧
  V.ptr g_1 fun a197 =>
  ∃ p198, (∀ w196, S195 w196 → World.cell? w196 (Addr.add a197 0) = some (Value.pointer p198)) ∧
  ∃ s199, (∀ w196, S195 w196 → World.cell? w196 (Addr.add ⟨Array.size (World.heap w), 0, none⟩ 1) = some (Value.string s199)) ∧
  ∃ n200, (∀ w196, S195 w196 → World.cell? w196 (Addr.add ⟨Array.size (World.heap w), 0, none⟩ 3) = some (Value.int .i64 n200)) ∧
  Calls Try.prog 17 #[(Value.pointer p198), (Value.string s199), (Value.int .i64 n200)] (World.drew w7) fun e202 w203 =>
  ∃ n201, e202 = Ending.returned (Value.int .i64 n201) ∧
  S195 w203 ∧
  ∃ J204 : Option Addr → Int → World → Prop, (∃ S205 : World → Prop, S205 (World.drew w203) ∧
  V.ptr g_1 fun a207 =>
  ∃ A208, ∃ A208l, ∃ A208c, ∃ n209, V.cellsC (fun a_ x_ => ∀ w206, S205 w206 → World.cell? w206 a_ = some x_) (Addr.add a207 1) [(Value.slice A208 A208l A208c), (Value.int .i64 n209)] ∧
  ∃ s210, (∀ w206, S205 w206 → World.cell? w206 (Addr.add ⟨Array.size (World.heap w), 0, none⟩ 1) = some (Value.string s210)) ∧
  ∃ n211, (∀ w206, S205 w206 → World.cell? w206 (Addr.add ⟨Array.size (World.heap w), 0, none⟩ 3) = some (Value.int .i64 n211)) ∧
  (Calls Try.prog 46 #[(Value.agg #[(Value.slice A208 A208l A208c), (Value.int .i64 n209)]), (Value.string s210), (Value.int .i64 n211)] (World.drew w203) fun e215 w216 =>
  ∃ A212, ∃ A212l, ∃ A212c, ∃ n213, ∃ n214, e215 = Ending.returned (Value.tuple #[(Value.agg #[(Value.slice A212 A212l A212c), (Value.int .i64 n213)]), (Value.int .i64 n214)]) ∧
  S205 w216 ∧
  ∀ w217, w217 = (World.alloc w216 (.cells #[(Value.slice none 0 0), (Value.int .i64 0)] 56)) →
  S205 w217 ∧
  ∃ w218, Sem.run Try.prog (Instr.storeAt 56 (Value.pointer (some ⟨Array.size (World.heap w216), 0, none⟩)) (Value.agg #[(Value.slice A212 A212l A212c), (Value.int .i64 n213)])) w217 = .ok () w218 ∧
  S205 w218 ∧
  J204 (some ⟨Array.size (World.heap w216), 0, none⟩) n214 w218) ∧
  (∀ w219, w219 = (World.alloc (World.drew w203) (.cells #[(Value.slice none 0 0), (Value.int .i64 0)] 56)) →
  S205 w219 ∧
  Calls Try.prog 46 #[(Value.agg #[(Value.slice A208 A208l A208c), (Value.int .i64 n209)]), (Value.string s210), (Value.int .i64 n211)] w219 fun e223 w224 =>
  ∃ A220, ∃ A220l, ∃ A220c, ∃ n221, ∃ n222, e223 = Ending.returned (Value.tuple #[(Value.agg #[(Value.slice A220 A220l A220c), (Value.int .i64 n221)]), (Value.int .i64 n222)]) ∧
  S205 w224 ∧
  ∃ w225, Sem.run Try.prog (Instr.storeAt 56 (Value.pointer (some ⟨Array.size (World.heap (World.drew w203)), 0, none⟩)) (Value.agg #[(Value.slice A220 A220l A220c), (Value.int .i64 n221)])) w224 = .ok () w225 ∧
  S205 w225 ∧
  J204 (some ⟨Array.size (World.heap (World.drew w203)), 0, none⟩) n222 w225) ∧ True) ∧
  ∀ r_226 f_227 (j228 : Nat → Value) (w229 : World), J204 r_226 f_227 w229 →
  V.ptr r_226 fun a230 =>
  ∃ A231, ∃ A231l, ∃ A231c, ∃ n232, V.cellsC (fun a_ x_ => World.cell? w229 a_ = some x_) a230 [(Value.slice A231 A231l A231c), (Value.int .i64 n232)] ∧
  V.ptr g_1 fun a233 =>
  ∃ w234, Sem.run Try.prog (Instr.storeAt 56 (Value.pointer (some (Addr.add a233 1))) (Value.agg #[(Value.slice A231 A231l A231c), (Value.int .i64 n232)])) w229 = .ok () w234 ∧
  Calls Try.prog 11 #[(Value.int .i64 n201)] w234 fun e236 w237 =>
  ∃ n235, e236 = Ending.returned (Value.int .i64 n235) ∧
  R (Ending.returned (Value.bool (n235 == f_227))) w237)
  (V.ptr g_1 fun a238 =>
  ∃ p239, World.cell? w7 (Addr.add a238 0) = some (Value.pointer p239) ∧
  Calls Try.prog 18 #[(Value.pointer p239)] w7 fun e240 w241 =>
  e240 = Ending.returned undef ∧
  V.ptr g_1 fun a242 =>
  ∃ A243, ∃ A243l, ∃ A243c, ∃ n244, V.cellsC (fun a_ x_ => World.cell? w241 a_ = some x_) (Addr.add a242 1) [(Value.slice A243 A243l A243c), (Value.int .i64 n244)] ∧
  Calls Try.prog 47 #[(Value.agg #[(Value.slice A243 A243l A243c), (Value.int .i64 n244)])] w241 fun e247 w248 =>
  ∃ A245, ∃ A245l, ∃ A245c, ∃ n246, e247 = Ending.returned (Value.agg #[(Value.slice A245 A245l A245c), (Value.int .i64 n246)]) ∧
  V.ptr g_1 fun a249 =>
  ∃ w250, Sem.run Try.prog (Instr.storeAt 56 (Value.pointer (some (Addr.add a249 1))) (Value.agg #[(Value.slice A245 A245l A245c), (Value.int .i64 n246)])) w248 = .ok () w250 ∧
  R (Ending.returned (Value.bool true)) w250)))) :
  Calls Try.prog 38 #[(Value.pointer g_1), (Value.agg #[(Value.int .i64 o_2), (Value.string o_3), (Value.int .i64 o_4), (Value.int .i64 o_5), (Value.slice o_6 o_6l o_6c)])] w R :=
  V.calls_of_R ⟨V.assoc [], V.assocP [(3, V.line [0, 1, 2, 3, 4, 5, 6, 7, 8, 9]), (4, (V.Plan.one 0 (V.Plan.one 1 (V.Plan.one 2 (V.Plan.one 3 (V.Plan.one 4 (V.Plan.one 5 (V.Plan.one 6 (V.Plan.one 7 (V.Plan.alt 8 (V.Plan.one 9 (V.Plan.one 10 (V.Plan.one 11 (V.Plan.one 12 (V.Plan.one 13 (V.Plan.one 14 V.Plan.done)))))) (V.Plan.alt 12 (V.Plan.one 8 (V.Plan.one 9 (V.Plan.one 10 (V.Plan.one 11 (V.Plan.one 13 (V.Plan.one 14 V.Plan.done)))))) V.Plan.stop))))))))))), (8, (V.Plan.one 0 (V.Plan.one 1 (V.Plan.one 2 (V.Plan.one 3 (V.Plan.one 4 (V.Plan.one 5 (V.Plan.alt 6 (V.Plan.one 7 (V.Plan.one 8 (V.Plan.one 9 (V.Plan.one 10 (V.Plan.one 11 (V.Plan.one 12 V.Plan.done)))))) (V.Plan.alt 10 (V.Plan.one 6 (V.Plan.one 7 (V.Plan.one 8 (V.Plan.one 9 (V.Plan.one 11 (V.Plan.one 12 V.Plan.done)))))) V.Plan.stop))))))))), (9, (V.Plan.one 0 (V.Plan.one 1 (V.Plan.one 2 (V.Plan.one 3 (V.Plan.one 4 (V.Plan.one 5 (V.Plan.alt 6 (V.Plan.one 7 (V.Plan.one 8 (V.Plan.one 9 (V.Plan.one 10 (V.Plan.alt 11 (V.Plan.one 12 (V.Plan.one 13 (V.Plan.one 14 (V.Plan.one 15 V.Plan.done)))) (V.Plan.alt 12 (V.Plan.one 11 (V.Plan.one 13 (V.Plan.one 14 (V.Plan.one 15 V.Plan.done)))) V.Plan.stop)))))) (V.Plan.alt 11 (V.Plan.alt 6 (V.Plan.one 7 (V.Plan.one 8 (V.Plan.one 9 (V.Plan.one 10 (V.Plan.one 12 (V.Plan.one 13 (V.Plan.one 14 (V.Plan.one 15 V.Plan.done)))))))) (V.Plan.alt 12 (V.Plan.one 6 (V.Plan.one 7 (V.Plan.one 8 (V.Plan.one 9 (V.Plan.one 10 (V.Plan.one 13 (V.Plan.one 14 (V.Plan.one 15 V.Plan.done)))))))) V.Plan.stop)) (V.Plan.alt 12 (V.Plan.alt 6 (V.Plan.one 7 (V.Plan.one 8 (V.Plan.one 9 (V.Plan.one 10 (V.Plan.one 11 (V.Plan.one 13 (V.Plan.one 14 (V.Plan.one 15 V.Plan.done)))))))) (V.Plan.alt 11 (V.Plan.one 6 (V.Plan.one 7 (V.Plan.one 8 (V.Plan.one 9 (V.Plan.one 10 (V.Plan.one 13 (V.Plan.one 14 (V.Plan.one 15 V.Plan.done)))))))) V.Plan.stop)) V.Plan.stop)))))))))), (13, V.line [0, 1, 2, 3, 4, 5, 6, 7, 8, 9]), (14, (V.Plan.one 0 (V.Plan.one 1 (V.Plan.one 2 (V.Plan.one 3 (V.Plan.one 4 (V.Plan.one 5 (V.Plan.one 6 (V.Plan.one 7 (V.Plan.alt 8 (V.Plan.one 9 (V.Plan.one 10 (V.Plan.one 11 (V.Plan.one 12 (V.Plan.one 13 (V.Plan.one 14 V.Plan.done)))))) (V.Plan.alt 12 (V.Plan.one 8 (V.Plan.one 9 (V.Plan.one 10 (V.Plan.one 11 (V.Plan.one 13 (V.Plan.one 14 V.Plan.done)))))) V.Plan.stop)))))))))))], V.assocC [(4, ([6, 7], [V.Sh.one .ptr, V.Sh.one (.int .i64)])), (8, ([8, 9], [V.Sh.one .ptr, V.Sh.one (.int .i64)])), (9, ([10, 11, 12], [V.Sh.one .ptr, V.Sh.one .ptr, V.Sh.one (.int .i64)])), (14, ([14, 15], [V.Sh.one .ptr, V.Sh.one (.int .i64)]))], V.assocS [], ⟨[], true⟩⟩ Try.func38 rfl (Eq.mp (by kernel_rfl) h)

theorem slices_BinarySearchFunc___api_Waiting_api_Waiting_api_Waiting__nf (x_1 : Option Addr) (x_1l : Nat) (x_1c : Nat) (target_2 : ByteArray) (target_3 : Int) (target_4 : Int) (target_5 : Int) (target_6 : Int) (target_7 : Bool) (cmp_f8 : Nat) (cmp_a9 : Array Value) (cmp_c10 : Array Value) (w : World) (R : Ending → World → Prop) (h :
  ∀ w11, w11 = (World.alloc w (.cells #[(Value.string target_2), (Value.int .i64 target_3), (Value.int .i64 target_4), (Value.int .i64 target_5), (Value.int .i64 target_6), (Value.bool target_7)] 34)) →
  ∃ I12 : Int → Int → World → Prop, ∃ μ13 : Int → Int → World → Nat, I12 0 ((x_1l : Nat) : Int) w11 ∧
  ∀ i_14 j_15 (j16 : Nat → Value) (w17 : World), I12 i_14 j_15 w17 →
  (V.sel (decide (i_14 < j_15))
  (V.lt (IntKind.wrap .i64 ((Int.fdiv (IntKind.wrap .u64 ((IntKind.wrap .i64 (i_14 + j_15)))) (2 ^ 1)))) fun x18 =>
  ∃ S19 : World → Prop, S19 (World.drew w17) ∧
  V.when (decide ((0 : Int) ≤ x18 ∧ (x18 : Int) < ((x_1l : Nat) : Int))) (V.ptr x_1 fun a21 =>
  ∃ s22, ∃ n23, ∃ n24, ∃ n25, ∃ n26, ∃ b27, V.cellsC (fun a_ x_ => ∀ w20, S19 w20 → World.cell? w20 a_ = some x_) (Addr.add a21 ((Int.toNat x18) * 6)) [(Value.string s22), (Value.int .i64 n23), (Value.int .i64 n24), (Value.int .i64 n25), (Value.int .i64 n26), (Value.bool b27)] ∧
  ∃ s28, ∃ n29, ∃ n30, ∃ n31, ∃ n32, ∃ b33, V.cellsC (fun a_ x_ => ∀ w20, S19 w20 → World.cell? w20 a_ = some x_) ⟨Array.size (World.heap w), 0, none⟩ [(Value.string s28), (Value.int .i64 n29), (Value.int .i64 n30), (Value.int .i64 n31), (Value.int .i64 n32), (Value.bool b33)] ∧
  V.when (V.hasB Try.prog cmp_f8) (Calls Try.prog cmp_f8 ⟨Array.toList cmp_a9 ++ [(Value.agg #[(Value.string s22), (Value.int .i64 n23), (Value.int .i64 n24), (Value.int .i64 n25), (Value.int .i64 n26), (Value.bool b27)]), (Value.agg #[(Value.string s28), (Value.int .i64 n29), (Value.int .i64 n30), (Value.int .i64 n31), (Value.int .i64 n32), (Value.bool b33)])] ++ Array.toList cmp_c10⟩ (World.drew w17) fun e35 w36 =>
  ∃ n34, e35 = Ending.returned (Value.int .i64 n34) ∧
  S19 w36 ∧
  V.sel (decide (n34 < 0))
  (I12 (IntKind.wrap .i64 (x18 + 1)) j_15 w36 ∧ μ13 (IntKind.wrap .i64 (x18 + 1)) j_15 w36 < μ13 i_14 j_15 w17)
  (I12 i_14 x18 w36 ∧ μ13 i_14 x18 w36 < μ13 i_14 j_15 w17))))
  (∃ S37 : World → Prop, S37 (World.drew w17) ∧
  V.sel (decide (i_14 < ((x_1l : Nat) : Int)))
  (V.when (decide ((0 : Int) ≤ i_14 ∧ (i_14 : Int) < ((x_1l : Nat) : Int))) (V.ptr x_1 fun a39 =>
  ∃ s40, ∃ n41, ∃ n42, ∃ n43, ∃ n44, ∃ b45, V.cellsC (fun a_ x_ => ∀ w38, S37 w38 → World.cell? w38 a_ = some x_) (Addr.add a39 ((Int.toNat i_14) * 6)) [(Value.string s40), (Value.int .i64 n41), (Value.int .i64 n42), (Value.int .i64 n43), (Value.int .i64 n44), (Value.bool b45)] ∧
  ∃ s46, ∃ n47, ∃ n48, ∃ n49, ∃ n50, ∃ b51, V.cellsC (fun a_ x_ => ∀ w38, S37 w38 → World.cell? w38 a_ = some x_) ⟨Array.size (World.heap w), 0, none⟩ [(Value.string s46), (Value.int .i64 n47), (Value.int .i64 n48), (Value.int .i64 n49), (Value.int .i64 n50), (Value.bool b51)] ∧
  V.when (V.hasB Try.prog cmp_f8) (Calls Try.prog cmp_f8 ⟨Array.toList cmp_a9 ++ [(Value.agg #[(Value.string s40), (Value.int .i64 n41), (Value.int .i64 n42), (Value.int .i64 n43), (Value.int .i64 n44), (Value.bool b45)]), (Value.agg #[(Value.string s46), (Value.int .i64 n47), (Value.int .i64 n48), (Value.int .i64 n49), (Value.int .i64 n50), (Value.bool b51)])] ++ Array.toList cmp_c10⟩ (World.drew w17) fun e53 w54 =>
  ∃ n52, e53 = Ending.returned (Value.int .i64 n52) ∧
  S37 w54 ∧
  R (Ending.returned (Value.tuple #[(Value.int .i64 i_14), (Value.bool (n52 == 0))])) w54)))
  (R (Ending.returned (Value.tuple #[(Value.int .i64 i_14), (Value.bool false)])) (World.drew w17))))) :
  Calls Try.prog 39 #[(Value.slice x_1 x_1l x_1c), (Value.agg #[(Value.string target_2), (Value.int .i64 target_3), (Value.int .i64 target_4), (Value.int .i64 target_5), (Value.int .i64 target_6), (Value.bool target_7)]), (Value.func (.func cmp_f8) cmp_a9 cmp_c10)] w R :=
  V.calls_of_R ⟨V.assoc [(0, [9, 10])], V.assocP [(5, V.line [0, 1, 2, 3, 4, 5, 6, 7]), (8, V.line [0, 1, 2, 3, 4, 5, 6, 7, 8, 9, 10, 11, 12, 13, 14, 15])], V.assocC [], V.assocS [], ⟨[], true⟩⟩ Try.func39 rfl (Eq.mp (by kernel_rfl) h)

theorem slices_Insert___api_Waiting_api_Waiting__nf (s_1 : Option Addr) (s_1l : Nat) (s_1c : Nat) (i_2 : Int) (v_3 : Option Addr) (v_3l : Nat) (v_3c : Nat) (w : World) (R : Ending → World → Prop) (h :
  V.when (decide ((0 : Int) ≤ i_2 ∧ (i_2 : Int) ≤ ((s_1l : Nat) : Int))) (V.sel (((v_3l : Nat) : Int) == 0)
  (R (Ending.returned (Value.slice s_1 s_1l s_1c)) w)
  (V.sel (i_2 == ((s_1l : Nat) : Int))
  (∃ A4, ∃ A4l, ∃ A4c, ∃ w5, Sem.run Try.prog (Builtin.append_ #[29, 29] 29 #[(Value.slice s_1 s_1l s_1c), (Value.slice v_3 v_3l v_3c)]) w = .ok (Value.slice A4 A4l A4c) w5 ∧
  R (Ending.returned (Value.slice A4 A4l A4c)) w5)
  (V.sel (decide ((IntKind.wrap .i64 (((s_1l : Nat) : Int) + ((v_3l : Nat) : Int))) > ((s_1c : Nat) : Int)))
  (V.when (decide ((0 : Int) ≤ i_2 ∧ (i_2 : Int) ≤ ((s_1c : Nat) : Int))) (∃ A6, ∃ A6l, ∃ A6c, ∃ w7, Sem.run Try.prog (Builtin.append_ #[29, 3] 29 #[(Value.slice (V.cut s_1 s_1c 0 6) ((Int.toNat i_2) - 0) (s_1c - 0)), (Value.int .i64 (IntKind.wrap .i64 ((IntKind.wrap .i64 (((s_1l : Nat) : Int) + ((v_3l : Nat) : Int))) - i_2)))]) w = .ok (Value.slice A6 A6l A6c) w7 ∧
  V.when (decide ((0 : Int) ≤ i_2 ∧ (i_2 : Int) ≤ ((A6l : Nat) : Int))) (∃ n8, ∃ w9, Sem.run Try.prog (Builtin.copy_ #[29, 29] 3 #[(Value.slice (V.cut A6 A6c (Int.toNat i_2) 6) (A6l - (Int.toNat i_2)) (A6c - (Int.toNat i_2))), (Value.slice v_3 v_3l v_3c)]) w7 = .ok (Value.int .i64 n8) w9 ∧
  ∃ S10 : World → Prop, S10 (World.drew w9) ∧
  V.when (decide ((0 : Int) ≤ (IntKind.wrap .i64 (i_2 + ((v_3l : Nat) : Int))) ∧ ((IntKind.wrap .i64 (i_2 + ((v_3l : Nat) : Int))) : Int) ≤ ((A6l : Nat) : Int))) (V.when (decide ((0 : Int) ≤ i_2 ∧ (i_2 : Int) ≤ ((s_1l : Nat) : Int))) (∃ n12, ∃ w13, Sem.run Try.prog (Builtin.copy_ #[29, 29] 3 #[(Value.slice (V.cut A6 A6c (Int.toNat (IntKind.wrap .i64 (i_2 + ((v_3l : Nat) : Int)))) 6) (A6l - (Int.toNat (IntKind.wrap .i64 (i_2 + ((v_3l : Nat) : Int))))) (A6c - (Int.toNat (IntKind.wrap .i64 (i_2 + ((v_3l : Nat) : Int)))))), (Value.slice (V.cut s_1 s_1c (Int.toNat i_2) 6) (s_1l - (Int.toNat i_2)) (s_1c - (Int.toNat i_2)))]) (World.drew w9) = .ok (Value.int .i64 n12) w13 ∧
  S10 w13 ∧
  R (Ending.returned (Value.slice A6 A6l A6c)) w13)))))
  (V.when (decide ((0 : Int) ≤ (IntKind.wrap .i64 (((s_1l : Nat) : Int) + ((v_3l : Nat) : Int))) ∧ ((IntKind.wrap .i64 (((s_1l : Nat) : Int) + ((v_3l : Nat) : Int))) : Int) ≤ ((s_1c : Nat) : Int))) (V.when (decide ((0 : Int) ≤ (IntKind.wrap .i64 (i_2 + ((v_3l : Nat) : Int))) ∧ ((IntKind.wrap .i64 (i_2 + ((v_3l : Nat) : Int))) : Int) ≤ ((((Int.toNat (IntKind.wrap .i64 (((s_1l : Nat) : Int) + ((v_3l : Nat) : Int)))) - 0) : Nat) : Int))) (∃ b14, ∃ w16, Sem.run Try.prog (callFunc 48 #[(Value.slice v_3 v_3l v_3c), (Value.slice (V.cut (V.cut s_1 s_1c 0 6) (s_1c - 0) (Int.toNat (IntKind.wrap .i64 (i_2 + ((v_3l : Nat) : Int)))) 6) (((Int.toNat (IntKind.wrap .i64 (((s_1l : Nat) : Int) + ((v_3l : Nat) : Int)))) - 0) - (Int.toNat (IntKind.wrap .i64 (i_2 + ((v_3l : Nat) : Int))))) ((s_1c - 0) - (Int.toNat (IntKind.wrap .i64 (i_2 + ((v_3l : Nat) : Int))))))]) w = .ok (.value (Value.bool b14)) w16 ∧
  V.sel (!b14)
  (∃ S17 : World → Prop, S17 (World.drew w16) ∧
  V.when (decide ((0 : Int) ≤ (IntKind.wrap .i64 (i_2 + ((v_3l : Nat) : Int))) ∧ ((IntKind.wrap .i64 (i_2 + ((v_3l : Nat) : Int))) : Int) ≤ ((((Int.toNat (IntKind.wrap .i64 (((s_1l : Nat) : Int) + ((v_3l : Nat) : Int)))) - 0) : Nat) : Int))) (V.when (decide ((0 : Int) ≤ i_2 ∧ (i_2 : Int) ≤ ((((Int.toNat (IntKind.wrap .i64 (((s_1l : Nat) : Int) + ((v_3l : Nat) : Int)))) - 0) : Nat) : Int))) (∃ n19, ∃ w20, Sem.run Try.prog (Builtin.copy_ #[29, 29] 3 #[(Value.slice (V.cut (V.cut s_1 s_1c 0 6) (s_1c - 0) (Int.toNat (IntKind.wrap .i64 (i_2 + ((v_3l : Nat) : Int)))) 6) (((Int.toNat (IntKind.wrap .i64 (((s_1l : Nat) : Int) + ((v_3l : Nat) : Int)))) - 0) - (Int.toNat (IntKind.wrap .i64 (i_2 + ((v_3l : Nat) : Int))))) ((s_1c - 0) - (Int.toNat (IntKind.wrap .i64 (i_2 + ((v_3l : Nat) : Int)))))), (Value.slice (V.cut (V.cut s_1 s_1c 0 6) (s_1c - 0) (Int.toNat i_2) 6) (((Int.toNat (IntKind.wrap .i64 (((s_1l : Nat) : Int) + ((v_3l : Nat) : Int)))) - 0) - (Int.toNat i_2)) ((s_1c - 0) - (Int.toNat i_2)))]) (World.drew w16) = .ok (Value.int .i64 n19) w20 ∧
  S17 w20 ∧
  V.when (decide ((0 : Int) ≤ i_2 ∧ (i_2 : Int) ≤ ((((Int.toNat (IntKind.wrap .i64 (((s_1l : Nat) : Int) + ((v_3l : Nat) : Int)))) - 0) : Nat) : Int))) (∃ n21, ∃ w22, Sem.run Try.prog (Builtin.copy_ #[29, 29] 3 #[(Value.slice (V.cut (V.cut s_1 s_1c 0 6) (s_1c - 0) (Int.toNat i_2) 6) (((Int.toNat (IntKind.wrap .i64 (((s_1l : Nat) : Int) + ((v_3l : Nat) : Int)))) - 0) - (Int.toNat i_2)) ((s_1c - 0) - (Int.toNat i_2))), (Value.slice v_3 v_3l v_3c)]) w20 = .ok (Value.int .i64 n21) w22 ∧
  R (Ending.returned (Value.slice (V.cut s_1 s_1c 0 6) ((Int.toNat (IntKind.wrap .i64 (((s_1l : Nat) : Int) + ((v_3l : Nat) : Int)))) - 0) (s_1c - 0))) w22))))
  (V.when (decide ((0 : Int) ≤ ((s_1l : Nat) : Int) ∧ (((s_1l : Nat) : Int) : Int) ≤ ((((Int.toNat (IntKind.wrap .i64 (((s_1l : Nat) : Int) + ((v_3l : Nat) : Int)))) - 0) : Nat) : Int))) (∃ n23, ∃ w24, Sem.run Try.prog (Builtin.copy_ #[29, 29] 3 #[(Value.slice (V.cut (V.cut s_1 s_1c 0 6) (s_1c - 0) (s_1l : Nat) 6) (((Int.toNat (IntKind.wrap .i64 (((s_1l : Nat) : Int) + ((v_3l : Nat) : Int)))) - 0) - (s_1l : Nat)) ((s_1c - 0) - (s_1l : Nat))), (Value.slice v_3 v_3l v_3c)]) w16 = .ok (Value.int .i64 n23) w24 ∧
  V.when (decide ((0 : Int) ≤ i_2 ∧ (i_2 : Int) ≤ ((((Int.toNat (IntKind.wrap .i64 (((s_1l : Nat) : Int) + ((v_3l : Nat) : Int)))) - 0) : Nat) : Int))) (Calls Try.prog 49 #[(Value.slice (V.cut (V.cut s_1 s_1c 0 6) (s_1c - 0) (Int.toNat i_2) 6) (((Int.toNat (IntKind.wrap .i64 (((s_1l : Nat) : Int) + ((v_3l : Nat) : Int)))) - 0) - (Int.toNat i_2)) ((s_1c - 0) - (Int.toNat i_2))), (Value.int .i64 ((v_3l : Nat) : Int))] w24 fun e25 w26 =>
  e25 = Ending.returned undef ∧
  R (Ending.returned (Value.slice (V.cut s_1 s_1c 0 6) ((Int.toNat (IntKind.wrap .i64 (((s_1l : Nat) : Int) + ((v_3l : Nat) : Int)))) - 0) (s_1c - 0))) w26)))))))))) :
  Calls Try.prog 40 #[(Value.slice s_1 s_1l s_1c), (Value.int .i64 i_2), (Value.slice v_3 v_3l v_3c)] w R :=
  V.calls_of_R ⟨V.assoc [], V.assocP [(11, V.line [0, 1, 2, 3, 4, 5, 6, 7, 8]), (15, V.line [0, 1, 2, 3, 4, 5, 6, 7, 8])], V.assocC [], V.assocS [], ⟨[48], true⟩⟩ Try.func40 rfl (Eq.mp (by kernel_rfl) h)

theorem slices_Delete___api_Waiting_api_Waiting__nf (s_1 : Option Addr) (s_1l : Nat) (s_1c : Nat) (i_2 : Int) (j_3 : Int) (w : World) (R : Ending → World → Prop) (h :
  V.when (decide ((0 : Int) ≤ ((s_1l : Nat) : Int) ∧ (((s_1l : Nat) : Int) : Int) ≤ ((s_1c : Nat) : Int))) (V.when (decide ((0 : Int) ≤ j_3 ∧ (j_3 : Int) ≤ (((s_1l : Nat) : Nat) : Int))) (V.when (decide ((0 : Int) ≤ i_2 ∧ (i_2 : Int) ≤ (((Int.toNat j_3) : Nat) : Int))) (V.sel (i_2 == j_3)
  (R (Ending.returned (Value.slice s_1 s_1l s_1c)) w)
  (∃ S4 : World → Prop, S4 (World.drew w) ∧
  V.when (decide ((0 : Int) ≤ i_2 ∧ (i_2 : Int) ≤ ((s_1c : Nat) : Int))) (V.when (decide ((0 : Int) ≤ j_3 ∧ (j_3 : Int) ≤ ((s_1l : Nat) : Int))) (∃ A6, ∃ A6l, ∃ A6c, ∃ w7, Sem.run Try.prog (Builtin.append_ #[29, 29] 29 #[(Value.slice (V.cut s_1 s_1c 0 6) ((Int.toNat i_2) - 0) (s_1c - 0)), (Value.slice (V.cut s_1 s_1c (Int.toNat j_3) 6) (s_1l - (Int.toNat j_3)) (s_1c - (Int.toNat j_3)))]) (World.drew w) = .ok (Value.slice A6 A6l A6c) w7 ∧
  S4 w7 ∧
  V.when (decide ((0 : Int) ≤ ((s_1l : Nat) : Int) ∧ (((s_1l : Nat) : Int) : Int) ≤ ((A6c : Nat) : Int))) (V.when (decide ((0 : Int) ≤ ((A6l : Nat) : Int) ∧ (((A6l : Nat) : Int) : Int) ≤ (((s_1l : Nat) : Nat) : Int))) (∃ w8, Sem.run Try.prog (Builtin.clear_ #[29] 0 #[(Value.slice (V.cut A6 A6c (A6l : Nat) 6) ((s_1l : Nat) - (A6l : Nat)) (A6c - (A6l : Nat)))]) w7 = .ok undef w8 ∧
  R (Ending.returned (Value.slice A6 A6l A6c)) w8))))))))) :
  Calls Try.prog 41 #[(Value.slice s_1 s_1l s_1c), (Value.int .i64 i_2), (Value.int .i64 j_3)] w R :=
  V.calls_of_R ⟨V.assoc [], V.assocP [(5, V.line [0, 1, 2, 3, 4, 5, 6, 7])], V.assocC [], V.assocS [], ⟨[], true⟩⟩ Try.func41 rfl (Eq.mp (by kernel_rfl) h)

theorem cmp_Compare_int__nf (x_1 : Int) (y_2 : Int) (w : World) (R : Ending → World → Prop) (h :
  Calls Try.prog 50 #[(Value.int .i64 x_1)] w fun e4 w5 =>
  ∃ b3, e4 = Ending.returned (Value.bool b3) ∧
  Calls Try.prog 50 #[(Value.int .i64 y_2)] w5 fun e7 w8 =>
  ∃ b6, e7 = Ending.returned (Value.bool b6) ∧
  V.sel b3
  (V.sel b6
  (R (Ending.returned (Value.int .i64 0)) w8)
  (R (Ending.returned (Value.int .i64 (-1))) w8))
  (V.sel b6
  (R (Ending.returned (Value.int .i64 1)) w8)
  (V.sel (decide (x_1 < y_2))
  (R (Ending.returned (Value.int .i64 (-1))) w8)
  (V.sel (decide (x_1 > y_2))
  (R (Ending.returned (Value.int .i64 1)) w8)
  (R (Ending.returned (Value.int .i64 0)) w8))))) :
  Calls Try.prog 42 #[(Value.int .i64 x_1), (Value.int .i64 y_2)] w R :=
  V.calls_of_R ⟨V.assoc [], V.assocP [], V.assocC [], V.assocS [], ⟨[], true⟩⟩ Try.func42 rfl (Eq.mp (by kernel_rfl) h)

end Go.Proofs.Ytfjgiaimlmnepaa
