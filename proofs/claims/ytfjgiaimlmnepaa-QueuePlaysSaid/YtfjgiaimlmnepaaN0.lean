/- Normal forms of the program's functions, printed by a program of mine; the kernel checks each. -/
import Derived.Test.YtfjgiaimlmnepaaProg
import Derived.Test.YtfjgiaimlmnepaaV2
set_option linter.unusedVariables false
set_option maxRecDepth 100000
namespace Go.Proofs.Ytfjgiaimlmnepaa
open Go

theorem berthlaw25_QueueNames_nf  (w : World) (R : Ending → World → Prop) (h :
  Calls Try.prog 11 #[(Value.int .i64 250)] w fun e2 w3 =>
  ∃ n1, e2 = Ending.returned (Value.int .i64 n1) ∧
  V.sel (n1 != 250)
  (R (Ending.returned (Value.bool false)) w3)
  (Calls Try.prog 11 #[(Value.int .i64 251)] w3 fun e5 w6 =>
  ∃ n4, e5 = Ending.returned (Value.int .i64 n4) ∧
  V.sel (n4 != 251)
  (R (Ending.returned (Value.bool false)) w6)
  (Calls Try.prog 11 #[(Value.int .i64 252)] w6 fun e8 w9 =>
  ∃ n7, e8 = Ending.returned (Value.int .i64 n7) ∧
  V.sel (n7 != 252)
  (R (Ending.returned (Value.bool false)) w9)
  (Calls Try.prog 11 #[(Value.int .i64 253)] w9 fun e11 w12 =>
  ∃ n10, e11 = Ending.returned (Value.int .i64 n10) ∧
  V.sel (n10 != 253)
  (R (Ending.returned (Value.bool false)) w12)
  (Calls Try.prog 11 #[(Value.int .i64 254)] w12 fun e14 w15 =>
  ∃ n13, e14 = Ending.returned (Value.int .i64 n13) ∧
  V.sel (n13 != 254)
  (R (Ending.returned (Value.bool false)) w15)
  (Calls Try.prog 11 #[(Value.int .i64 255)] w15 fun e17 w18 =>
  ∃ n16, e17 = Ending.returned (Value.int .i64 n16) ∧
  V.sel (n16 != 255)
  (R (Ending.returned (Value.bool false)) w18)
  (Calls Try.prog 11 #[(Value.int .i64 1)] w18 fun e20 w21 =>
  ∃ n19, e20 = Ending.returned (Value.int .i64 n19) ∧
  V.sel (n19 != 1)
  (R (Ending.returned (Value.bool false)) w21)
  (R (Ending.returned (Value.bool true)) w21)))))))) :
  Calls Try.prog 3 #[] w R :=
  V.calls_of_R ⟨V.assoc [], V.assocP [], V.assocC [], V.assocS [], ⟨[], true⟩⟩ Try.func3 rfl (Eq.mp (by kernel_rfl) h)

theorem berthlaw25_QueueFair_nf (script_1 : Option Addr) (script_1l : Nat) (script_1c : Nat) (w : World) (R : Ending → World → Prop) (h :
  Calls Try.prog 12 #[] w fun e3 w4 =>
  ∃ b2, e3 = Ending.returned (Value.bool b2) ∧
  V.sel (!b2)
  (R (Ending.returned (Value.bool false)) w4)
  (Calls Try.prog 13 #[] w4 fun e6 w7 =>
  ∃ p5, e6 = Ending.returned (Value.pointer p5) ∧
  ∃ I8 : Option Addr → Nat → Nat → Int → World → Prop, ∃ μ9 : Option Addr → Nat → Nat → Int → World → Nat, I8 none 0 0 0 w7 ∧
  ∀ in_10 in_10l in_10c i_11 (j12 : Nat → Value) (w13 : World), I8 in_10 in_10l in_10c i_11 w13 →
  (V.sel (decide (i_11 < ((script_1l : Nat) : Int)))
  (V.when (decide ((0 : Int) ≤ i_11 ∧ (i_11 : Int) < ((script_1l : Nat) : Int))) (V.ptr script_1 fun a14 =>
  ∃ n15, ∃ s16, ∃ n17, ∃ n18, ∃ A19, ∃ A19l, ∃ A19c, V.cellsC (fun a_ x_ => World.cell? w13 a_ = some x_) (Addr.add a14 ((Int.toNat i_11) * 5)) [(Value.int .i64 n15), (Value.string s16), (Value.int .i64 n17), (Value.int .i64 n18), (Value.slice A19 A19l A19c)] ∧
  ∀ w20, w20 = (World.alloc w13 (.cells #[(Value.int .i64 0), (Value.string ByteArray.empty), (Value.int .i64 0), (Value.int .i64 0), (Value.slice none 0 0)] 31)) →
  ∃ w21, Sem.run Try.prog (Instr.storeAt 31 (Value.pointer (some ⟨Array.size (World.heap w13), 0, none⟩)) (Value.agg #[(Value.int .i64 n15), (Value.string s16), (Value.int .i64 n17), (Value.int .i64 n18), (Value.slice A19 A19l A19c)])) w20 = .ok () w21 ∧
  ∃ n22, World.cell? w21 (Addr.add ⟨Array.size (World.heap w13), 0, none⟩ 0) = some (Value.int .i64 n22) ∧
  V.sel (n22 == 4)
  (∃ s23, World.cell? w21 (Addr.add ⟨Array.size (World.heap w13), 0, none⟩ 1) = some (Value.string s23) ∧
  ∃ n24, World.cell? w21 (Addr.add ⟨Array.size (World.heap w13), 0, none⟩ 2) = some (Value.int .i64 n24) ∧
  Calls Try.prog 14 #[(Value.pointer p5), (Value.string s23), (Value.int .i64 n24)] w21 fun e26 w27 =>
  ∃ n25, e26 = Ending.returned (Value.int .i64 n25) ∧
  Calls Try.prog 11 #[(Value.int .i64 n25)] w27 fun e29 w30 =>
  ∃ n28, e29 = Ending.returned (Value.int .i64 n28) ∧
  V.sel (n28 == 0)
  (∃ s31, World.cell? w30 (Addr.add ⟨Array.size (World.heap w13), 0, none⟩ 1) = some (Value.string s31) ∧
  ∀ w32, w32 = (World.alloc w30 (.cells #[(Value.string s31)] 9)) →
  ∃ A33, ∃ A33l, ∃ A33c, ∃ w34, Sem.run Try.prog (Builtin.append_ #[28, 28] 28 #[(Value.slice in_10 in_10l in_10c), (Value.slice (some ⟨Array.size (World.heap w30), 0, none⟩) 1 1)]) w32 = .ok (Value.slice A33 A33l A33c) w34 ∧
  I8 A33 A33l A33c (IntKind.wrap .i64 (i_11 + 1)) w34 ∧ μ9 A33 A33l A33c (IntKind.wrap .i64 (i_11 + 1)) w34 < μ9 in_10 in_10l in_10c i_11 w13)
  (I8 in_10 in_10l in_10c (IntKind.wrap .i64 (i_11 + 1)) w30 ∧ μ9 in_10 in_10l in_10c (IntKind.wrap .i64 (i_11 + 1)) w30 < μ9 in_10 in_10l in_10c i_11 w13))
  (V.sel (n22 == 5)
  (∃ s35, World.cell? w21 (Addr.add ⟨Array.size (World.heap w13), 0, none⟩ 1) = some (Value.string s35) ∧
  Calls Try.prog 15 #[(Value.pointer p5), (Value.string s35)] w21 fun e43 w44 =>
  ∃ s36, ∃ n37, ∃ n38, ∃ n39, ∃ n40, ∃ b41, ∃ n42, e43 = Ending.returned (Value.tuple #[(Value.agg #[(Value.string s36), (Value.int .i64 n37), (Value.int .i64 n38), (Value.int .i64 n39), (Value.int .i64 n40), (Value.bool b41)]), (Value.int .i64 n42)]) ∧
  ∀ w45, w45 = (World.alloc w44 (.cells #[(Value.string ByteArray.empty), (Value.int .i64 0), (Value.int .i64 0), (Value.int .i64 0), (Value.int .i64 0), (Value.bool false)] 34)) →
  ∃ w46, Sem.run Try.prog (Instr.storeAt 34 (Value.pointer (some ⟨Array.size (World.heap w44), 0, none⟩)) (Value.agg #[(Value.string s36), (Value.int .i64 n37), (Value.int .i64 n38), (Value.int .i64 n39), (Value.int .i64 n40), (Value.bool b41)])) w45 = .ok () w46 ∧
  ∃ s47, World.cell? w46 (Addr.add ⟨Array.size (World.heap w13), 0, none⟩ 1) = some (Value.string s47) ∧
  Calls Try.prog 16 #[(Value.slice in_10 in_10l in_10c), (Value.string s47)] w46 fun e49 w50 =>
  ∃ A48, ∃ A48l, ∃ A48c, e49 = Ending.returned (Value.slice A48 A48l A48c) ∧
  Calls Try.prog 11 #[(Value.int .i64 n42)] w50 fun e52 w53 =>
  ∃ n51, e52 = Ending.returned (Value.int .i64 n51) ∧
  V.sel (!((n51 == 0) == (decide (((A48l : Nat) : Int) < ((in_10l : Nat) : Int)))))
  (R (Ending.returned (Value.bool false)) w53)
  (I8 A48 A48l A48c (IntKind.wrap .i64 (i_11 + 1)) w53 ∧ μ9 A48 A48l A48c (IntKind.wrap .i64 (i_11 + 1)) w53 < μ9 in_10 in_10l in_10c i_11 w13))
  (V.sel (n22 == 7)
  (∃ s54, World.cell? w21 (Addr.add ⟨Array.size (World.heap w13), 0, none⟩ 1) = some (Value.string s54) ∧
  ∃ n55, World.cell? w21 (Addr.add ⟨Array.size (World.heap w13), 0, none⟩ 3) = some (Value.int .i64 n55) ∧
  Calls Try.prog 17 #[(Value.pointer p5), (Value.string s54), (Value.int .i64 n55)] w21 fun e57 w58 =>
  ∃ n56, e57 = Ending.returned (Value.int .i64 n56) ∧
  I8 in_10 in_10l in_10c (IntKind.wrap .i64 (i_11 + 1)) w58 ∧ μ9 in_10 in_10l in_10c (IntKind.wrap .i64 (i_11 + 1)) w58 < μ9 in_10 in_10l in_10c i_11 w13)
  (V.sel (n22 == 8)
  (Calls Try.prog 18 #[(Value.pointer p5)] w21 fun e59 w60 =>
  e59 = Ending.returned undef ∧
  I8 in_10 in_10l in_10c (IntKind.wrap .i64 (i_11 + 1)) w60 ∧ μ9 in_10 in_10l in_10c (IntKind.wrap .i64 (i_11 + 1)) w60 < μ9 in_10 in_10l in_10c i_11 w13)
  (I8 in_10 in_10l in_10c (IntKind.wrap .i64 (i_11 + 1)) w21 ∧ μ9 in_10 in_10l in_10c (IntKind.wrap .i64 (i_11 + 1)) w21 < μ9 in_10 in_10l in_10c i_11 w13))))))
  (Calls Try.prog 18 #[(Value.pointer p5)] w13 fun e61 w62 =>
  e61 = Ending.returned undef ∧
  Calls Try.prog 19 #[(Value.pointer p5)] w62 fun e64 w65 =>
  ∃ A63, ∃ A63l, ∃ A63c, e64 = Ending.returned (Value.slice A63 A63l A63c) ∧
  V.sel (((A63l : Nat) : Int) != ((in_10l : Nat) : Int))
  (R (Ending.returned (Value.bool false)) w65)
  (∃ I66 : Option Addr → Nat → Nat → Int → World → Prop, ∃ μ67 : Option Addr → Nat → Nat → Int → World → Nat, I66 in_10 in_10l in_10c 0 w65 ∧
  ∀ in_68 in_68l in_68c i_69 (j70 : Nat → Value) (w71 : World), I66 in_68 in_68l in_68c i_69 w71 →
  (V.sel (decide (i_69 < ((A63l : Nat) : Int)))
  (V.when (decide ((0 : Int) ≤ i_69 ∧ (i_69 : Int) < ((A63l : Nat) : Int))) (V.ptr A63 fun a72 =>
  ∃ b73, World.cell? w71 (Addr.add (Addr.add a72 ((Int.toNat i_69) * 6)) 5) = some (Value.bool b73) ∧
  V.sel b73
  (R (Ending.returned (Value.bool false)) w71)
  (V.when (decide ((0 : Int) ≤ i_69 ∧ (i_69 : Int) < ((A63l : Nat) : Int))) (V.ptr A63 fun a74 =>
  ∃ n75, World.cell? w71 (Addr.add (Addr.add a74 ((Int.toNat i_69) * 6)) 4) = some (Value.int .i64 n75) ∧
  V.sel (decide (n75 > 1099511627840))
  (R (Ending.returned (Value.bool false)) w71)
  (V.when (decide ((0 : Int) ≤ i_69 ∧ (i_69 : Int) < ((A63l : Nat) : Int))) (V.ptr A63 fun a76 =>
  ∃ s77, World.cell? w71 (Addr.add (Addr.add a76 ((Int.toNat i_69) * 6)) 0) = some (Value.string s77) ∧
  Calls Try.prog 16 #[(Value.slice in_68 in_68l in_68c), (Value.string s77)] w71 fun e79 w80 =>
  ∃ A78, ∃ A78l, ∃ A78c, e79 = Ending.returned (Value.slice A78 A78l A78c) ∧
  V.sel (((A78l : Nat) : Int) != (IntKind.wrap .i64 (((in_68l : Nat) : Int) - 1)))
  (R (Ending.returned (Value.bool false)) w80)
  (V.when (decide ((0 : Int) ≤ i_69 ∧ (i_69 : Int) < ((A63l : Nat) : Int))) (V.ptr A63 fun a81 =>
  ∃ n82, World.cell? w80 (Addr.add (Addr.add a81 ((Int.toNat i_69) * 6)) 4) = some (Value.int .i64 n82) ∧
  V.sel (decide (n82 ≤ 1099511627776))
  (Calls Try.prog 20 #[(Value.pointer p5), (Value.int .i64 1099511627776)] w80 fun e85 w86 =>
  ∃ s83, ∃ b84, e85 = Ending.returned (Value.tuple #[(Value.string s83), (Value.bool b84)]) ∧
  Calls Try.prog 15 #[(Value.pointer p5), (Value.string s83)] w86 fun e94 w95 =>
  ∃ s87, ∃ n88, ∃ n89, ∃ n90, ∃ n91, ∃ b92, ∃ n93, e94 = Ending.returned (Value.tuple #[(Value.agg #[(Value.string s87), (Value.int .i64 n88), (Value.int .i64 n89), (Value.int .i64 n90), (Value.int .i64 n91), (Value.bool b92)]), (Value.int .i64 n93)]) ∧
  ∀ w96, w96 = (World.alloc w95 (.cells #[(Value.string ByteArray.empty), (Value.int .i64 0), (Value.int .i64 0), (Value.int .i64 0), (Value.int .i64 0), (Value.bool false)] 34)) →
  ∃ w97, Sem.run Try.prog (Instr.storeAt 34 (Value.pointer (some ⟨Array.size (World.heap w95), 0, none⟩)) (Value.agg #[(Value.string s87), (Value.int .i64 n88), (Value.int .i64 n89), (Value.int .i64 n90), (Value.int .i64 n91), (Value.bool b92)])) w96 = .ok () w97 ∧
  ∃ S98 : World → Prop, S98 (World.drew w97) ∧
  V.sel (!b84)
  (R (Ending.returned (Value.bool false)) (World.drew w97))
  (Calls Try.prog 11 #[(Value.int .i64 n93)] (World.drew w97) fun e101 w102 =>
  ∃ n100, e101 = Ending.returned (Value.int .i64 n100) ∧
  S98 w102 ∧
  V.sel (n100 != 0)
  (R (Ending.returned (Value.bool false)) w102)
  (∃ s103, ∃ n104, ∃ n105, ∃ n106, ∃ n107, ∃ b108, V.cellsC (fun a_ x_ => ∀ w99, S98 w99 → World.cell? w99 a_ = some x_) ⟨Array.size (World.heap w95), 0, none⟩ [(Value.string s103), (Value.int .i64 n104), (Value.int .i64 n105), (Value.int .i64 n106), (Value.int .i64 n107), (Value.bool b108)] ∧
  V.when (decide ((0 : Int) ≤ i_69 ∧ (i_69 : Int) < ((A63l : Nat) : Int))) (V.ptr A63 fun a109 =>
  ∃ s110, ∃ n111, ∃ n112, ∃ n113, ∃ n114, ∃ b115, V.cellsC (fun a_ x_ => ∀ w99, S98 w99 → World.cell? w99 a_ = some x_) (Addr.add a109 ((Int.toNat i_69) * 6)) [(Value.string s110), (Value.int .i64 n111), (Value.int .i64 n112), (Value.int .i64 n113), (Value.int .i64 n114), (Value.bool b115)] ∧
  V.sel (!((ByteArray.toList s103 == ByteArray.toList s110) && (((n104 : Int) == n111) && (((n105 : Int) == n112) && (((n106 : Int) == n113) && (((n107 : Int) == n114) && ((b108 == b115) && true)))))))
  (R (Ending.returned (Value.bool false)) w102)
  (I66 A78 A78l A78c (IntKind.wrap .i64 (i_69 + 1)) w102 ∧ μ67 A78 A78l A78c (IntKind.wrap .i64 (i_69 + 1)) w102 < μ67 in_68 in_68l in_68c i_69 w71)))))
  (I66 A78 A78l A78c (IntKind.wrap .i64 (i_69 + 1)) w80 ∧ μ67 A78 A78l A78c (IntKind.wrap .i64 (i_69 + 1)) w80 < μ67 in_68 in_68l in_68c i_69 w71)))))))))
  (R (Ending.returned (Value.bool (((in_68l : Nat) : Int) == 0))) w71))))))) :
  Calls Try.prog 4 #[(Value.slice script_1 script_1l script_1c)] w R :=
  V.calls_of_R ⟨V.assoc [(0, [4, 5]), (1, [4, 11])], V.assocP [(39, V.line [0, 1, 2, 3, 4, 5, 6, 7, 8, 9, 10, 11, 12, 13, 14])], V.assocC [], V.assocS [], ⟨[], true⟩⟩ Try.func4 rfl (Eq.mp (by kernel_rfl) h)

theorem berthlaw25_QueueOrder_nf (script_1 : Option Addr) (script_1l : Nat) (script_1c : Nat) (w : World) (R : Ending → World → Prop) (h :
  Calls Try.prog 12 #[] w fun e3 w4 =>
  ∃ b2, e3 = Ending.returned (Value.bool b2) ∧
  V.sel (!b2)
  (R (Ending.returned (Value.bool false)) w4)
  (Calls Try.prog 13 #[] w4 fun e6 w7 =>
  ∃ p5, e6 = Ending.returned (Value.pointer p5) ∧
  Calls Try.prog 21 #[(Value.pointer p5), (Value.slice script_1 script_1l script_1c)] w7 fun e8 w9 =>
  e8 = Ending.returned undef ∧
  Calls Try.prog 19 #[(Value.pointer p5)] w9 fun e11 w12 =>
  ∃ A10, ∃ A10l, ∃ A10c, e11 = Ending.returned (Value.slice A10 A10l A10c) ∧
  Calls Try.prog 22 #[(Value.pointer p5)] w12 fun e14 w15 =>
  ∃ n13, e14 = Ending.returned (Value.int .i64 n13) ∧
  V.sel (((A10l : Nat) : Int) != n13)
  (R (Ending.returned (Value.bool false)) w15)
  (∃ I16 : Int → World → Prop, ∃ μ17 : Int → World → Nat, I16 0 w15 ∧
  ∀ i_18 (j19 : Nat → Value) (w20 : World), I16 i_18 w20 →
  (V.sel (decide (i_18 < ((A10l : Nat) : Int)))
  (∃ S21 : World → Prop, S21 (World.drew w20) ∧
  V.when (decide ((0 : Int) ≤ i_18 ∧ (i_18 : Int) < ((A10l : Nat) : Int))) (V.ptr A10 fun a23 =>
  ∃ n24, (∀ w22, S21 w22 → World.cell? w22 (Addr.add (Addr.add a23 ((Int.toNat i_18) * 6)) 2) = some (Value.int .i64 n24)) ∧
  V.sel (decide (n24 < 0))
  (R (Ending.returned (Value.bool false)) (World.drew w20))
  (V.when (decide ((0 : Int) ≤ i_18 ∧ (i_18 : Int) < ((A10l : Nat) : Int))) (V.ptr A10 fun a25 =>
  ∃ n26, (∀ w22, S21 w22 → World.cell? w22 (Addr.add (Addr.add a25 ((Int.toNat i_18) * 6)) 2) = some (Value.int .i64 n26)) ∧
  Calls Try.prog 23 #[(Value.pointer p5)] (World.drew w20) fun e28 w29 =>
  ∃ n27, e28 = Ending.returned (Value.int .i64 n27) ∧
  S21 w29 ∧
  V.sel (decide (n26 ≥ n27))
  (R (Ending.returned (Value.bool false)) w29)
  (V.sel (decide (i_18 > 0))
  (V.when (decide ((0 : Int) ≤ (IntKind.wrap .i64 (i_18 - 1)) ∧ ((IntKind.wrap .i64 (i_18 - 1)) : Int) < ((A10l : Nat) : Int))) (V.ptr A10 fun a30 =>
  ∃ s31, ∃ n32, ∃ n33, ∃ n34, ∃ n35, ∃ b36, V.cellsC (fun a_ x_ => ∀ w22, S21 w22 → World.cell? w22 a_ = some x_) (Addr.add a30 ((Int.toNat (IntKind.wrap .i64 (i_18 - 1))) * 6)) [(Value.string s31), (Value.int .i64 n32), (Value.int .i64 n33), (Value.int .i64 n34), (Value.int .i64 n35), (Value.bool b36)] ∧
  V.when (decide ((0 : Int) ≤ i_18 ∧ (i_18 : Int) < ((A10l : Nat) : Int))) (V.ptr A10 fun a37 =>
  ∃ s38, ∃ n39, ∃ n40, ∃ n41, ∃ n42, ∃ b43, V.cellsC (fun a_ x_ => ∀ w22, S21 w22 → World.cell? w22 a_ = some x_) (Addr.add a37 ((Int.toNat i_18) * 6)) [(Value.string s38), (Value.int .i64 n39), (Value.int .i64 n40), (Value.int .i64 n41), (Value.int .i64 n42), (Value.bool b43)] ∧
  Calls Try.prog 24 #[(Value.agg #[(Value.string s31), (Value.int .i64 n32), (Value.int .i64 n33), (Value.int .i64 n34), (Value.int .i64 n35), (Value.bool b36)]), (Value.agg #[(Value.string s38), (Value.int .i64 n39), (Value.int .i64 n40), (Value.int .i64 n41), (Value.int .i64 n42), (Value.bool b43)])] w29 fun e45 w46 =>
  ∃ b44, e45 = Ending.returned (Value.bool b44) ∧
  S21 w46 ∧
  V.sel (!b44)
  (R (Ending.returned (Value.bool false)) w46)
  (V.when (decide ((0 : Int) ≤ i_18 ∧ (i_18 : Int) < ((A10l : Nat) : Int))) (V.ptr A10 fun a47 =>
  ∃ n48, (∀ w22, S21 w22 → World.cell? w22 (Addr.add (Addr.add a47 ((Int.toNat i_18) * 6)) 3) = some (Value.int .i64 n48)) ∧
  V.sel (n48 == 0)
  (V.when (decide ((0 : Int) ≤ i_18 ∧ (i_18 : Int) < ((A10l : Nat) : Int))) (V.ptr A10 fun a49 =>
  ∃ b50, (∀ w22, S21 w22 → World.cell? w22 (Addr.add (Addr.add a49 ((Int.toNat i_18) * 6)) 5) = some (Value.bool b50)) ∧
  V.sel b50
  (R (Ending.returned (Value.bool false)) w46)
  (V.when (decide ((0 : Int) ≤ i_18 ∧ (i_18 : Int) < ((A10l : Nat) : Int))) (V.ptr A10 fun a51 =>
  ∃ n52, (∀ w22, S21 w22 → World.cell? w22 (Addr.add (Addr.add a51 ((Int.toNat i_18) * 6)) 4) = some (Value.int .i64 n52)) ∧
  V.sel (n52 != 0)
  (R (Ending.returned (Value.bool false)) w46)
  (∃ I53 : Int → World → Prop, ∃ μ54 : Int → World → Nat, I53 0 w46 ∧
  ∀ j_55 (j56 : Nat → Value) (w57 : World), I53 j_55 w57 →
  (V.sel (decide (j_55 < i_18))
  (V.when (decide ((0 : Int) ≤ j_55 ∧ (j_55 : Int) < ((A10l : Nat) : Int))) (V.ptr A10 fun a58 =>
  ∃ s59, World.cell? w57 (Addr.add (Addr.add a58 ((Int.toNat j_55) * 6)) 0) = some (Value.string s59) ∧
  V.when (decide ((0 : Int) ≤ i_18 ∧ (i_18 : Int) < ((A10l : Nat) : Int))) (V.ptr A10 fun a60 =>
  ∃ s61, World.cell? w57 (Addr.add (Addr.add a60 ((Int.toNat i_18) * 6)) 0) = some (Value.string s61) ∧
  V.sel (ByteArray.toList s59 == ByteArray.toList s61)
  (R (Ending.returned (Value.bool false)) (World.drew w57))
  (V.when (decide ((0 : Int) ≤ j_55 ∧ (j_55 : Int) < ((A10l : Nat) : Int))) (V.ptr A10 fun a62 =>
  ∃ n63, World.cell? w57 (Addr.add (Addr.add a62 ((Int.toNat j_55) * 6)) 2) = some (Value.int .i64 n63) ∧
  V.when (decide ((0 : Int) ≤ i_18 ∧ (i_18 : Int) < ((A10l : Nat) : Int))) (V.ptr A10 fun a64 =>
  ∃ n65, World.cell? w57 (Addr.add (Addr.add a64 ((Int.toNat i_18) * 6)) 2) = some (Value.int .i64 n65) ∧
  V.sel (n63 == n65)
  (R (Ending.returned (Value.bool false)) (World.drew w57))
  (I53 (IntKind.wrap .i64 (j_55 + 1)) (World.drew w57) ∧ μ54 (IntKind.wrap .i64 (j_55 + 1)) (World.drew w57) < μ54 j_55 w57)))))))
  (I16 (IntKind.wrap .i64 (i_18 + 1)) w57 ∧ μ17 (IntKind.wrap .i64 (i_18 + 1)) w57 < μ17 i_18 w20)))))))
  (∃ I66 : Int → World → Prop, ∃ μ67 : Int → World → Nat, I66 0 w46 ∧
  ∀ j_68 (j69 : Nat → Value) (w70 : World), I66 j_68 w70 →
  (V.sel (decide (j_68 < i_18))
  (V.when (decide ((0 : Int) ≤ j_68 ∧ (j_68 : Int) < ((A10l : Nat) : Int))) (V.ptr A10 fun a71 =>
  ∃ s72, World.cell? w70 (Addr.add (Addr.add a71 ((Int.toNat j_68) * 6)) 0) = some (Value.string s72) ∧
  V.when (decide ((0 : Int) ≤ i_18 ∧ (i_18 : Int) < ((A10l : Nat) : Int))) (V.ptr A10 fun a73 =>
  ∃ s74, World.cell? w70 (Addr.add (Addr.add a73 ((Int.toNat i_18) * 6)) 0) = some (Value.string s74) ∧
  V.sel (ByteArray.toList s72 == ByteArray.toList s74)
  (R (Ending.returned (Value.bool false)) (World.drew w70))
  (V.when (decide ((0 : Int) ≤ j_68 ∧ (j_68 : Int) < ((A10l : Nat) : Int))) (V.ptr A10 fun a75 =>
  ∃ n76, World.cell? w70 (Addr.add (Addr.add a75 ((Int.toNat j_68) * 6)) 2) = some (Value.int .i64 n76) ∧
  V.when (decide ((0 : Int) ≤ i_18 ∧ (i_18 : Int) < ((A10l : Nat) : Int))) (V.ptr A10 fun a77 =>
  ∃ n78, World.cell? w70 (Addr.add (Addr.add a77 ((Int.toNat i_18) * 6)) 2) = some (Value.int .i64 n78) ∧
  V.sel (n76 == n78)
  (R (Ending.returned (Value.bool false)) (World.drew w70))
  (I66 (IntKind.wrap .i64 (j_68 + 1)) (World.drew w70) ∧ μ67 (IntKind.wrap .i64 (j_68 + 1)) (World.drew w70) < μ67 j_68 w70)))))))
  (I16 (IntKind.wrap .i64 (i_18 + 1)) w70 ∧ μ17 (IntKind.wrap .i64 (i_18 + 1)) w70 < μ17 i_18 w20))))))))
  (V.when (decide ((0 : Int) ≤ i_18 ∧ (i_18 : Int) < ((A10l : Nat) : Int))) (V.ptr A10 fun a79 =>
  ∃ n80, (∀ w22, S21 w22 → World.cell? w22 (Addr.add (Addr.add a79 ((Int.toNat i_18) * 6)) 3) = some (Value.int .i64 n80)) ∧
  V.sel (n80 == 0)
  (V.when (decide ((0 : Int) ≤ i_18 ∧ (i_18 : Int) < ((A10l : Nat) : Int))) (V.ptr A10 fun a81 =>
  ∃ b82, (∀ w22, S21 w22 → World.cell? w22 (Addr.add (Addr.add a81 ((Int.toNat i_18) * 6)) 5) = some (Value.bool b82)) ∧
  V.sel b82
  (R (Ending.returned (Value.bool false)) w29)
  (V.when (decide ((0 : Int) ≤ i_18 ∧ (i_18 : Int) < ((A10l : Nat) : Int))) (V.ptr A10 fun a83 =>
  ∃ n84, (∀ w22, S21 w22 → World.cell? w22 (Addr.add (Addr.add a83 ((Int.toNat i_18) * 6)) 4) = some (Value.int .i64 n84)) ∧
  V.sel (n84 != 0)
  (R (Ending.returned (Value.bool false)) w29)
  (∃ I85 : Int → World → Prop, ∃ μ86 : Int → World → Nat, I85 0 w29 ∧
  ∀ j_87 (j88 : Nat → Value) (w89 : World), I85 j_87 w89 →
  (V.sel (decide (j_87 < i_18))
  (V.when (decide ((0 : Int) ≤ j_87 ∧ (j_87 : Int) < ((A10l : Nat) : Int))) (V.ptr A10 fun a90 =>
  ∃ s91, World.cell? w89 (Addr.add (Addr.add a90 ((Int.toNat j_87) * 6)) 0) = some (Value.string s91) ∧
  V.when (decide ((0 : Int) ≤ i_18 ∧ (i_18 : Int) < ((A10l : Nat) : Int))) (V.ptr A10 fun a92 =>
  ∃ s93, World.cell? w89 (Addr.add (Addr.add a92 ((Int.toNat i_18) * 6)) 0) = some (Value.string s93) ∧
  V.sel (ByteArray.toList s91 == ByteArray.toList s93)
  (R (Ending.returned (Value.bool false)) (World.drew w89))
  (V.when (decide ((0 : Int) ≤ j_87 ∧ (j_87 : Int) < ((A10l : Nat) : Int))) (V.ptr A10 fun a94 =>
  ∃ n95, World.cell? w89 (Addr.add (Addr.add a94 ((Int.toNat j_87) * 6)) 2) = some (Value.int .i64 n95) ∧
  V.when (decide ((0 : Int) ≤ i_18 ∧ (i_18 : Int) < ((A10l : Nat) : Int))) (V.ptr A10 fun a96 =>
  ∃ n97, World.cell? w89 (Addr.add (Addr.add a96 ((Int.toNat i_18) * 6)) 2) = some (Value.int .i64 n97) ∧
  V.sel (n95 == n97)
  (R (Ending.returned (Value.bool false)) (World.drew w89))
  (I85 (IntKind.wrap .i64 (j_87 + 1)) (World.drew w89) ∧ μ86 (IntKind.wrap .i64 (j_87 + 1)) (World.drew w89) < μ86 j_87 w89)))))))
  (I16 (IntKind.wrap .i64 (i_18 + 1)) w89 ∧ μ17 (IntKind.wrap .i64 (i_18 + 1)) w89 < μ17 i_18 w20)))))))
  (∃ I98 : Int → World → Prop, ∃ μ99 : Int → World → Nat, I98 0 w29 ∧
  ∀ j_100 (j101 : Nat → Value) (w102 : World), I98 j_100 w102 →
  (V.sel (decide (j_100 < i_18))
  (V.when (decide ((0 : Int) ≤ j_100 ∧ (j_100 : Int) < ((A10l : Nat) : Int))) (V.ptr A10 fun a103 =>
  ∃ s104, World.cell? w102 (Addr.add (Addr.add a103 ((Int.toNat j_100) * 6)) 0) = some (Value.string s104) ∧
  V.when (decide ((0 : Int) ≤ i_18 ∧ (i_18 : Int) < ((A10l : Nat) : Int))) (V.ptr A10 fun a105 =>
  ∃ s106, World.cell? w102 (Addr.add (Addr.add a105 ((Int.toNat i_18) * 6)) 0) = some (Value.string s106) ∧
  V.sel (ByteArray.toList s104 == ByteArray.toList s106)
  (R (Ending.returned (Value.bool false)) (World.drew w102))
  (V.when (decide ((0 : Int) ≤ j_100 ∧ (j_100 : Int) < ((A10l : Nat) : Int))) (V.ptr A10 fun a107 =>
  ∃ n108, World.cell? w102 (Addr.add (Addr.add a107 ((Int.toNat j_100) * 6)) 2) = some (Value.int .i64 n108) ∧
  V.when (decide ((0 : Int) ≤ i_18 ∧ (i_18 : Int) < ((A10l : Nat) : Int))) (V.ptr A10 fun a109 =>
  ∃ n110, World.cell? w102 (Addr.add (Addr.add a109 ((Int.toNat i_18) * 6)) 2) = some (Value.int .i64 n110) ∧
  V.sel (n108 == n110)
  (R (Ending.returned (Value.bool false)) (World.drew w102))
  (I98 (IntKind.wrap .i64 (j_100 + 1)) (World.drew w102) ∧ μ99 (IntKind.wrap .i64 (j_100 + 1)) (World.drew w102) < μ99 j_100 w102)))))))
  (I16 (IntKind.wrap .i64 (i_18 + 1)) w102 ∧ μ17 (IntKind.wrap .i64 (i_18 + 1)) w102 < μ17 i_18 w20))))))))))
  (∃ I111 : Int → World → Prop, ∃ μ112 : Int → World → Nat, I111 0 w20 ∧
  ∀ i_113 (j114 : Nat → Value) (w115 : World), I111 i_113 w115 →
  (V.sel (decide (i_113 < ((script_1l : Nat) : Int)))
  (V.sel (decide (i_113 < 20))
  (V.when (decide ((0 : Int) ≤ i_113 ∧ (i_113 : Int) < ((script_1l : Nat) : Int))) (V.ptr script_1 fun a116 =>
  ∃ n117, World.cell? w115 (Addr.add (Addr.add a116 ((Int.toNat i_113) * 5)) 3) = some (Value.int .i64 n117) ∧
  V.lt (IntKind.wrap .i64 (((A10l : Nat) : Int) - 1)) fun x118 =>
  ∃ I119 : ByteArray → Bool → Int → World → Prop, ∃ μ120 : ByteArray → Bool → Int → World → Nat, I119 ByteArray.empty false x118 w115 ∧
  ∀ want_121 some_122 k_123 (j124 : Nat → Value) (w125 : World), I119 want_121 some_122 k_123 w125 →
  (V.sel (decide (k_123 ≥ 0))
  (V.when (decide ((0 : Int) ≤ k_123 ∧ (k_123 : Int) < ((A10l : Nat) : Int))) (V.ptr A10 fun a126 =>
  ∃ b127, World.cell? w125 (Addr.add (Addr.add a126 ((Int.toNat k_123) * 6)) 5) = some (Value.bool b127) ∧
  V.sel (!b127)
  (V.when (decide ((0 : Int) ≤ k_123 ∧ (k_123 : Int) < ((A10l : Nat) : Int))) (V.ptr A10 fun a128 =>
  ∃ n129, World.cell? w125 (Addr.add (Addr.add a128 ((Int.toNat k_123) * 6)) 4) = some (Value.int .i64 n129) ∧
  V.sel (decide (n129 ≤ n117))
  (V.sel (decide (n117 ≥ 0))
  (V.sel (decide (n117 ≤ 1099511627776))
  (V.when (decide ((0 : Int) ≤ k_123 ∧ (k_123 : Int) < ((A10l : Nat) : Int))) (V.ptr A10 fun a130 =>
  ∃ s131, World.cell? w125 (Addr.add (Addr.add a130 ((Int.toNat k_123) * 6)) 0) = some (Value.string s131) ∧
  I119 s131 true (IntKind.wrap .i64 (k_123 - 1)) w125 ∧ μ120 s131 true (IntKind.wrap .i64 (k_123 - 1)) w125 < μ120 want_121 some_122 k_123 w125))
  (I119 want_121 some_122 (IntKind.wrap .i64 (k_123 - 1)) w125 ∧ μ120 want_121 some_122 (IntKind.wrap .i64 (k_123 - 1)) w125 < μ120 want_121 some_122 k_123 w125))
  (I119 want_121 some_122 (IntKind.wrap .i64 (k_123 - 1)) w125 ∧ μ120 want_121 some_122 (IntKind.wrap .i64 (k_123 - 1)) w125 < μ120 want_121 some_122 k_123 w125))
  (I119 want_121 some_122 (IntKind.wrap .i64 (k_123 - 1)) w125 ∧ μ120 want_121 some_122 (IntKind.wrap .i64 (k_123 - 1)) w125 < μ120 want_121 some_122 k_123 w125)))
  (I119 want_121 some_122 (IntKind.wrap .i64 (k_123 - 1)) w125 ∧ μ120 want_121 some_122 (IntKind.wrap .i64 (k_123 - 1)) w125 < μ120 want_121 some_122 k_123 w125)))
  (Calls Try.prog 20 #[(Value.pointer p5), (Value.int .i64 n117)] w125 fun e134 w135 =>
  ∃ s132, ∃ b133, e134 = Ending.returned (Value.tuple #[(Value.string s132), (Value.bool b133)]) ∧
  V.sel (!(ByteArray.toList s132 == ByteArray.toList want_121))
  (R (Ending.returned (Value.bool false)) w135)
  (V.sel (!(b133 == some_122))
  (R (Ending.returned (Value.bool false)) w135)
  (I111 (IntKind.wrap .i64 (i_113 + 1)) w135 ∧ μ112 (IntKind.wrap .i64 (i_113 + 1)) w135 < μ112 i_113 w115))))))
  (Calls Try.prog 25 #[(Value.pointer p5)] w115 fun e137 w138 =>
  ∃ b136, e137 = Ending.returned (Value.bool b136) ∧
  R (Ending.returned (Value.bool b136)) w138))
  (Calls Try.prog 25 #[(Value.pointer p5)] w115 fun e140 w141 =>
  ∃ b139, e140 = Ending.returned (Value.bool b139) ∧
  R (Ending.returned (Value.bool b139)) w141))))))) :
  Calls Try.prog 5 #[(Value.slice script_1 script_1l script_1c)] w R :=
  V.calls_of_R ⟨V.assoc [(0, [5]), (1, [6]), (2, [7]), (3, [9, 10, 11])], V.assocP [(11, V.line [0, 1, 2, 3, 4, 5, 6, 7, 8, 9, 10, 11, 12, 13, 14, 15, 16, 17, 18, 19, 20, 21, 22, 23, 24, 25, 26, 27, 28, 29, 30, 31, 32, 33, 34, 35, 36, 37, 38, 39, 40, 41, 42, 43, 44, 45, 46, 47, 48, 49, 50, 51, 52, 53, 54, 55]), (16, V.line [0, 1, 2, 3, 4, 5, 6, 7, 8, 9, 10, 11, 12, 13, 14, 15, 16, 17, 18, 19, 20, 21, 22, 23])], V.assocC [], V.assocS [], ⟨[], true⟩⟩ Try.func5 rfl (Eq.mp (by kernel_rfl) h)

theorem berthlaw25_QueueWaits_nf (script_1 : Option Addr) (script_1l : Nat) (script_1c : Nat) (now_2 : Int) (w : World) (R : Ending → World → Prop) (h :
  Calls Try.prog 12 #[] w fun e4 w5 =>
  ∃ b3, e4 = Ending.returned (Value.bool b3) ∧
  V.sel (!b3)
  (R (Ending.returned (Value.bool false)) w5)
  (Calls Try.prog 13 #[] w5 fun e7 w8 =>
  ∃ p6, e7 = Ending.returned (Value.pointer p6) ∧
  Calls Try.prog 21 #[(Value.pointer p6), (Value.slice script_1 script_1l script_1c)] w8 fun e9 w10 =>
  e9 = Ending.returned undef ∧
  Calls Try.prog 19 #[(Value.pointer p6)] w10 fun e12 w13 =>
  ∃ A11, ∃ A11l, ∃ A11c, e12 = Ending.returned (Value.slice A11 A11l A11c) ∧
  V.sel (((A11l : Nat) : Int) == 0)
  (Calls Try.prog 17 #[(Value.pointer p6), (Value.string ⟨#[97]⟩), (Value.int .i64 now_2)] w13 fun e15 w16 =>
  ∃ n14, e15 = Ending.returned (Value.int .i64 n14) ∧
  Calls Try.prog 11 #[(Value.int .i64 n14)] w16 fun e18 w19 =>
  ∃ n17, e18 = Ending.returned (Value.int .i64 n17) ∧
  V.sel (n17 == 252)
  (Calls Try.prog 22 #[(Value.pointer p6)] w19 fun e21 w22 =>
  ∃ n20, e21 = Ending.returned (Value.int .i64 n20) ∧
  R (Ending.returned (Value.bool (n20 == 0))) w22)
  (R (Ending.returned (Value.bool false)) w19))
  (V.when (decide (((A11l : Nat) : Int) ≠ 0)) (V.lt (Int.tmod ((script_1l : Nat) : Int) ((A11l : Nat) : Int)) fun x23 =>
  V.sel (decide (now_2 < 0))
  (V.when (decide ((0 : Int) ≤ x23 ∧ (x23 : Int) < ((A11l : Nat) : Int))) (V.ptr A11 fun a24 =>
  ∃ s25, World.cell? w13 (Addr.add (Addr.add a24 ((Int.toNat x23) * 6)) 0) = some (Value.string s25) ∧
  Calls Try.prog 17 #[(Value.pointer p6), (Value.string s25), (Value.int .i64 now_2)] w13 fun e27 w28 =>
  ∃ n26, e27 = Ending.returned (Value.int .i64 n26) ∧
  Calls Try.prog 11 #[(Value.int .i64 n26)] w28 fun e30 w31 =>
  ∃ n29, e30 = Ending.returned (Value.int .i64 n29) ∧
  V.sel (n29 == 254)
  (Calls Try.prog 19 #[(Value.pointer p6)] w31 fun e33 w34 =>
  ∃ A32, ∃ A32l, ∃ A32c, e33 = Ending.returned (Value.slice A32 A32l A32c) ∧
  Calls Try.prog 26 #[(Value.slice A32 A32l A32c), (Value.slice A11 A11l A11c)] w34 fun e36 w37 =>
  ∃ b35, e36 = Ending.returned (Value.bool b35) ∧
  R (Ending.returned (Value.bool b35)) w37)
  (R (Ending.returned (Value.bool false)) w31)))
  (V.sel (decide (now_2 > 1099511627776))
  (V.when (decide ((0 : Int) ≤ x23 ∧ (x23 : Int) < ((A11l : Nat) : Int))) (V.ptr A11 fun a38 =>
  ∃ s39, World.cell? w13 (Addr.add (Addr.add a38 ((Int.toNat x23) * 6)) 0) = some (Value.string s39) ∧
  Calls Try.prog 17 #[(Value.pointer p6), (Value.string s39), (Value.int .i64 now_2)] w13 fun e41 w42 =>
  ∃ n40, e41 = Ending.returned (Value.int .i64 n40) ∧
  Calls Try.prog 11 #[(Value.int .i64 n40)] w42 fun e44 w45 =>
  ∃ n43, e44 = Ending.returned (Value.int .i64 n43) ∧
  V.sel (n43 == 254)
  (Calls Try.prog 19 #[(Value.pointer p6)] w45 fun e47 w48 =>
  ∃ A46, ∃ A46l, ∃ A46c, e47 = Ending.returned (Value.slice A46 A46l A46c) ∧
  Calls Try.prog 26 #[(Value.slice A46 A46l A46c), (Value.slice A11 A11l A11c)] w48 fun e50 w51 =>
  ∃ b49, e50 = Ending.returned (Value.bool b49) ∧
  R (Ending.returned (Value.bool b49)) w51)
  (R (Ending.returned (Value.bool false)) w45)))
  (V.when (decide ((0 : Int) ≤ x23 ∧ (x23 : Int) < ((A11l : Nat) : Int))) (V.ptr A11 fun a52 =>
  ∃ s53, ∃ n54, ∃ n55, ∃ n56, ∃ n57, ∃ b58, V.cellsC (fun a_ x_ => World.cell? w13 a_ = some x_) (Addr.add a52 ((Int.toNat x23) * 6)) [(Value.string s53), (Value.int .i64 n54), (Value.int .i64 n55), (Value.int .i64 n56), (Value.int .i64 n57), (Value.bool b58)] ∧
  ∀ w59, w59 = (World.alloc w13 (.cells #[(Value.string ByteArray.empty), (Value.int .i64 0), (Value.int .i64 0), (Value.int .i64 0), (Value.int .i64 0), (Value.bool false)] 34)) →
  ∃ w60, Sem.run Try.prog (Instr.storeAt 34 (Value.pointer (some ⟨Array.size (World.heap w13), 0, none⟩)) (Value.agg #[(Value.string s53), (Value.int .i64 n54), (Value.int .i64 n55), (Value.int .i64 n56), (Value.int .i64 n57), (Value.bool b58)])) w59 = .ok () w60 ∧
  ∃ I61 : Int → World → Prop, ∃ μ62 : Int → World → Nat, I61 0 w60 ∧
  ∀ i_63 (j64 : Nat → Value) (w65 : World), I61 i_63 w65 →
  (V.sel (decide (i_63 < 9))
  (∃ s66, World.cell? w65 (Addr.add ⟨Array.size (World.heap w13), 0, none⟩ 0) = some (Value.string s66) ∧
  Calls Try.prog 17 #[(Value.pointer p6), (Value.string s66), (Value.int .i64 now_2)] w65 fun e68 w69 =>
  ∃ n67, e68 = Ending.returned (Value.int .i64 n67) ∧
  Calls Try.prog 11 #[(Value.int .i64 n67)] w69 fun e71 w72 =>
  ∃ n70, e71 = Ending.returned (Value.int .i64 n70) ∧
  V.sel (n70 != 0)
  (R (Ending.returned (Value.bool false)) w72)
  (∃ n73, World.cell? w72 (Addr.add ⟨Array.size (World.heap w13), 0, none⟩ 3) = some (Value.int .i64 n73) ∧
  ∃ w74, Sem.run Try.prog (Instr.storeAt 3 (Value.pointer (some (Addr.add ⟨Array.size (World.heap w13), 0, none⟩ 3))) (Value.int .i64 (IntKind.wrap .i64 (n73 + 1)))) w72 = .ok () w74 ∧
  ∃ w75, Sem.run Try.prog (Instr.storeAt 4 (Value.pointer (some (Addr.add ⟨Array.size (World.heap w13), 0, none⟩ 5))) (Value.bool true)) w74 = .ok () w75 ∧
  ∃ w76, Sem.run Try.prog (Instr.storeAt 3 (Value.pointer (some (Addr.add ⟨Array.size (World.heap w13), 0, none⟩ 4))) (Value.int .i64 (IntKind.wrap .i64 (now_2 + 64)))) w75 = .ok () w76 ∧
  ∃ n77, World.cell? w76 (Addr.add ⟨Array.size (World.heap w13), 0, none⟩ 3) = some (Value.int .i64 n77) ∧
  V.sel (decide (n77 < 7))
  (∃ n78, World.cell? w76 (Addr.add ⟨Array.size (World.heap w13), 0, none⟩ 3) = some (Value.int .i64 n78) ∧
  V.when (decide (0 ≤ (IntKind.wrap .u64 ((IntKind.wrap .i64 (n78 - 1)))))) (∃ w79, Sem.run Try.prog (Instr.storeAt 3 (Value.pointer (some (Addr.add ⟨Array.size (World.heap w13), 0, none⟩ 4))) (Value.int .i64 (IntKind.wrap .i64 (now_2 + (IntKind.wrap .i64 (1 * 2 ^ (min (Int.toNat (IntKind.wrap .u64 ((IntKind.wrap .i64 (n78 - 1))))) 64))))))) w76 = .ok () w79 ∧
  ∃ s80, ∃ n81, ∃ n82, ∃ n83, ∃ n84, ∃ b85, V.cellsC (fun a_ x_ => World.cell? w79 a_ = some x_) ⟨Array.size (World.heap w13), 0, none⟩ [(Value.string s80), (Value.int .i64 n81), (Value.int .i64 n82), (Value.int .i64 n83), (Value.int .i64 n84), (Value.bool b85)] ∧
  V.when (decide ((0 : Int) ≤ x23 ∧ (x23 : Int) < ((A11l : Nat) : Int))) (V.ptr A11 fun a86 =>
  ∃ w87, Sem.run Try.prog (Instr.storeAt 34 (Value.pointer (some (Addr.add a86 ((Int.toNat x23) * 6)))) (Value.agg #[(Value.string s80), (Value.int .i64 n81), (Value.int .i64 n82), (Value.int .i64 n83), (Value.int .i64 n84), (Value.bool b85)])) w79 = .ok () w87 ∧
  Calls Try.prog 19 #[(Value.pointer p6)] w87 fun e89 w90 =>
  ∃ A88, ∃ A88l, ∃ A88c, e89 = Ending.returned (Value.slice A88 A88l A88c) ∧
  Calls Try.prog 26 #[(Value.slice A88 A88l A88c), (Value.slice A11 A11l A11c)] w90 fun e92 w93 =>
  ∃ b91, e92 = Ending.returned (Value.bool b91) ∧
  V.sel (!b91)
  (R (Ending.returned (Value.bool false)) w93)
  (I61 (IntKind.wrap .i64 (i_63 + 1)) w93 ∧ μ62 (IntKind.wrap .i64 (i_63 + 1)) w93 < μ62 i_63 w65))))
  (∃ s94, ∃ n95, ∃ n96, ∃ n97, ∃ n98, ∃ b99, V.cellsC (fun a_ x_ => World.cell? w76 a_ = some x_) ⟨Array.size (World.heap w13), 0, none⟩ [(Value.string s94), (Value.int .i64 n95), (Value.int .i64 n96), (Value.int .i64 n97), (Value.int .i64 n98), (Value.bool b99)] ∧
  V.when (decide ((0 : Int) ≤ x23 ∧ (x23 : Int) < ((A11l : Nat) : Int))) (V.ptr A11 fun a100 =>
  ∃ w101, Sem.run Try.prog (Instr.storeAt 34 (Value.pointer (some (Addr.add a100 ((Int.toNat x23) * 6)))) (Value.agg #[(Value.string s94), (Value.int .i64 n95), (Value.int .i64 n96), (Value.int .i64 n97), (Value.int .i64 n98), (Value.bool b99)])) w76 = .ok () w101 ∧
  Calls Try.prog 19 #[(Value.pointer p6)] w101 fun e103 w104 =>
  ∃ A102, ∃ A102l, ∃ A102c, e103 = Ending.returned (Value.slice A102 A102l A102c) ∧
  Calls Try.prog 26 #[(Value.slice A102 A102l A102c), (Value.slice A11 A11l A11c)] w104 fun e106 w107 =>
  ∃ b105, e106 = Ending.returned (Value.bool b105) ∧
  V.sel (!b105)
  (R (Ending.returned (Value.bool false)) w107)
  (I61 (IntKind.wrap .i64 (i_63 + 1)) w107 ∧ μ62 (IntKind.wrap .i64 (i_63 + 1)) w107 < μ62 i_63 w65)))))
  (R (Ending.returned (Value.bool true)) w65))))))))) :
  Calls Try.prog 6 #[(Value.slice script_1 script_1l script_1c), (Value.int .i64 now_2)] w R :=
  V.calls_of_R ⟨V.assoc [(0, [9])], V.assocP [], V.assocC [], V.assocS [], ⟨[], true⟩⟩ Try.func6 rfl (Eq.mp (by kernel_rfl) h)

theorem berthlaw25_QueueNil_nf (script_1 : Option Addr) (script_1l : Nat) (script_1c : Nat) (w : World) (R : Ending → World → Prop) (h :
  Calls Try.prog 12 #[] w fun e3 w4 =>
  ∃ b2, e3 = Ending.returned (Value.bool b2) ∧
  V.sel (!b2)
  (R (Ending.returned (Value.bool false)) w4)
  (∃ I5 : Int → World → Prop, ∃ μ6 : Int → World → Nat, I5 0 w4 ∧
  ∀ i_7 (j8 : Nat → Value) (w9 : World), I5 i_7 w9 →
  (V.sel (decide (i_7 < ((script_1l : Nat) : Int)))
  (V.when (decide ((0 : Int) ≤ i_7 ∧ (i_7 : Int) < ((script_1l : Nat) : Int))) (V.ptr script_1 fun a10 =>
  ∃ n11, ∃ s12, ∃ n13, ∃ n14, ∃ A15, ∃ A15l, ∃ A15c, V.cellsC (fun a_ x_ => World.cell? w9 a_ = some x_) (Addr.add a10 ((Int.toNat i_7) * 5)) [(Value.int .i64 n11), (Value.string s12), (Value.int .i64 n13), (Value.int .i64 n14), (Value.slice A15 A15l A15c)] ∧
  ∀ w16, w16 = (World.alloc w9 (.cells #[(Value.int .i64 0), (Value.string ByteArray.empty), (Value.int .i64 0), (Value.int .i64 0), (Value.slice none 0 0)] 31)) →
  ∃ w17, Sem.run Try.prog (Instr.storeAt 31 (Value.pointer (some ⟨Array.size (World.heap w9), 0, none⟩)) (Value.agg #[(Value.int .i64 n11), (Value.string s12), (Value.int .i64 n13), (Value.int .i64 n14), (Value.slice A15 A15l A15c)])) w16 = .ok () w17 ∧
  ∃ s18, World.cell? w17 (Addr.add ⟨Array.size (World.heap w9), 0, none⟩ 1) = some (Value.string s18) ∧
  Calls Try.prog 15 #[(Value.pointer none), (Value.string s18)] w17 fun e26 w27 =>
  ∃ s19, ∃ n20, ∃ n21, ∃ n22, ∃ n23, ∃ b24, ∃ n25, e26 = Ending.returned (Value.tuple #[(Value.agg #[(Value.string s19), (Value.int .i64 n20), (Value.int .i64 n21), (Value.int .i64 n22), (Value.int .i64 n23), (Value.bool b24)]), (Value.int .i64 n25)]) ∧
  ∀ w28, w28 = (World.alloc w27 (.cells #[(Value.string ByteArray.empty), (Value.int .i64 0), (Value.int .i64 0), (Value.int .i64 0), (Value.int .i64 0), (Value.bool false)] 34)) →
  ∃ w29, Sem.run Try.prog (Instr.storeAt 34 (Value.pointer (some ⟨Array.size (World.heap w27), 0, none⟩)) (Value.agg #[(Value.string s19), (Value.int .i64 n20), (Value.int .i64 n21), (Value.int .i64 n22), (Value.int .i64 n23), (Value.bool b24)])) w28 = .ok () w29 ∧
  ∃ n30, World.cell? w29 (Addr.add ⟨Array.size (World.heap w9), 0, none⟩ 3) = some (Value.int .i64 n30) ∧
  Calls Try.prog 20 #[(Value.pointer none), (Value.int .i64 n30)] w29 fun e33 w34 =>
  ∃ s31, ∃ b32, e33 = Ending.returned (Value.tuple #[(Value.string s31), (Value.bool b32)]) ∧
  Calls Try.prog 18 #[(Value.pointer none)] w34 fun e35 w36 =>
  e35 = Ending.returned undef ∧
  ∃ s37, World.cell? w36 (Addr.add ⟨Array.size (World.heap w9), 0, none⟩ 1) = some (Value.string s37) ∧
  ∃ n38, World.cell? w36 (Addr.add ⟨Array.size (World.heap w9), 0, none⟩ 2) = some (Value.int .i64 n38) ∧
  Calls Try.prog 14 #[(Value.pointer none), (Value.string s37), (Value.int .i64 n38)] w36 fun e40 w41 =>
  ∃ n39, e40 = Ending.returned (Value.int .i64 n39) ∧
  Calls Try.prog 11 #[(Value.int .i64 n39)] w41 fun e43 w44 =>
  ∃ n42, e43 = Ending.returned (Value.int .i64 n42) ∧
  V.sel (n42 != 1)
  (R (Ending.returned (Value.bool false)) w44)
  (Calls Try.prog 11 #[(Value.int .i64 n25)] w44 fun e46 w47 =>
  ∃ n45, e46 = Ending.returned (Value.int .i64 n45) ∧
  V.sel (n45 != 1)
  (R (Ending.returned (Value.bool false)) w47)
  (∃ s48, ∃ n49, ∃ n50, ∃ n51, ∃ n52, ∃ b53, V.cellsC (fun a_ x_ => World.cell? w47 a_ = some x_) ⟨Array.size (World.heap w27), 0, none⟩ [(Value.string s48), (Value.int .i64 n49), (Value.int .i64 n50), (Value.int .i64 n51), (Value.int .i64 n52), (Value.bool b53)] ∧
  V.sel (!((ByteArray.toList s48 == ByteArray.toList ByteArray.empty) && (((n49 : Int) == 0) && (((n50 : Int) == 0) && (((n51 : Int) == 0) && (((n52 : Int) == 0) && ((b53 == false) && true)))))))
  (R (Ending.returned (Value.bool false)) w47)
  (∃ s54, World.cell? w47 (Addr.add ⟨Array.size (World.heap w9), 0, none⟩ 1) = some (Value.string s54) ∧
  ∃ n55, World.cell? w47 (Addr.add ⟨Array.size (World.heap w9), 0, none⟩ 3) = some (Value.int .i64 n55) ∧
  Calls Try.prog 17 #[(Value.pointer none), (Value.string s54), (Value.int .i64 n55)] w47 fun e57 w58 =>
  ∃ n56, e57 = Ending.returned (Value.int .i64 n56) ∧
  Calls Try.prog 11 #[(Value.int .i64 n56)] w58 fun e60 w61 =>
  ∃ n59, e60 = Ending.returned (Value.int .i64 n59) ∧
  V.sel (n59 != 1)
  (R (Ending.returned (Value.bool false)) w61)
  (V.sel b32
  (R (Ending.returned (Value.bool false)) w61)
  (V.sel (!(ByteArray.toList s31 == ByteArray.toList ByteArray.empty))
  (R (Ending.returned (Value.bool false)) w61)
  (I5 (IntKind.wrap .i64 (i_7 + 1)) w61 ∧ μ6 (IntKind.wrap .i64 (i_7 + 1)) w61 < μ6 i_7 w9))))))))
  (Calls Try.prog 22 #[(Value.pointer none)] w9 fun e63 w64 =>
  ∃ n62, e63 = Ending.returned (Value.int .i64 n62) ∧
  V.sel (n62 == 0)
  (Calls Try.prog 23 #[(Value.pointer none)] w64 fun e66 w67 =>
  ∃ n65, e66 = Ending.returned (Value.int .i64 n65) ∧
  V.sel (n65 == 0)
  (Calls Try.prog 19 #[(Value.pointer none)] w67 fun e69 w70 =>
  ∃ A68, ∃ A68l, ∃ A68c, e69 = Ending.returned (Value.slice A68 A68l A68c) ∧
  R (Ending.returned (Value.bool (((A68l : Nat) : Int) == 0))) w70)
  (R (Ending.returned (Value.bool false)) w67))
  (R (Ending.returned (Value.bool false)) w64))))) :
  Calls Try.prog 7 #[(Value.slice script_1 script_1l script_1c)] w R :=
  V.calls_of_R ⟨V.assoc [(0, [4])], V.assocP [], V.assocC [], V.assocS [], ⟨[], true⟩⟩ Try.func7 rfl (Eq.mp (by kernel_rfl) h)

theorem berthlaw25_QueueAgain_nf (script_1 : Option Addr) (script_1l : Nat) (script_1c : Nat) (then_2 : Option Addr) (then_2l : Nat) (then_2c : Nat) (w : World) (R : Ending → World → Prop) (h :
  Calls Try.prog 12 #[] w fun e4 w5 =>
  ∃ b3, e4 = Ending.returned (Value.bool b3) ∧
  V.sel (!b3)
  (R (Ending.returned (Value.bool false)) w5)
  (Calls Try.prog 13 #[] w5 fun e7 w8 =>
  ∃ p6, e7 = Ending.returned (Value.pointer p6) ∧
  Calls Try.prog 21 #[(Value.pointer p6), (Value.slice script_1 script_1l script_1c)] w8 fun e9 w10 =>
  e9 = Ending.returned undef ∧
  Calls Try.prog 19 #[(Value.pointer p6)] w10 fun e12 w13 =>
  ∃ A11, ∃ A11l, ∃ A11c, e12 = Ending.returned (Value.slice A11 A11l A11c) ∧
  Calls Try.prog 19 #[(Value.pointer p6)] w13 fun e15 w16 =>
  ∃ A14, ∃ A14l, ∃ A14c, e15 = Ending.returned (Value.slice A14 A14l A14c) ∧
  Calls Try.prog 23 #[(Value.pointer p6)] w16 fun e18 w19 =>
  ∃ n17, e18 = Ending.returned (Value.int .i64 n17) ∧
  Calls Try.prog 27 #[(Value.slice A14 A14l A14c), (Value.int .i64 n17)] w19 fun e22 w23 =>
  ∃ p20, ∃ n21, e22 = Ending.returned (Value.tuple #[(Value.pointer p20), (Value.int .i64 n21)]) ∧
  V.sel (Option.isNone p20)
  (R (Ending.returned (Value.bool false)) w23)
  (Calls Try.prog 11 #[(Value.int .i64 n21)] w23 fun e25 w26 =>
  ∃ n24, e25 = Ending.returned (Value.int .i64 n24) ∧
  V.sel (n24 != 0)
  (R (Ending.returned (Value.bool false)) w26)
  (Calls Try.prog 23 #[(Value.pointer p20)] w26 fun e28 w29 =>
  ∃ n27, e28 = Ending.returned (Value.int .i64 n27) ∧
  Calls Try.prog 23 #[(Value.pointer p6)] w29 fun e31 w32 =>
  ∃ n30, e31 = Ending.returned (Value.int .i64 n30) ∧
  V.sel (n27 != n30)
  (R (Ending.returned (Value.bool false)) w32)
  (Calls Try.prog 19 #[(Value.pointer p20)] w32 fun e34 w35 =>
  ∃ A33, ∃ A33l, ∃ A33c, e34 = Ending.returned (Value.slice A33 A33l A33c) ∧
  Calls Try.prog 26 #[(Value.slice A33 A33l A33c), (Value.slice A11 A11l A11c)] w35 fun e37 w38 =>
  ∃ b36, e37 = Ending.returned (Value.bool b36) ∧
  V.sel (!b36)
  (R (Ending.returned (Value.bool false)) w38)
  (∃ I39 : Int → World → Prop, ∃ μ40 : Int → World → Nat, I39 0 w38 ∧
  ∀ i_41 (j42 : Nat → Value) (w43 : World), I39 i_41 w43 →
  (V.sel (decide (i_41 < ((then_2l : Nat) : Int)))
  (V.when (decide ((0 : Int) ≤ i_41 ∧ (i_41 : Int) < ((then_2l : Nat) : Int))) (V.ptr then_2 fun a44 =>
  ∃ n45, ∃ s46, ∃ n47, ∃ n48, ∃ A49, ∃ A49l, ∃ A49c, V.cellsC (fun a_ x_ => World.cell? w43 a_ = some x_) (Addr.add a44 ((Int.toNat i_41) * 5)) [(Value.int .i64 n45), (Value.string s46), (Value.int .i64 n47), (Value.int .i64 n48), (Value.slice A49 A49l A49c)] ∧
  ∀ w50, w50 = (World.alloc w43 (.cells #[(Value.int .i64 0), (Value.string ByteArray.empty), (Value.int .i64 0), (Value.int .i64 0), (Value.slice none 0 0)] 31)) →
  ∃ w51, Sem.run Try.prog (Instr.storeAt 31 (Value.pointer (some ⟨Array.size (World.heap w43), 0, none⟩)) (Value.agg #[(Value.int .i64 n45), (Value.string s46), (Value.int .i64 n47), (Value.int .i64 n48), (Value.slice A49 A49l A49c)])) w50 = .ok () w51 ∧
  V.when (decide ((0 : Int) ≤ (IntKind.wrap .i64 (i_41 + 1)) ∧ ((IntKind.wrap .i64 (i_41 + 1)) : Int) ≤ ((then_2c : Nat) : Int))) (V.when (decide ((0 : Int) ≤ i_41 ∧ (i_41 : Int) ≤ (((Int.toNat (IntKind.wrap .i64 (i_41 + 1))) : Nat) : Int))) (Calls Try.prog 21 #[(Value.pointer p6), (Value.slice (V.cut then_2 then_2c (Int.toNat i_41) 5) ((Int.toNat (IntKind.wrap .i64 (i_41 + 1))) - (Int.toNat i_41)) (then_2c - (Int.toNat i_41)))] w51 fun e52 w53 =>
  e52 = Ending.returned undef ∧
  V.when (decide ((0 : Int) ≤ (IntKind.wrap .i64 (i_41 + 1)) ∧ ((IntKind.wrap .i64 (i_41 + 1)) : Int) ≤ ((then_2c : Nat) : Int))) (V.when (decide ((0 : Int) ≤ i_41 ∧ (i_41 : Int) ≤ (((Int.toNat (IntKind.wrap .i64 (i_41 + 1))) : Nat) : Int))) (Calls Try.prog 21 #[(Value.pointer p20), (Value.slice (V.cut then_2 then_2c (Int.toNat i_41) 5) ((Int.toNat (IntKind.wrap .i64 (i_41 + 1))) - (Int.toNat i_41)) (then_2c - (Int.toNat i_41)))] w53 fun e54 w55 =>
  e54 = Ending.returned undef ∧
  ∃ n56, World.cell? w55 (Addr.add ⟨Array.size (World.heap w43), 0, none⟩ 3) = some (Value.int .i64 n56) ∧
  Calls Try.prog 20 #[(Value.pointer p6), (Value.int .i64 n56)] w55 fun e59 w60 =>
  ∃ s57, ∃ b58, e59 = Ending.returned (Value.tuple #[(Value.string s57), (Value.bool b58)]) ∧
  ∃ n61, World.cell? w60 (Addr.add ⟨Array.size (World.heap w43), 0, none⟩ 3) = some (Value.int .i64 n61) ∧
  Calls Try.prog 20 #[(Value.pointer p20), (Value.int .i64 n61)] w60 fun e64 w65 =>
  ∃ s62, ∃ b63, e64 = Ending.returned (Value.tuple #[(Value.string s62), (Value.bool b63)]) ∧
  V.sel (!(ByteArray.toList s57 == ByteArray.toList s62))
  (R (Ending.returned (Value.bool false)) w65)
  (V.sel (!(b58 == b63))
  (R (Ending.returned (Value.bool false)) w65)
  (Calls Try.prog 23 #[(Value.pointer p20)] w65 fun e67 w68 =>
  ∃ n66, e67 = Ending.returned (Value.int .i64 n66) ∧
  Calls Try.prog 23 #[(Value.pointer p6)] w68 fun e70 w71 =>
  ∃ n69, e70 = Ending.returned (Value.int .i64 n69) ∧
  V.sel (n66 != n69)
  (R (Ending.returned (Value.bool false)) w71)
  (Calls Try.prog 19 #[(Value.pointer p20)] w71 fun e73 w74 =>
  ∃ A72, ∃ A72l, ∃ A72c, e73 = Ending.returned (Value.slice A72 A72l A72c) ∧
  Calls Try.prog 19 #[(Value.pointer p6)] w74 fun e76 w77 =>
  ∃ A75, ∃ A75l, ∃ A75c, e76 = Ending.returned (Value.slice A75 A75l A75c) ∧
  Calls Try.prog 26 #[(Value.slice A72 A72l A72c), (Value.slice A75 A75l A75c)] w77 fun e79 w80 =>
  ∃ b78, e79 = Ending.returned (Value.bool b78) ∧
  V.sel (!b78)
  (R (Ending.returned (Value.bool false)) w80)
  (I39 (IntKind.wrap .i64 (i_41 + 1)) w80 ∧ μ40 (IntKind.wrap .i64 (i_41 + 1)) w80 < μ40 i_41 w43))))))))))
  (V.sel (((A11l : Nat) : Int) == 0)
  (R (Ending.returned (Value.bool true)) w43)
  (∃ J81 : Option Addr → Int → World → Prop, (∃ S82 : World → Prop, S82 (World.drew w43) ∧
  V.when (decide ((0 : Int) ≤ (IntKind.wrap .i64 (((A11l : Nat) : Int) - 1)) ∧ ((IntKind.wrap .i64 (((A11l : Nat) : Int) - 1)) : Int) < ((A11l : Nat) : Int))) (V.ptr A11 fun a84 =>
  ∃ s85, ∃ n86, ∃ n87, ∃ n88, ∃ n89, ∃ b90, V.cellsC (fun a_ x_ => ∀ w83, S82 w83 → World.cell? w83 a_ = some x_) (Addr.add a84 ((Int.toNat (IntKind.wrap .i64 (((A11l : Nat) : Int) - 1))) * 6)) [(Value.string s85), (Value.int .i64 n86), (Value.int .i64 n87), (Value.int .i64 n88), (Value.int .i64 n89), (Value.bool b90)] ∧
  (Calls Try.prog 28 #[(Value.slice A11 A11l A11c)] (World.drew w43) fun e92 w93 =>
  ∃ A91, ∃ A91l, ∃ A91c, e92 = Ending.returned (Value.slice A91 A91l A91c) ∧
  S82 w93 ∧
  ∀ w94, w94 = (World.alloc w93 (.cells #[(Value.string s85), (Value.int .i64 n86), (Value.int .i64 n87), (Value.int .i64 n88), (Value.int .i64 n89), (Value.bool b90)] 34)) →
  S82 w94 ∧
  ∃ A95, ∃ A95l, ∃ A95c, ∃ w96, Sem.run Try.prog (Builtin.append_ #[29, 29] 29 #[(Value.slice A91 A91l A91c), (Value.slice (some ⟨Array.size (World.heap w93), 0, none⟩) 1 1)]) w94 = .ok (Value.slice A95 A95l A95c) w96 ∧
  S82 w96 ∧
  Calls Try.prog 27 #[(Value.slice A95 A95l A95c), (Value.int .i64 1099511627776)] w96 fun e99 w100 =>
  ∃ p97, ∃ n98, e99 = Ending.returned (Value.tuple #[(Value.pointer p97), (Value.int .i64 n98)]) ∧
  S82 w100 ∧
  J81 p97 n98 w100) ∧
  (∀ w101, w101 = (World.alloc (World.drew w43) (.cells #[(Value.string s85), (Value.int .i64 n86), (Value.int .i64 n87), (Value.int .i64 n88), (Value.int .i64 n89), (Value.bool b90)] 34)) →
  S82 w101 ∧
  Calls Try.prog 28 #[(Value.slice A11 A11l A11c)] w101 fun e103 w104 =>
  ∃ A102, ∃ A102l, ∃ A102c, e103 = Ending.returned (Value.slice A102 A102l A102c) ∧
  S82 w104 ∧
  ∃ A105, ∃ A105l, ∃ A105c, ∃ w106, Sem.run Try.prog (Builtin.append_ #[29, 29] 29 #[(Value.slice A102 A102l A102c), (Value.slice (some ⟨Array.size (World.heap (World.drew w43)), 0, none⟩) 1 1)]) w104 = .ok (Value.slice A105 A105l A105c) w106 ∧
  S82 w106 ∧
  Calls Try.prog 27 #[(Value.slice A105 A105l A105c), (Value.int .i64 1099511627776)] w106 fun e109 w110 =>
  ∃ p107, ∃ n108, e109 = Ending.returned (Value.tuple #[(Value.pointer p107), (Value.int .i64 n108)]) ∧
  S82 w110 ∧
  J81 p107 n108 w110) ∧ True)) ∧
  ∀ x_111 f_112 (j113 : Nat → Value) (w114 : World), J81 x_111 f_112 w114 →
  ∃ S115 : World → Prop, S115 (World.drew w114) ∧
  V.when (decide ((0 : Int) ≤ 0 ∧ (0 : Int) < ((A11l : Nat) : Int))) (V.ptr A11 fun a117 =>
  ∃ n118, (∀ w116, S115 w116 → World.cell? w116 (Addr.add (Addr.add a117 0) 2) = some (Value.int .i64 n118)) ∧
  Calls Try.prog 28 #[(Value.slice A11 A11l A11c)] (World.drew w114) fun e120 w121 =>
  ∃ A119, ∃ A119l, ∃ A119c, e120 = Ending.returned (Value.slice A119 A119l A119c) ∧
  S115 w121 ∧
  Calls Try.prog 27 #[(Value.slice A119 A119l A119c), (Value.int .i64 n118)] w121 fun e124 w125 =>
  ∃ p122, ∃ n123, e124 = Ending.returned (Value.tuple #[(Value.pointer p122), (Value.int .i64 n123)]) ∧
  S115 w125 ∧
  V.sel (!(Option.isNone x_111))
  (R (Ending.returned (Value.bool false)) w125)
  (V.sel (!(Option.isNone p122))
  (R (Ending.returned (Value.bool false)) w125)
  (Calls Try.prog 11 #[(Value.int .i64 f_112)] w125 fun e127 w128 =>
  ∃ n126, e127 = Ending.returned (Value.int .i64 n126) ∧
  V.sel (n126 != 255)
  (R (Ending.returned (Value.bool false)) w128)
  (Calls Try.prog 11 #[(Value.int .i64 n123)] w128 fun e130 w131 =>
  ∃ n129, e130 = Ending.returned (Value.int .i64 n129) ∧
  V.sel (n129 != 255)
  (R (Ending.returned (Value.bool false)) w131)
  (V.sel (decide (((A11l : Nat) : Int) > 1))
  (Calls Try.prog 28 #[(Value.slice A11 A11l A11c)] w131 fun e133 w134 =>
  ∃ A132, ∃ A132l, ∃ A132c, e133 = Ending.returned (Value.slice A132 A132l A132c) ∧
  ∃ S135 : World → Prop, S135 (World.drew w134) ∧
  V.when (decide ((0 : Int) ≤ 1 ∧ (1 : Int) < ((A11l : Nat) : Int))) (V.ptr A11 fun a137 =>
  ∃ s138, ∃ n139, ∃ n140, ∃ n141, ∃ n142, ∃ b143, V.cellsC (fun a_ x_ => ∀ w136, S135 w136 → World.cell? w136 a_ = some x_) (Addr.add a137 6) [(Value.string s138), (Value.int .i64 n139), (Value.int .i64 n140), (Value.int .i64 n141), (Value.int .i64 n142), (Value.bool b143)] ∧
  V.when (decide ((0 : Int) ≤ 0 ∧ (0 : Int) < ((A11l : Nat) : Int))) (V.ptr A11 fun a144 =>
  ∃ s145, ∃ n146, ∃ n147, ∃ n148, ∃ n149, ∃ b150, V.cellsC (fun a_ x_ => ∀ w136, S135 w136 → World.cell? w136 a_ = some x_) (Addr.add a144 0) [(Value.string s145), (Value.int .i64 n146), (Value.int .i64 n147), (Value.int .i64 n148), (Value.int .i64 n149), (Value.bool b150)] ∧
  V.when (decide ((0 : Int) ≤ 0 ∧ (0 : Int) < ((A132l : Nat) : Int))) (V.ptr A132 fun a151 =>
  ∃ w152, Sem.run Try.prog (Instr.storeAt 34 (Value.pointer (some (Addr.add a151 0))) (Value.agg #[(Value.string s138), (Value.int .i64 n139), (Value.int .i64 n140), (Value.int .i64 n141), (Value.int .i64 n142), (Value.bool b143)])) (World.drew w134) = .ok () w152 ∧
  S135 w152 ∧
  V.when (decide ((0 : Int) ≤ 1 ∧ (1 : Int) < ((A132l : Nat) : Int))) (V.ptr A132 fun a153 =>
  ∃ w154, Sem.run Try.prog (Instr.storeAt 34 (Value.pointer (some (Addr.add a153 6))) (Value.agg #[(Value.string s145), (Value.int .i64 n146), (Value.int .i64 n147), (Value.int .i64 n148), (Value.int .i64 n149), (Value.bool b150)])) w152 = .ok () w154 ∧
  Calls Try.prog 27 #[(Value.slice A132 A132l A132c), (Value.int .i64 1099511627776)] w154 fun e157 w158 =>
  ∃ p155, ∃ n156, e157 = Ending.returned (Value.tuple #[(Value.pointer p155), (Value.int .i64 n156)]) ∧
  V.sel (Option.isNone p155)
  (Calls Try.prog 11 #[(Value.int .i64 n156)] w158 fun e160 w161 =>
  ∃ n159, e160 = Ending.returned (Value.int .i64 n159) ∧
  R (Ending.returned (Value.bool (n159 == 255))) w161)
  (R (Ending.returned (Value.bool false)) w158))))))
  (R (Ending.returned (Value.bool true)) w131))))))))))))))) :
  Calls Try.prog 8 #[(Value.slice script_1 script_1l script_1c), (Value.slice then_2 then_2l then_2c)] w R :=
  V.calls_of_R ⟨V.assoc [(0, [9])], V.assocP [(21, (V.Plan.one 0 (V.Plan.one 2 (V.Plan.one 3 (V.Plan.one 4 (V.Plan.one 5 (V.Plan.one 6 (V.Plan.one 7 (V.Plan.alt 1 (V.Plan.one 8 (V.Plan.one 9 (V.Plan.one 10 (V.Plan.one 11 (V.Plan.one 12 (V.Plan.one 13 (V.Plan.one 14 (V.Plan.one 15 V.Plan.done)))))))) (V.Plan.alt 8 (V.Plan.one 1 (V.Plan.one 9 (V.Plan.one 10 (V.Plan.one 11 (V.Plan.one 12 (V.Plan.one 13 (V.Plan.one 14 (V.Plan.one 15 V.Plan.done)))))))) V.Plan.stop)))))))))), (22, V.line [0, 2, 3, 4, 5, 1, 6, 7, 8, 9, 10, 11]), (27, V.line [0, 1, 2, 3, 4, 5, 6, 7, 8, 9, 10, 11])], V.assocC [(21, ([15, 16], [V.Sh.one .ptr, V.Sh.one (.int .i64)]))], V.assocS [], ⟨[], true⟩⟩ Try.func8 rfl (Eq.mp (by kernel_rfl) h)

theorem berthlaw25_QueueOwn_nf (script_1 : Option Addr) (script_1l : Nat) (script_1c : Nat) (w : World) (R : Ending → World → Prop) (h :
  Calls Try.prog 12 #[] w fun e3 w4 =>
  ∃ b2, e3 = Ending.returned (Value.bool b2) ∧
  V.sel (!b2)
  (R (Ending.returned (Value.bool false)) w4)
  (Calls Try.prog 13 #[] w4 fun e6 w7 =>
  ∃ p5, e6 = Ending.returned (Value.pointer p5) ∧
  Calls Try.prog 21 #[(Value.pointer p5), (Value.slice script_1 script_1l script_1c)] w7 fun e8 w9 =>
  e8 = Ending.returned undef ∧
  Calls Try.prog 19 #[(Value.pointer p5)] w9 fun e11 w12 =>
  ∃ A10, ∃ A10l, ∃ A10c, e11 = Ending.returned (Value.slice A10 A10l A10c) ∧
  Calls Try.prog 28 #[(Value.slice A10 A10l A10c)] w12 fun e14 w15 =>
  ∃ A13, ∃ A13l, ∃ A13c, e14 = Ending.returned (Value.slice A13 A13l A13c) ∧
  ∀ w16, w16 = (World.alloc w15 (.cells #[(Value.string ⟨#[115, 112, 97, 114, 101, 49]⟩), (Value.int .i64 0), (Value.int .i64 0), (Value.int .i64 0), (Value.int .i64 0), (Value.bool false), (Value.string ⟨#[115, 112, 97, 114, 101, 50]⟩), (Value.int .i64 0), (Value.int .i64 0), (Value.int .i64 0), (Value.int .i64 0), (Value.bool false), (Value.string ⟨#[115, 112, 97, 114, 101, 51]⟩), (Value.int .i64 0), (Value.int .i64 0), (Value.int .i64 0), (Value.int .i64 0), (Value.bool false)] 34)) →
  ∃ A17, ∃ A17l, ∃ A17c, ∃ w18, Sem.run Try.prog (Builtin.append_ #[29, 29] 29 #[(Value.slice A13 A13l A13c), (Value.slice (some ⟨Array.size (World.heap w15), 0, none⟩) 3 3)]) w16 = .ok (Value.slice A17 A17l A17c) w18 ∧
  Calls Try.prog 28 #[(Value.slice A17 A17l A17c)] w18 fun e20 w21 =>
  ∃ A19, ∃ A19l, ∃ A19c, e20 = Ending.returned (Value.slice A19 A19l A19c) ∧
  ∃ S22 : World → Prop, S22 (World.drew w21) ∧
  V.when (decide ((0 : Int) ≤ ((A10l : Nat) : Int) ∧ (((A10l : Nat) : Int) : Int) ≤ ((A17c : Nat) : Int))) (Calls Try.prog 23 #[(Value.pointer p5)] (World.drew w21) fun e25 w26 =>
  ∃ n24, e25 = Ending.returned (Value.int .i64 n24) ∧
  S22 w26 ∧
  Calls Try.prog 27 #[(Value.slice (V.cut A17 A17c 0 6) ((A10l : Nat) - 0) (A17c - 0)), (Value.int .i64 n24)] w26 fun e29 w30 =>
  ∃ p27, ∃ n28, e29 = Ending.returned (Value.tuple #[(Value.pointer p27), (Value.int .i64 n28)]) ∧
  S22 w30 ∧
  V.sel (Option.isNone p27)
  (R (Ending.returned (Value.bool false)) w30)
  (Calls Try.prog 11 #[(Value.int .i64 n28)] w30 fun e32 w33 =>
  ∃ n31, e32 = Ending.returned (Value.int .i64 n31) ∧
  V.sel (n31 != 0)
  (R (Ending.returned (Value.bool false)) w33)
  (Calls Try.prog 26 #[(Value.slice A17 A17l A17c), (Value.slice A19 A19l A19c)] w33 fun e35 w36 =>
  ∃ b34, e35 = Ending.returned (Value.bool b34) ∧
  V.sel (!b34)
  (R (Ending.returned (Value.bool false)) w36)
  (∃ I37 : Int → World → Prop, ∃ μ38 : Int → World → Nat, I37 0 w36 ∧
  ∀ i_39 (j40 : Nat → Value) (w41 : World), I37 i_39 w41 →
  (V.sel (decide (i_39 < ((A10l : Nat) : Int)))
  (V.when (decide ((0 : Int) ≤ i_39 ∧ (i_39 : Int) < ((A17l : Nat) : Int))) (V.ptr A17 fun a42 =>
  ∃ w43, Sem.run Try.prog (Instr.storeAt 34 (Value.pointer (some (Addr.add a42 ((Int.toNat i_39) * 6)))) (Value.agg #[(Value.string ⟨#[103, 111, 110, 101]⟩), (Value.int .i64 0), (Value.int .i64 0), (Value.int .i64 0), (Value.int .i64 0), (Value.bool false)])) w41 = .ok () w43 ∧
  I37 (IntKind.wrap .i64 (i_39 + 1)) w43 ∧ μ38 (IntKind.wrap .i64 (i_39 + 1)) w43 < μ38 i_39 w41))
  (Calls Try.prog 19 #[(Value.pointer p27)] w41 fun e45 w46 =>
  ∃ A44, ∃ A44l, ∃ A44c, e45 = Ending.returned (Value.slice A44 A44l A44c) ∧
  Calls Try.prog 19 #[(Value.pointer p27)] w46 fun e48 w49 =>
  ∃ A47, ∃ A47l, ∃ A47c, e48 = Ending.returned (Value.slice A47 A47l A47c) ∧
  Calls Try.prog 19 #[(Value.pointer p5)] w49 fun e51 w52 =>
  ∃ A50, ∃ A50l, ∃ A50c, e51 = Ending.returned (Value.slice A50 A50l A50c) ∧
  Calls Try.prog 26 #[(Value.slice A44 A44l A44c), (Value.slice A10 A10l A10c)] w52 fun e54 w55 =>
  ∃ b53, e54 = Ending.returned (Value.bool b53) ∧
  V.sel (!b53)
  (R (Ending.returned (Value.bool false)) w55)
  (Calls Try.prog 26 #[(Value.slice A47 A47l A47c), (Value.slice A10 A10l A10c)] w55 fun e57 w58 =>
  ∃ b56, e57 = Ending.returned (Value.bool b56) ∧
  V.sel (!b56)
  (R (Ending.returned (Value.bool false)) w58)
  (Calls Try.prog 26 #[(Value.slice A50 A50l A50c), (Value.slice A10 A10l A10c)] w58 fun e60 w61 =>
  ∃ b59, e60 = Ending.returned (Value.bool b59) ∧
  V.sel (!b59)
  (R (Ending.returned (Value.bool false)) w61)
  (V.when (decide ((0 : Int) ≤ ((A10l : Nat) : Int) ∧ (((A10l : Nat) : Int) : Int) ≤ ((A17c : Nat) : Int))) (∀ w62, w62 = (World.alloc w61 (.cells #[(Value.slice A44 A44l A44c), (Value.slice A47 A47l A47c), (Value.slice A50 A50l A50c), (Value.slice (V.cut A17 A17c 0 6) ((A10l : Nat) - 0) (A17c - 0))] 29)) →
  ∃ I63 : Int → World → Prop, ∃ μ64 : Int → World → Nat, I63 0 w62 ∧
  ∀ i_65 (j66 : Nat → Value) (w67 : World), I63 i_65 w67 →
  (V.sel (decide (i_65 < 4))
  (∃ I68 : Int → World → Prop, ∃ μ69 : Int → World → Nat, I68 0 w67 ∧
  ∀ k_70 (j71 : Nat → Value) (w72 : World), I68 k_70 w72 →
  (V.sel (decide (k_70 < ((A10l : Nat) : Int)))
  (V.when (decide ((0 : Int) ≤ i_65 ∧ (i_65 : Int) < 4)) (∃ A73, ∃ A73l, ∃ A73c, World.cell? w72 (Addr.add ⟨Array.size (World.heap w61), 0, none⟩ ((Int.toNat i_65) * 1)) = some (Value.slice A73 A73l A73c) ∧
  V.when (decide ((0 : Int) ≤ k_70 ∧ (k_70 : Int) < ((A73l : Nat) : Int))) (V.ptr A73 fun a74 =>
  ∃ w75, Sem.run Try.prog (Instr.storeAt 34 (Value.pointer (some (Addr.add a74 ((Int.toNat k_70) * 6)))) (Value.agg #[(Value.string ByteArray.empty), (Value.int .i64 0), (Value.int .i64 (IntKind.wrap .i64 ((IntKind.wrap .i64 ((-1000) * (IntKind.wrap .i64 (i_65 + 1)))) - k_70))), (Value.int .i64 0), (Value.int .i64 0), (Value.bool false)])) w72 = .ok () w75 ∧
  I68 (IntKind.wrap .i64 (k_70 + 1)) w75 ∧ μ69 (IntKind.wrap .i64 (k_70 + 1)) w75 < μ69 k_70 w72)))
  (I63 (IntKind.wrap .i64 (i_65 + 1)) w72 ∧ μ64 (IntKind.wrap .i64 (i_65 + 1)) w72 < μ64 i_65 w67)))
  (∃ I76 : Option Addr → Nat → Nat → Int → World → Prop, ∃ μ77 : Option Addr → Nat → Nat → Int → World → Nat, I76 none 0 0 0 w67 ∧
  ∀ gs_78 gs_78l gs_78c i_79 (j80 : Nat → Value) (w81 : World), I76 gs_78 gs_78l gs_78c i_79 w81 →
  (V.sel (decide (i_79 < 4))
  (V.when (decide ((0 : Int) ≤ i_79 ∧ (i_79 : Int) < 4)) (∃ A82, ∃ A82l, ∃ A82c, World.cell? w81 (Addr.add ⟨Array.size (World.heap w61), 0, none⟩ ((Int.toNat i_79) * 1)) = some (Value.slice A82 A82l A82c) ∧
  ∃ I83 : Option Addr → Nat → Nat → Int → World → Prop, ∃ μ84 : Option Addr → Nat → Nat → Int → World → Nat, I83 A82 A82l A82c 0 w81 ∧
  ∀ g_85 g_85l g_85c k_86 (j87 : Nat → Value) (w88 : World), I83 g_85 g_85l g_85c k_86 w88 →
  (V.sel (decide (k_86 < 40))
  (∀ w89, w89 = (World.alloc w88 (.cells #[(Value.string ByteArray.empty), (Value.int .i64 0), (Value.int .i64 (IntKind.wrap .i64 ((IntKind.wrap .i64 (1000000 * (IntKind.wrap .i64 (i_79 + 1)))) + k_86))), (Value.int .i64 0), (Value.int .i64 0), (Value.bool false)] 34)) →
  ∃ A90, ∃ A90l, ∃ A90c, ∃ w91, Sem.run Try.prog (Builtin.append_ #[29, 29] 29 #[(Value.slice g_85 g_85l g_85c), (Value.slice (some ⟨Array.size (World.heap w88), 0, none⟩) 1 1)]) w89 = .ok (Value.slice A90 A90l A90c) w91 ∧
  I83 A90 A90l A90c (IntKind.wrap .i64 (k_86 + 1)) w91 ∧ μ84 A90 A90l A90c (IntKind.wrap .i64 (k_86 + 1)) w91 < μ84 g_85 g_85l g_85c k_86 w88)
  (∀ w92, w92 = (World.alloc w88 (.cells #[(Value.slice g_85 g_85l g_85c)] 29)) →
  ∃ A93, ∃ A93l, ∃ A93c, ∃ w94, Sem.run Try.prog (Builtin.append_ #[53, 53] 53 #[(Value.slice gs_78 gs_78l gs_78c), (Value.slice (some ⟨Array.size (World.heap w88), 0, none⟩) 1 1)]) w92 = .ok (Value.slice A93 A93l A93c) w94 ∧
  I76 A93 A93l A93c (IntKind.wrap .i64 (i_79 + 1)) w94 ∧ μ77 A93 A93l A93c (IntKind.wrap .i64 (i_79 + 1)) w94 < μ77 gs_78 gs_78l gs_78c i_79 w81))))
  (∃ I95 : Int → World → Prop, ∃ μ96 : Int → World → Nat, I95 0 w81 ∧
  ∀ i_97 (j98 : Nat → Value) (w99 : World), I95 i_97 w99 →
  (V.sel (decide (i_97 < 4))
  (∃ I100 : Int → World → Prop, ∃ μ101 : Int → World → Nat, I100 0 w99 ∧
  ∀ k_102 (j103 : Nat → Value) (w104 : World), I100 k_102 w104 →
  (V.sel (decide (k_102 < (IntKind.wrap .i64 (((A10l : Nat) : Int) + 40))))
  (V.sel (decide (k_102 < ((A10l : Nat) : Int)))
  (V.when (decide ((0 : Int) ≤ i_97 ∧ (i_97 : Int) < ((gs_78l : Nat) : Int))) (V.ptr gs_78 fun a105 =>
  ∃ A106, ∃ A106l, ∃ A106c, World.cell? w104 (Addr.add a105 ((Int.toNat i_97) * 1)) = some (Value.slice A106 A106l A106c) ∧
  V.when (decide ((0 : Int) ≤ k_102 ∧ (k_102 : Int) < ((A106l : Nat) : Int))) (V.ptr A106 fun a107 =>
  ∃ n108, World.cell? w104 (Addr.add (Addr.add a107 ((Int.toNat k_102) * 6)) 2) = some (Value.int .i64 n108) ∧
  V.sel (n108 != (IntKind.wrap .i64 ((IntKind.wrap .i64 ((-1000) * (IntKind.wrap .i64 (i_97 + 1)))) - k_102)))
  (R (Ending.returned (Value.bool false)) w104)
  (V.sel (decide (k_102 ≥ ((A10l : Nat) : Int)))
  (V.when (decide ((0 : Int) ≤ i_97 ∧ (i_97 : Int) < ((gs_78l : Nat) : Int))) (V.ptr gs_78 fun a109 =>
  ∃ A110, ∃ A110l, ∃ A110c, World.cell? w104 (Addr.add a109 ((Int.toNat i_97) * 1)) = some (Value.slice A110 A110l A110c) ∧
  V.when (decide ((0 : Int) ≤ k_102 ∧ (k_102 : Int) < ((A110l : Nat) : Int))) (V.ptr A110 fun a111 =>
  ∃ n112, World.cell? w104 (Addr.add (Addr.add a111 ((Int.toNat k_102) * 6)) 2) = some (Value.int .i64 n112) ∧
  V.sel (n112 != (IntKind.wrap .i64 ((IntKind.wrap .i64 ((IntKind.wrap .i64 (1000000 * (IntKind.wrap .i64 (i_97 + 1)))) + k_102)) - ((A10l : Nat) : Int))))
  (R (Ending.returned (Value.bool false)) w104)
  (I100 (IntKind.wrap .i64 (k_102 + 1)) w104 ∧ μ101 (IntKind.wrap .i64 (k_102 + 1)) w104 < μ101 k_102 w104))))
  (I100 (IntKind.wrap .i64 (k_102 + 1)) w104 ∧ μ101 (IntKind.wrap .i64 (k_102 + 1)) w104 < μ101 k_102 w104)))))
  (V.sel (decide (k_102 ≥ ((A10l : Nat) : Int)))
  (V.when (decide ((0 : Int) ≤ i_97 ∧ (i_97 : Int) < ((gs_78l : Nat) : Int))) (V.ptr gs_78 fun a113 =>
  ∃ A114, ∃ A114l, ∃ A114c, World.cell? w104 (Addr.add a113 ((Int.toNat i_97) * 1)) = some (Value.slice A114 A114l A114c) ∧
  V.when (decide ((0 : Int) ≤ k_102 ∧ (k_102 : Int) < ((A114l : Nat) : Int))) (V.ptr A114 fun a115 =>
  ∃ n116, World.cell? w104 (Addr.add (Addr.add a115 ((Int.toNat k_102) * 6)) 2) = some (Value.int .i64 n116) ∧
  V.sel (n116 != (IntKind.wrap .i64 ((IntKind.wrap .i64 ((IntKind.wrap .i64 (1000000 * (IntKind.wrap .i64 (i_97 + 1)))) + k_102)) - ((A10l : Nat) : Int))))
  (R (Ending.returned (Value.bool false)) w104)
  (I100 (IntKind.wrap .i64 (k_102 + 1)) w104 ∧ μ101 (IntKind.wrap .i64 (k_102 + 1)) w104 < μ101 k_102 w104))))
  (I100 (IntKind.wrap .i64 (k_102 + 1)) w104 ∧ μ101 (IntKind.wrap .i64 (k_102 + 1)) w104 < μ101 k_102 w104)))
  (I95 (IntKind.wrap .i64 (i_97 + 1)) w104 ∧ μ96 (IntKind.wrap .i64 (i_97 + 1)) w104 < μ96 i_97 w99)))
  (Calls Try.prog 19 #[(Value.pointer p27)] w99 fun e118 w119 =>
  ∃ A117, ∃ A117l, ∃ A117c, e118 = Ending.returned (Value.slice A117 A117l A117c) ∧
  Calls Try.prog 26 #[(Value.slice A117 A117l A117c), (Value.slice A10 A10l A10c)] w119 fun e121 w122 =>
  ∃ b120, e121 = Ending.returned (Value.bool b120) ∧
  V.sel b120
  (Calls Try.prog 19 #[(Value.pointer p5)] w122 fun e124 w125 =>
  ∃ A123, ∃ A123l, ∃ A123c, e124 = Ending.returned (Value.slice A123 A123l A123c) ∧
  Calls Try.prog 26 #[(Value.slice A123 A123l A123c), (Value.slice A10 A10l A10c)] w125 fun e127 w128 =>
  ∃ b126, e127 = Ending.returned (Value.bool b126) ∧
  R (Ending.returned (Value.bool b126)) w128)
  (R (Ending.returned (Value.bool false)) w122))))))))))))))))))) :
  Calls Try.prog 9 #[(Value.slice script_1 script_1l script_1c)] w R :=
  V.calls_of_R ⟨V.assoc [(0, [10]), (1, [16]), (2, [17]), (3, [15, 18]), (4, [19, 20]), (5, [21]), (6, [22])], V.assocP [(9, V.line [0, 1, 2, 3, 4, 5, 6, 7, 8, 9, 10])], V.assocC [], V.assocS [], ⟨[], true⟩⟩ Try.func9 rfl (Eq.mp (by kernel_rfl) h)

theorem berthlaw25_QueuePlays_nf (script_1 : Option Addr) (script_1l : Nat) (script_1c : Nat) (w : World) (R : Ending → World → Prop) (h :
  Calls Try.prog 12 #[] w fun e3 w4 =>
  ∃ b2, e3 = Ending.returned (Value.bool b2) ∧
  V.sel (!b2)
  (R (Ending.returned (Value.bool false)) w4)
  (Calls Try.prog 13 #[] w4 fun e6 w7 =>
  ∃ p5, e6 = Ending.returned (Value.pointer p5) ∧
  ∀ w8, w8 = (World.alloc w7 (.cells #[(Value.pointer p5), (Value.slice none 0 0), (Value.int .i64 0)] 58)) →
  ∃ I9 : Int → World → Prop, ∃ μ10 : Int → World → Nat, I9 0 w8 ∧
  ∀ i_11 (j12 : Nat → Value) (w13 : World), I9 i_11 w13 →
  (V.sel (decide (i_11 < ((script_1l : Nat) : Int)))
  (V.when (decide ((0 : Int) ≤ i_11 ∧ (i_11 : Int) < ((script_1l : Nat) : Int))) (V.ptr script_1 fun a14 =>
  ∃ n15, ∃ s16, ∃ n17, ∃ n18, ∃ A19, ∃ A19l, ∃ A19c, V.cellsC (fun a_ x_ => World.cell? w13 a_ = some x_) (Addr.add a14 ((Int.toNat i_11) * 5)) [(Value.int .i64 n15), (Value.string s16), (Value.int .i64 n17), (Value.int .i64 n18), (Value.slice A19 A19l A19c)] ∧
  Calls Try.prog 29 #[(Value.pointer (some ⟨Array.size (World.heap w7), 0, none⟩)), (Value.agg #[(Value.int .i64 n15), (Value.string s16), (Value.int .i64 n17), (Value.int .i64 n18), (Value.slice A19 A19l A19c)])] w13 fun e21 w22 =>
  ∃ b20, e21 = Ending.returned (Value.bool b20) ∧
  V.sel (!b20)
  (R (Ending.returned (Value.bool false)) w22)
  (I9 (IntKind.wrap .i64 (i_11 + 1)) w22 ∧ μ10 (IntKind.wrap .i64 (i_11 + 1)) w22 < μ10 i_11 w13)))
  (Calls Try.prog 30 #[(Value.pointer (some ⟨Array.size (World.heap w7), 0, none⟩))] w13 fun e24 w25 =>
  ∃ b23, e24 = Ending.returned (Value.bool b23) ∧
  R (Ending.returned (Value.bool b23)) w25)))) :
  Calls Try.prog 10 #[(Value.slice script_1 script_1l script_1c)] w R :=
  V.calls_of_R ⟨V.assoc [(0, [4])], V.assocP [], V.assocC [], V.assocS [], ⟨[], true⟩⟩ Try.func10 rfl (Eq.mp (by kernel_rfl) h)

theorem berthlaw25_num_nf (e_1 : Int) (w : World) (R : Ending → World → Prop) (h :
  R (Ending.returned (Value.int .i64 e_1)) w) :
  Calls Try.prog 11 #[(Value.int .i64 e_1)] w R :=
  V.calls_of_R ⟨V.assoc [], V.assocP [], V.assocC [], V.assocS [], ⟨[], true⟩⟩ Try.func11 rfl (Eq.mp (by kernel_rfl) h)

theorem berthlaw25_awake_nf  (w : World) (R : Ending → World → Prop) (h :
  Calls Try.prog 13 #[] w fun e2 w3 =>
  ∃ p1, e2 = Ending.returned (Value.pointer p1) ∧
  V.sel (Option.isNone p1)
  (R (Ending.returned (Value.bool false)) w3)
  (Calls Try.prog 14 #[(Value.pointer p1), (Value.string ⟨#[97]⟩), (Value.int .i64 3)] w3 fun e5 w6 =>
  ∃ n4, e5 = Ending.returned (Value.int .i64 n4) ∧
  Calls Try.prog 11 #[(Value.int .i64 n4)] w6 fun e8 w9 =>
  ∃ n7, e8 = Ending.returned (Value.int .i64 n7) ∧
  V.sel (n7 != 0)
  (R (Ending.returned (Value.bool false)) w9)
  (Calls Try.prog 20 #[(Value.pointer p1), (Value.int .i64 0)] w9 fun e12 w13 =>
  ∃ s10, ∃ b11, e12 = Ending.returned (Value.tuple #[(Value.string s10), (Value.bool b11)]) ∧
  Calls Try.prog 19 #[(Value.pointer p1)] w13 fun e15 w16 =>
  ∃ A14, ∃ A14l, ∃ A14c, e15 = Ending.returned (Value.slice A14 A14l A14c) ∧
  V.sel (ByteArray.toList s10 == ByteArray.toList ⟨#[97]⟩)
  (V.sel b11
  (V.sel (((A14l : Nat) : Int) == 1)
  (V.when (decide ((0 : Int) ≤ 0 ∧ (0 : Int) < ((A14l : Nat) : Int))) (V.ptr A14 fun a17 =>
  ∃ n18, World.cell? w16 (Addr.add (Addr.add a17 0) 1) = some (Value.int .i64 n18) ∧
  V.sel (n18 == 3)
  (Calls Try.prog 23 #[(Value.pointer p1)] w16 fun e20 w21 =>
  ∃ n19, e20 = Ending.returned (Value.int .i64 n19) ∧
  R (Ending.returned (Value.bool (n19 == 1))) w21)
  (R (Ending.returned (Value.bool false)) w16)))
  (R (Ending.returned (Value.bool false)) w16))
  (R (Ending.returned (Value.bool false)) w16))
  (R (Ending.returned (Value.bool false)) w16)))) :
  Calls Try.prog 12 #[] w R :=
  V.calls_of_R ⟨V.assoc [], V.assocP [], V.assocC [], V.assocS [], ⟨[], true⟩⟩ Try.func12 rfl (Eq.mp (by kernel_rfl) h)

theorem queue_New_nf  (w : World) (R : Ending → World → Prop) (h :
  ∀ w1, w1 = (World.alloc w (.map #[] 0)) →
  ∀ w2, w2 = (World.alloc w1 (.cells #[(Value.slice none 0 0), (Value.map (some (Array.size (World.heap w)))), (Value.int .i64 0)] 62)) →
  R (Ending.returned (Value.pointer (some ⟨Array.size (World.heap w1), 0, none⟩))) w2) :
  Calls Try.prog 13 #[] w R :=
  V.calls_of_R ⟨V.assoc [], V.assocP [], V.assocC [], V.assocS [], ⟨[], true⟩⟩ Try.func13 rfl (Eq.mp (by kernel_rfl) h)

theorem queue_Queue_Push_nf (q_1 : Option Addr) (name_2 : ByteArray) (priority_3 : Int) (w : World) (R : Ending → World → Prop) (h :
  V.sel (Option.isNone q_1)
  (R (Ending.returned (Value.int .i64 1)) w)
  (V.ptr q_1 fun a4 =>
  ∃ m5, World.cell? w (Addr.add a4 1) = some (Value.map m5) ∧
  ∃ s6, ∃ n7, ∃ n8, ∃ n9, ∃ n10, ∃ b11, ∃ b12, ∃ w13, Sem.run Try.prog (Instr.lookup 60 (Value.map m5) (Value.string name_2) true) w = .ok (Value.tuple #[(Value.agg #[(Value.string s6), (Value.int .i64 n7), (Value.int .i64 n8), (Value.int .i64 n9), (Value.int .i64 n10), (Value.bool b11)]), (Value.bool b12)]) w13 ∧
  ∀ w14, w14 = (World.alloc w13 (.cells #[(Value.string ByteArray.empty), (Value.int .i64 0), (Value.int .i64 0), (Value.int .i64 0), (Value.int .i64 0), (Value.bool false)] 34)) →
  ∃ w15, Sem.run Try.prog (Instr.storeAt 34 (Value.pointer (some ⟨Array.size (World.heap w13), 0, none⟩)) (Value.agg #[(Value.string s6), (Value.int .i64 n7), (Value.int .i64 n8), (Value.int .i64 n9), (Value.int .i64 n10), (Value.bool b11)])) w14 = .ok () w15 ∧
  V.sel b12
  (R (Ending.returned (Value.int .i64 250)) w15)
  (V.ptr q_1 fun a16 =>
  ∃ A17, ∃ A17l, ∃ A17c, World.cell? w15 (Addr.add a16 0) = some (Value.slice A17 A17l A17c) ∧
  V.sel (decide (((A17l : Nat) : Int) ≥ 2048))
  (R (Ending.returned (Value.int .i64 251)) w15)
  (V.ptr q_1 fun a18 =>
  ∃ n19, World.cell? w15 (Addr.add a18 2) = some (Value.int .i64 n19) ∧
  V.sel (decide (n19 ≥ 1099511627776))
  (R (Ending.returned (Value.int .i64 253)) w15)
  (V.ptr q_1 fun a20 =>
  ∃ n21, World.cell? w15 (Addr.add a20 2) = some (Value.int .i64 n21) ∧
  Calls Try.prog 31 #[(Value.pointer q_1), (Value.agg #[(Value.string name_2), (Value.int .i64 priority_3), (Value.int .i64 n21), (Value.int .i64 0), (Value.int .i64 0), (Value.bool false)])] w15 fun e22 w23 =>
  e22 = Ending.returned undef ∧
  V.ptr q_1 fun a24 =>
  ∃ n25, World.cell? w23 (Addr.add a24 2) = some (Value.int .i64 n25) ∧
  V.ptr q_1 fun a26 =>
  ∃ w27, Sem.run Try.prog (Instr.storeAt 3 (Value.pointer (some (Addr.add a26 2))) (Value.int .i64 (IntKind.wrap .i64 (n25 + 1)))) w23 = .ok () w27 ∧
  R (Ending.returned (Value.int .i64 0)) w27))))) :
  Calls Try.prog 14 #[(Value.pointer q_1), (Value.string name_2), (Value.int .i64 priority_3)] w R :=
  V.calls_of_R ⟨V.assoc [], V.assocP [], V.assocC [], V.assocS [], ⟨[], true⟩⟩ Try.func14 rfl (Eq.mp (by kernel_rfl) h)

theorem queue_Queue_Take_nf (q_1 : Option Addr) (name_2 : ByteArray) (w : World) (R : Ending → World → Prop) (h :
  ∀ w3, w3 = (World.alloc w (.cells #[(Value.string ByteArray.empty), (Value.int .i64 0), (Value.int .i64 0), (Value.int .i64 0), (Value.int .i64 0), (Value.bool false)] 34)) →
  V.sel (Option.isNone q_1)
  (∃ w4, Sem.run Try.prog (Instr.storeAt 34 (Value.pointer (some ⟨Array.size (World.heap w), 0, none⟩)) (Value.agg #[(Value.string ByteArray.empty), (Value.int .i64 0), (Value.int .i64 0), (Value.int .i64 0), (Value.int .i64 0), (Value.bool false)])) w3 = .ok () w4 ∧
  ∃ s5, ∃ n6, ∃ n7, ∃ n8, ∃ n9, ∃ b10, V.cellsC (fun a_ x_ => World.cell? w4 a_ = some x_) ⟨Array.size (World.heap w), 0, none⟩ [(Value.string s5), (Value.int .i64 n6), (Value.int .i64 n7), (Value.int .i64 n8), (Value.int .i64 n9), (Value.bool b10)] ∧
  R (Ending.returned (Value.tuple #[(Value.agg #[(Value.string s5), (Value.int .i64 n6), (Value.int .i64 n7), (Value.int .i64 n8), (Value.int .i64 n9), (Value.bool b10)]), (Value.int .i64 1)])) w4)
  (V.ptr q_1 fun a11 =>
  ∃ m12, World.cell? w3 (Addr.add a11 1) = some (Value.map m12) ∧
  ∃ s13, ∃ n14, ∃ n15, ∃ n16, ∃ n17, ∃ b18, ∃ b19, ∃ w20, Sem.run Try.prog (Instr.lookup 60 (Value.map m12) (Value.string name_2) true) w3 = .ok (Value.tuple #[(Value.agg #[(Value.string s13), (Value.int .i64 n14), (Value.int .i64 n15), (Value.int .i64 n16), (Value.int .i64 n17), (Value.bool b18)]), (Value.bool b19)]) w20 ∧
  ∀ w21, w21 = (World.alloc w20 (.cells #[(Value.string ByteArray.empty), (Value.int .i64 0), (Value.int .i64 0), (Value.int .i64 0), (Value.int .i64 0), (Value.bool false)] 34)) →
  ∃ w22, Sem.run Try.prog (Instr.storeAt 34 (Value.pointer (some ⟨Array.size (World.heap w20), 0, none⟩)) (Value.agg #[(Value.string s13), (Value.int .i64 n14), (Value.int .i64 n15), (Value.int .i64 n16), (Value.int .i64 n17), (Value.bool b18)])) w21 = .ok () w22 ∧
  V.sel (!b19)
  (∃ w23, Sem.run Try.prog (Instr.storeAt 34 (Value.pointer (some ⟨Array.size (World.heap w), 0, none⟩)) (Value.agg #[(Value.string ByteArray.empty), (Value.int .i64 0), (Value.int .i64 0), (Value.int .i64 0), (Value.int .i64 0), (Value.bool false)])) w22 = .ok () w23 ∧
  ∃ s24, ∃ n25, ∃ n26, ∃ n27, ∃ n28, ∃ b29, V.cellsC (fun a_ x_ => World.cell? w23 a_ = some x_) ⟨Array.size (World.heap w), 0, none⟩ [(Value.string s24), (Value.int .i64 n25), (Value.int .i64 n26), (Value.int .i64 n27), (Value.int .i64 n28), (Value.bool b29)] ∧
  R (Ending.returned (Value.tuple #[(Value.agg #[(Value.string s24), (Value.int .i64 n25), (Value.int .i64 n26), (Value.int .i64 n27), (Value.int .i64 n28), (Value.bool b29)]), (Value.int .i64 252)])) w23)
  (∃ s30, ∃ n31, ∃ n32, ∃ n33, ∃ n34, ∃ b35, V.cellsC (fun a_ x_ => World.cell? w22 a_ = some x_) ⟨Array.size (World.heap w20), 0, none⟩ [(Value.string s30), (Value.int .i64 n31), (Value.int .i64 n32), (Value.int .i64 n33), (Value.int .i64 n34), (Value.bool b35)] ∧
  Calls Try.prog 32 #[(Value.pointer q_1), (Value.agg #[(Value.string s30), (Value.int .i64 n31), (Value.int .i64 n32), (Value.int .i64 n33), (Value.int .i64 n34), (Value.bool b35)])] w22 fun e36 w37 =>
  e36 = Ending.returned undef ∧
  ∃ s38, ∃ n39, ∃ n40, ∃ n41, ∃ n42, ∃ b43, V.cellsC (fun a_ x_ => World.cell? w37 a_ = some x_) ⟨Array.size (World.heap w20), 0, none⟩ [(Value.string s38), (Value.int .i64 n39), (Value.int .i64 n40), (Value.int .i64 n41), (Value.int .i64 n42), (Value.bool b43)] ∧
  ∃ w44, Sem.run Try.prog (Instr.storeAt 34 (Value.pointer (some ⟨Array.size (World.heap w), 0, none⟩)) (Value.agg #[(Value.string s38), (Value.int .i64 n39), (Value.int .i64 n40), (Value.int .i64 n41), (Value.int .i64 n42), (Value.bool b43)])) w37 = .ok () w44 ∧
  ∃ s45, ∃ n46, ∃ n47, ∃ n48, ∃ n49, ∃ b50, V.cellsC (fun a_ x_ => World.cell? w44 a_ = some x_) ⟨Array.size (World.heap w), 0, none⟩ [(Value.string s45), (Value.int .i64 n46), (Value.int .i64 n47), (Value.int .i64 n48), (Value.int .i64 n49), (Value.bool b50)] ∧
  R (Ending.returned (Value.tuple #[(Value.agg #[(Value.string s45), (Value.int .i64 n46), (Value.int .i64 n47), (Value.int .i64 n48), (Value.int .i64 n49), (Value.bool b50)]), (Value.int .i64 0)])) w44))) :
  Calls Try.prog 15 #[(Value.pointer q_1), (Value.string name_2)] w R :=
  V.calls_of_R ⟨V.assoc [], V.assocP [], V.assocC [], V.assocS [], ⟨[], true⟩⟩ Try.func15 rfl (Eq.mp (by kernel_rfl) h)

theorem berthlaw25_without_nf (l_1 : Option Addr) (l_1l : Nat) (l_1c : Nat) (s_2 : ByteArray) (w : World) (R : Ending → World → Prop) (h :
  ∃ I3 : Option Addr → Nat → Nat → Bool → Int → World → Prop, ∃ μ4 : Option Addr → Nat → Nat → Bool → Int → World → Nat, I3 none 0 0 false 0 w ∧
  ∀ out_5 out_5l out_5c gone_6 i_7 (j8 : Nat → Value) (w9 : World), I3 out_5 out_5l out_5c gone_6 i_7 w9 →
  (V.sel (decide (i_7 < ((l_1l : Nat) : Int)))
  (V.when (decide ((0 : Int) ≤ i_7 ∧ (i_7 : Int) < ((l_1l : Nat) : Int))) (V.ptr l_1 fun a10 =>
  ∃ s11, World.cell? w9 (Addr.add a10 ((Int.toNat i_7) * 1)) = some (Value.string s11) ∧
  V.sel (ByteArray.toList s11 == ByteArray.toList s_2)
  (V.sel (!gone_6)
  (I3 out_5 out_5l out_5c true (IntKind.wrap .i64 (i_7 + 1)) w9 ∧ μ4 out_5 out_5l out_5c true (IntKind.wrap .i64 (i_7 + 1)) w9 < μ4 out_5 out_5l out_5c gone_6 i_7 w9)
  (V.when (decide ((0 : Int) ≤ i_7 ∧ (i_7 : Int) < ((l_1l : Nat) : Int))) (V.ptr l_1 fun a12 =>
  ∃ s13, World.cell? w9 (Addr.add a12 ((Int.toNat i_7) * 1)) = some (Value.string s13) ∧
  ∀ w14, w14 = (World.alloc w9 (.cells #[(Value.string s13)] 9)) →
  ∃ A15, ∃ A15l, ∃ A15c, ∃ w16, Sem.run Try.prog (Builtin.append_ #[28, 28] 28 #[(Value.slice out_5 out_5l out_5c), (Value.slice (some ⟨Array.size (World.heap w9), 0, none⟩) 1 1)]) w14 = .ok (Value.slice A15 A15l A15c) w16 ∧
  I3 A15 A15l A15c gone_6 (IntKind.wrap .i64 (i_7 + 1)) w16 ∧ μ4 A15 A15l A15c gone_6 (IntKind.wrap .i64 (i_7 + 1)) w16 < μ4 out_5 out_5l out_5c gone_6 i_7 w9)))
  (V.when (decide ((0 : Int) ≤ i_7 ∧ (i_7 : Int) < ((l_1l : Nat) : Int))) (V.ptr l_1 fun a17 =>
  ∃ s18, World.cell? w9 (Addr.add a17 ((Int.toNat i_7) * 1)) = some (Value.string s18) ∧
  ∀ w19, w19 = (World.alloc w9 (.cells #[(Value.string s18)] 9)) →
  ∃ A20, ∃ A20l, ∃ A20c, ∃ w21, Sem.run Try.prog (Builtin.append_ #[28, 28] 28 #[(Value.slice out_5 out_5l out_5c), (Value.slice (some ⟨Array.size (World.heap w9), 0, none⟩) 1 1)]) w19 = .ok (Value.slice A20 A20l A20c) w21 ∧
  I3 A20 A20l A20c gone_6 (IntKind.wrap .i64 (i_7 + 1)) w21 ∧ μ4 A20 A20l A20c gone_6 (IntKind.wrap .i64 (i_7 + 1)) w21 < μ4 out_5 out_5l out_5c gone_6 i_7 w9))))
  (R (Ending.returned (Value.slice out_5 out_5l out_5c)) w9))) :
  Calls Try.prog 16 #[(Value.slice l_1 l_1l l_1c), (Value.string s_2)] w R :=
  V.calls_of_R ⟨V.assoc [(0, [5, 6, 7])], V.assocP [], V.assocC [], V.assocS [], ⟨[], true⟩⟩ Try.func16 rfl (Eq.mp (by kernel_rfl) h)

theorem queue_Queue_Park_nf (q_1 : Option Addr) (name_2 : ByteArray) (now_3 : Int) (w : World) (R : Ending → World → Prop) (h :
  V.sel (Option.isNone q_1)
  (R (Ending.returned (Value.int .i64 1)) w)
  (V.ptr q_1 fun a4 =>
  ∃ m5, World.cell? w (Addr.add a4 1) = some (Value.map m5) ∧
  ∃ s6, ∃ n7, ∃ n8, ∃ n9, ∃ n10, ∃ b11, ∃ b12, ∃ w13, Sem.run Try.prog (Instr.lookup 60 (Value.map m5) (Value.string name_2) true) w = .ok (Value.tuple #[(Value.agg #[(Value.string s6), (Value.int .i64 n7), (Value.int .i64 n8), (Value.int .i64 n9), (Value.int .i64 n10), (Value.bool b11)]), (Value.bool b12)]) w13 ∧
  ∀ w14, w14 = (World.alloc w13 (.cells #[(Value.string ByteArray.empty), (Value.int .i64 0), (Value.int .i64 0), (Value.int .i64 0), (Value.int .i64 0), (Value.bool false)] 34)) →
  ∃ w15, Sem.run Try.prog (Instr.storeAt 34 (Value.pointer (some ⟨Array.size (World.heap w13), 0, none⟩)) (Value.agg #[(Value.string s6), (Value.int .i64 n7), (Value.int .i64 n8), (Value.int .i64 n9), (Value.int .i64 n10), (Value.bool b11)])) w14 = .ok () w15 ∧
  V.sel (!b12)
  (R (Ending.returned (Value.int .i64 252)) w15)
  (V.sel (decide (now_3 < 0))
  (R (Ending.returned (Value.int .i64 254)) w15)
  (V.sel (decide (now_3 > 1099511627776))
  (R (Ending.returned (Value.int .i64 254)) w15)
  (∃ s16, ∃ n17, ∃ n18, ∃ n19, ∃ n20, ∃ b21, V.cellsC (fun a_ x_ => World.cell? w15 a_ = some x_) ⟨Array.size (World.heap w13), 0, none⟩ [(Value.string s16), (Value.int .i64 n17), (Value.int .i64 n18), (Value.int .i64 n19), (Value.int .i64 n20), (Value.bool b21)] ∧
  Calls Try.prog 32 #[(Value.pointer q_1), (Value.agg #[(Value.string s16), (Value.int .i64 n17), (Value.int .i64 n18), (Value.int .i64 n19), (Value.int .i64 n20), (Value.bool b21)])] w15 fun e22 w23 =>
  e22 = Ending.returned undef ∧
  ∃ n24, World.cell? w23 (Addr.add ⟨Array.size (World.heap w13), 0, none⟩ 3) = some (Value.int .i64 n24) ∧
  ∃ w25, Sem.run Try.prog (Instr.storeAt 3 (Value.pointer (some (Addr.add ⟨Array.size (World.heap w13), 0, none⟩ 3))) (Value.int .i64 (if 1099511627776 < (IntKind.wrap .i64 (n24 + 1)) then 1099511627776 else (IntKind.wrap .i64 (n24 + 1))))) w23 = .ok () w25 ∧
  ∃ w26, Sem.run Try.prog (Instr.storeAt 4 (Value.pointer (some (Addr.add ⟨Array.size (World.heap w13), 0, none⟩ 5))) (Value.bool true)) w25 = .ok () w26 ∧
  ∃ n27, World.cell? w26 (Addr.add ⟨Array.size (World.heap w13), 0, none⟩ 3) = some (Value.int .i64 n27) ∧
  Calls Try.prog 33 #[(Value.int .i64 n27)] w26 fun e29 w30 =>
  ∃ n28, e29 = Ending.returned (Value.int .i64 n28) ∧
  ∃ w31, Sem.run Try.prog (Instr.storeAt 3 (Value.pointer (some (Addr.add ⟨Array.size (World.heap w13), 0, none⟩ 4))) (Value.int .i64 (IntKind.wrap .i64 (now_3 + n28)))) w30 = .ok () w31 ∧
  ∃ s32, ∃ n33, ∃ n34, ∃ n35, ∃ n36, ∃ b37, V.cellsC (fun a_ x_ => World.cell? w31 a_ = some x_) ⟨Array.size (World.heap w13), 0, none⟩ [(Value.string s32), (Value.int .i64 n33), (Value.int .i64 n34), (Value.int .i64 n35), (Value.int .i64 n36), (Value.bool b37)] ∧
  Calls Try.prog 31 #[(Value.pointer q_1), (Value.agg #[(Value.string s32), (Value.int .i64 n33), (Value.int .i64 n34), (Value.int .i64 n35), (Value.int .i64 n36), (Value.bool b37)])] w31 fun e38 w39 =>
  e38 = Ending.returned undef ∧
  R (Ending.returned (Value.int .i64 0)) w39))))) :
  Calls Try.prog 17 #[(Value.pointer q_1), (Value.string name_2), (Value.int .i64 now_3)] w R :=
  V.calls_of_R ⟨V.assoc [], V.assocP [], V.assocC [], V.assocS [], ⟨[], true⟩⟩ Try.func17 rfl (Eq.mp (by kernel_rfl) h)

theorem queue_Queue_Wake_nf (q_1 : Option Addr) (w : World) (R : Ending → World → Prop) (h :
  V.sel (Option.isNone q_1)
  (R (Ending.returned undef) w)
  (V.ptr q_1 fun a2 =>
  ∃ A3, ∃ A3l, ∃ A3c, World.cell? w (Addr.add a2 0) = some (Value.slice A3 A3l A3c) ∧
  ∃ I4 : Int → World → Prop, ∃ μ5 : Int → World → Nat, I4 0 w ∧
  ∀ t10_6 (j7 : Nat → Value) (w8 : World), I4 t10_6 w8 →
  (V.sel (decide (t10_6 < ((A3l : Nat) : Int)))
  (V.ptr q_1 fun a9 =>
  ∃ A10, ∃ A10l, ∃ A10c, World.cell? w8 (Addr.add a9 0) = some (Value.slice A10 A10l A10c) ∧
  V.when (decide ((0 : Int) ≤ t10_6 ∧ (t10_6 : Int) < ((A10l : Nat) : Int))) (V.ptr A10 fun a11 =>
  ∃ w12, Sem.run Try.prog (Instr.storeAt 4 (Value.pointer (some (Addr.add (Addr.add a11 ((Int.toNat t10_6) * 6)) 5))) (Value.bool false)) w8 = .ok () w12 ∧
  V.ptr q_1 fun a13 =>
  ∃ m14, World.cell? w12 (Addr.add a13 1) = some (Value.map m14) ∧
  V.ptr q_1 fun a15 =>
  ∃ A16, ∃ A16l, ∃ A16c, World.cell? w12 (Addr.add a15 0) = some (Value.slice A16 A16l A16c) ∧
  V.when (decide ((0 : Int) ≤ t10_6 ∧ (t10_6 : Int) < ((A16l : Nat) : Int))) (V.ptr A16 fun a17 =>
  ∃ s18, World.cell? w12 (Addr.add (Addr.add a17 ((Int.toNat t10_6) * 6)) 0) = some (Value.string s18) ∧
  V.ptr q_1 fun a19 =>
  ∃ A20, ∃ A20l, ∃ A20c, World.cell? w12 (Addr.add a19 0) = some (Value.slice A20 A20l A20c) ∧
  V.when (decide ((0 : Int) ≤ t10_6 ∧ (t10_6 : Int) < ((A20l : Nat) : Int))) (V.ptr A20 fun a21 =>
  ∃ s22, ∃ n23, ∃ n24, ∃ n25, ∃ n26, ∃ b27, V.cellsC (fun a_ x_ => World.cell? w12 a_ = some x_) (Addr.add a21 ((Int.toNat t10_6) * 6)) [(Value.string s22), (Value.int .i64 n23), (Value.int .i64 n24), (Value.int .i64 n25), (Value.int .i64 n26), (Value.bool b27)] ∧
  ∃ w28, Sem.run Try.prog (Instr.mapUpdate 60 (Value.map m14) (Value.string s18) (Value.agg #[(Value.string s22), (Value.int .i64 n23), (Value.int .i64 n24), (Value.int .i64 n25), (Value.int .i64 n26), (Value.bool b27)])) (World.drew w12) = .ok () w28 ∧
  I4 (IntKind.wrap .i64 (t10_6 + 1)) w28 ∧ μ5 (IntKind.wrap .i64 (t10_6 + 1)) w28 < μ5 t10_6 w8))))
  (R (Ending.returned undef) w8)))) :
  Calls Try.prog 18 #[(Value.pointer q_1)] w R :=
  V.calls_of_R ⟨V.assoc [(0, [10])], V.assocP [(5, V.line [0, 1, 2, 3, 4, 5, 6, 7, 8, 9, 10, 11, 12, 13, 14, 15, 16, 17, 18, 19])], V.assocC [], V.assocS [], ⟨[], true⟩⟩ Try.func18 rfl (Eq.mp (by kernel_rfl) h)

theorem queue_Queue_List_nf (q_1 : Option Addr) (w : World) (R : Ending → World → Prop) (h :
  V.sel (Option.isNone q_1)
  (R (Ending.returned (Value.slice none 0 0)) w)
  (∀ w2, w2 = (World.alloc w (.cells #[] 34)) →
  V.ptr q_1 fun a3 =>
  ∃ A4, ∃ A4l, ∃ A4c, World.cell? w2 (Addr.add a3 0) = some (Value.slice A4 A4l A4c) ∧
  ∃ A5, ∃ A5l, ∃ A5c, ∃ w6, Sem.run Try.prog (Builtin.append_ #[29, 29] 29 #[(Value.slice (some ⟨Array.size (World.heap w), 0, none⟩) 0 0), (Value.slice A4 A4l A4c)]) w2 = .ok (Value.slice A5 A5l A5c) w6 ∧
  R (Ending.returned (Value.slice A5 A5l A5c)) w6)) :
  Calls Try.prog 19 #[(Value.pointer q_1)] w R :=
  V.calls_of_R ⟨V.assoc [], V.assocP [], V.assocC [], V.assocS [], ⟨[], true⟩⟩ Try.func19 rfl (Eq.mp (by kernel_rfl) h)

theorem queue_Queue_Ready_nf (q_1 : Option Addr) (now_2 : Int) (w : World) (R : Ending → World → Prop) (h :
  V.sel (Option.isNone q_1)
  (R (Ending.returned (Value.tuple #[(Value.string ByteArray.empty), (Value.bool false)])) w)
  (V.sel (decide (now_2 < 0))
  (R (Ending.returned (Value.tuple #[(Value.string ByteArray.empty), (Value.bool false)])) w)
  (V.sel (decide (now_2 > 1099511627776))
  (R (Ending.returned (Value.tuple #[(Value.string ByteArray.empty), (Value.bool false)])) w)
  (V.ptr q_1 fun a3 =>
  ∃ A4, ∃ A4l, ∃ A4c, World.cell? w (Addr.add a3 0) = some (Value.slice A4 A4l A4c) ∧
  ∃ I5 : Int → World → Prop, ∃ μ6 : Int → World → Nat, I5 0 w ∧
  ∀ t23_7 (j8 : Nat → Value) (w9 : World), I5 t23_7 w9 →
  (V.sel (decide (t23_7 < ((A4l : Nat) : Int)))
  (V.when (decide ((0 : Int) ≤ t23_7 ∧ (t23_7 : Int) < ((A4l : Nat) : Int))) (V.ptr A4 fun a10 =>
  ∃ s11, ∃ n12, ∃ n13, ∃ n14, ∃ n15, ∃ b16, V.cellsC (fun a_ x_ => World.cell? w9 a_ = some x_) (Addr.add a10 ((Int.toNat t23_7) * 6)) [(Value.string s11), (Value.int .i64 n12), (Value.int .i64 n13), (Value.int .i64 n14), (Value.int .i64 n15), (Value.bool b16)] ∧
  ∀ w17, w17 = (World.alloc w9 (.cells #[(Value.string ByteArray.empty), (Value.int .i64 0), (Value.int .i64 0), (Value.int .i64 0), (Value.int .i64 0), (Value.bool false)] 34)) →
  ∃ w18, Sem.run Try.prog (Instr.storeAt 34 (Value.pointer (some ⟨Array.size (World.heap w9), 0, none⟩)) (Value.agg #[(Value.string s11), (Value.int .i64 n12), (Value.int .i64 n13), (Value.int .i64 n14), (Value.int .i64 n15), (Value.bool b16)])) w17 = .ok () w18 ∧
  ∃ b19, World.cell? w18 (Addr.add ⟨Array.size (World.heap w9), 0, none⟩ 5) = some (Value.bool b19) ∧
  V.sel (!b19)
  (∃ n20, World.cell? w18 (Addr.add ⟨Array.size (World.heap w9), 0, none⟩ 4) = some (Value.int .i64 n20) ∧
  V.sel (decide (n20 ≤ now_2))
  (∃ s21, World.cell? w18 (Addr.add ⟨Array.size (World.heap w9), 0, none⟩ 0) = some (Value.string s21) ∧
  R (Ending.returned (Value.tuple #[(Value.string s21), (Value.bool true)])) w18)
  (I5 (IntKind.wrap .i64 (t23_7 + 1)) w18 ∧ μ6 (IntKind.wrap .i64 (t23_7 + 1)) w18 < μ6 t23_7 w9))
  (I5 (IntKind.wrap .i64 (t23_7 + 1)) w18 ∧ μ6 (IntKind.wrap .i64 (t23_7 + 1)) w18 < μ6 t23_7 w9)))
  (R (Ending.returned (Value.tuple #[(Value.string ByteArray.empty), (Value.bool false)])) w9)))))) :
  Calls Try.prog 20 #[(Value.pointer q_1), (Value.int .i64 now_2)] w R :=
  V.calls_of_R ⟨V.assoc [(0, [23])], V.assocP [], V.assocC [], V.assocS [], ⟨[], true⟩⟩ Try.func20 rfl (Eq.mp (by kernel_rfl) h)

theorem berthlaw25_play_nf (q_1 : Option Addr) (script_2 : Option Addr) (script_2l : Nat) (script_2c : Nat) (w : World) (R : Ending → World → Prop) (h :
  ∃ I3 : Int → World → Prop, ∃ μ4 : Int → World → Nat, I3 0 w ∧
  ∀ i_5 (j6 : Nat → Value) (w7 : World), I3 i_5 w7 →
  (V.sel (decide (i_5 < ((script_2l : Nat) : Int)))
  (V.when (decide ((0 : Int) ≤ i_5 ∧ (i_5 : Int) < ((script_2l : Nat) : Int))) (V.ptr script_2 fun a8 =>
  ∃ n9, ∃ s10, ∃ n11, ∃ n12, ∃ A13, ∃ A13l, ∃ A13c, V.cellsC (fun a_ x_ => World.cell? w7 a_ = some x_) (Addr.add a8 ((Int.toNat i_5) * 5)) [(Value.int .i64 n9), (Value.string s10), (Value.int .i64 n11), (Value.int .i64 n12), (Value.slice A13 A13l A13c)] ∧
  ∀ w14, w14 = (World.alloc w7 (.cells #[(Value.int .i64 0), (Value.string ByteArray.empty), (Value.int .i64 0), (Value.int .i64 0), (Value.slice none 0 0)] 31)) →
  ∃ w15, Sem.run Try.prog (Instr.storeAt 31 (Value.pointer (some ⟨Array.size (World.heap w7), 0, none⟩)) (Value.agg #[(Value.int .i64 n9), (Value.string s10), (Value.int .i64 n11), (Value.int .i64 n12), (Value.slice A13 A13l A13c)])) w14 = .ok () w15 ∧
  ∃ n16, World.cell? w15 (Addr.add ⟨Array.size (World.heap w7), 0, none⟩ 0) = some (Value.int .i64 n16) ∧
  V.sel (n16 == 4)
  (∃ s17, World.cell? w15 (Addr.add ⟨Array.size (World.heap w7), 0, none⟩ 1) = some (Value.string s17) ∧
  ∃ n18, World.cell? w15 (Addr.add ⟨Array.size (World.heap w7), 0, none⟩ 2) = some (Value.int .i64 n18) ∧
  Calls Try.prog 14 #[(Value.pointer q_1), (Value.string s17), (Value.int .i64 n18)] w15 fun e20 w21 =>
  ∃ n19, e20 = Ending.returned (Value.int .i64 n19) ∧
  I3 (IntKind.wrap .i64 (i_5 + 1)) w21 ∧ μ4 (IntKind.wrap .i64 (i_5 + 1)) w21 < μ4 i_5 w7)
  (V.sel (n16 == 5)
  (∃ s22, World.cell? w15 (Addr.add ⟨Array.size (World.heap w7), 0, none⟩ 1) = some (Value.string s22) ∧
  Calls Try.prog 15 #[(Value.pointer q_1), (Value.string s22)] w15 fun e30 w31 =>
  ∃ s23, ∃ n24, ∃ n25, ∃ n26, ∃ n27, ∃ b28, ∃ n29, e30 = Ending.returned (Value.tuple #[(Value.agg #[(Value.string s23), (Value.int .i64 n24), (Value.int .i64 n25), (Value.int .i64 n26), (Value.int .i64 n27), (Value.bool b28)]), (Value.int .i64 n29)]) ∧
  I3 (IntKind.wrap .i64 (i_5 + 1)) w31 ∧ μ4 (IntKind.wrap .i64 (i_5 + 1)) w31 < μ4 i_5 w7)
  (V.sel (n16 == 7)
  (∃ s32, World.cell? w15 (Addr.add ⟨Array.size (World.heap w7), 0, none⟩ 1) = some (Value.string s32) ∧
  ∃ n33, World.cell? w15 (Addr.add ⟨Array.size (World.heap w7), 0, none⟩ 3) = some (Value.int .i64 n33) ∧
  Calls Try.prog 17 #[(Value.pointer q_1), (Value.string s32), (Value.int .i64 n33)] w15 fun e35 w36 =>
  ∃ n34, e35 = Ending.returned (Value.int .i64 n34) ∧
  I3 (IntKind.wrap .i64 (i_5 + 1)) w36 ∧ μ4 (IntKind.wrap .i64 (i_5 + 1)) w36 < μ4 i_5 w7)
  (V.sel (n16 == 8)
  (Calls Try.prog 18 #[(Value.pointer q_1)] w15 fun e37 w38 =>
  e37 = Ending.returned undef ∧
  I3 (IntKind.wrap .i64 (i_5 + 1)) w38 ∧ μ4 (IntKind.wrap .i64 (i_5 + 1)) w38 < μ4 i_5 w7)
  (I3 (IntKind.wrap .i64 (i_5 + 1)) w15 ∧ μ4 (IntKind.wrap .i64 (i_5 + 1)) w15 < μ4 i_5 w7))))))
  (R (Ending.returned undef) w7))) :
  Calls Try.prog 21 #[(Value.pointer q_1), (Value.slice script_2 script_2l script_2c)] w R :=
  V.calls_of_R ⟨V.assoc [(0, [4])], V.assocP [], V.assocC [], V.assocS [], ⟨[], true⟩⟩ Try.func21 rfl (Eq.mp (by kernel_rfl) h)

end Go.Proofs.Ytfjgiaimlmnepaa
