/- Normal forms of the program's functions, printed by a program of mine; the kernel checks each. -/
import Derived.Test.YtjlkdadafddodaaGreatDoorProg
import Derived.Test.YtjlkdadafddodaaGreatDoorV2
set_option linter.unusedVariables false
set_option maxRecDepth 100000
namespace Go.Proofs.YtjlkdadafddodaaGreatDoor
open Go

theorem ordered_Index_Among_nf (x_1 : Option Addr) (key_2 : ByteArray) (ns_3 : Option Addr) (ns_3l : Nat) (ns_3c : Nat) (w : World) (R : Ending → World → Prop) (h :
  Calls Tryz.prog 27 #[(Value.pointer x_1)] w fun e5 w6 =>
  ∃ p4, e5 = Ending.returned (Value.pointer p4) ∧
  ∀ w7, w7 = (World.alloc w6 (.cells #[(Value.pointer none)] 43)) →
  ∃ w8, Sem.run Tryz.prog (Instr.storeAt 43 (Value.pointer (some ⟨Array.size (World.heap w6), 0, none⟩)) (Value.pointer p4)) w7 = .ok () w8 ∧
  Calls Tryz.prog 28 #[(Value.pointer x_1), (Value.string key_2)] w8 fun e10 w11 =>
  ∃ p9, e10 = Ending.returned (Value.pointer p9) ∧
  ∃ I12 : Int → List Nat → World → Prop, ∃ μ13 : Int → World → Nat, I12 0 [] w11 ∧
  ∀ t20_14 (j15 : Nat → Value) (ds16 : List Nat) (w17 : World), I12 t20_14 ds16 w17 →
  (V.sel (decide (t20_14 < ((ns_3l : Nat) : Int)))
  (V.when (decide ((0 : Int) ≤ t20_14 ∧ (t20_14 : Int) < ((ns_3l : Nat) : Int))) (V.ptr ns_3 fun a18 =>
  ∃ n19, World.cell? w17 (Addr.add a18 ((Int.toNat t20_14) * 1)) = some (Value.int .i64 n19) ∧
  Calls Tryz.prog 29 #[(Value.pointer p9), (Value.int .i64 n19), (Value.int .i64 n19)] w17 fun e21 w22 =>
  ∃ f20, ∃ f20a, ∃ f20c, e21 = Ending.returned (Value.func (.func f20) f20a f20c) ∧
  V.when (V.hasB Tryz.prog f20 && true) (∀ (Rc23 : Loop) (l24 : Nat) (w25 : World), l24 = Array.size (World.heap w22) + 1 → w25 = World.alloc (World.alloc w22 (.deferred (some []))) (.loop { Rc23 with state := .ready, pending := none }) →
  (∀ y28_28 y29_29 (W26 : World) (R27 : Ending → World → Prop), V.LoopSt W26 l24 Rc23 .ready none →
  (V.LoopSt W26 l24 Rc23 .ready none ∧
  ∃ p30, World.cell? (V.setLoop W26 l24 Rc23 .busy none) ⟨Array.size (World.heap w6), 0, none⟩ = some (Value.pointer p30) ∧
  Calls Tryz.prog 30 #[(Value.pointer p30), (Value.pointer y29_29)] (V.setLoop W26 l24 Rc23 .busy none) fun e31 w32 =>
  e31 = Ending.returned undef ∧
  V.LoopSt w32 l24 Rc23 .busy none ∧ R27 (Ending.returned (Value.bool true)) (V.setLoop w32 l24 Rc23 .ready none)) →
  V.Yield Tryz.prog l24 [(Value.int .i64 y28_28), (Value.pointer y29_29)] W26 R27) →
  Calls Tryz.prog f20 ⟨Array.toList f20a ++ [(Value.func (.yield l24) #[] #[])] ++ Array.toList f20c⟩ w25 fun e33 w35 => (∃ v34, e33 = Ending.returned v34) ∧
  ((V.LoopSt w35 l24 Rc23 .ready none ∧
  I12 (IntKind.wrap .i64 (t20_14 + 1)) (Array.size (World.heap w22) :: ds16) (V.setLoop w35 l24 Rc23 .exhausted none) ∧ μ13 (IntKind.wrap .i64 (t20_14 + 1)) (V.setLoop w35 l24 Rc23 .exhausted none) < μ13 t20_14 w17) ∨
  False))))
  (∃ p36, World.cell? w17 ⟨Array.size (World.heap w6), 0, none⟩ = some (Value.pointer p36) ∧
  V.closeR ds16 w17 fun w37 =>
  R (Ending.returned (Value.pointer p36)) w37))) :
  Calls Tryz.prog 10 #[(Value.pointer x_1), (Value.string key_2), (Value.slice ns_3 ns_3l ns_3c)] w R :=
  V.calls_of_R ⟨V.assoc [(0, [20])], V.assocP [], V.assocC [], V.assocS [(1, [V.Sh.one (.int .i64), V.Sh.one .ptr])], ⟨[], true⟩⟩ Tryz.func10 rfl (Eq.mp (by kernel_rfl) h)

theorem berthref08_Index_Among_nf (x_1 : Int) (x_2 : Option Addr) (x_2l : Nat) (x_2c : Nat) (key_3 : ByteArray) (ns_4 : Option Addr) (ns_4l : Nat) (ns_4c : Nat) (w : World) (R : Ending → World → Prop) (h :
  ∀ w5, w5 = (World.alloc w (.cells #[(Value.int .i64 x_1), (Value.slice x_2 x_2l x_2c)] 36)) →
  ∀ w6, w6 = (World.alloc w5 (.cells #[] 3)) →
  ∃ I7 : Option Addr → Nat → Nat → Int → World → Prop, ∃ μ8 : Option Addr → Nat → Nat → Int → World → Nat, I7 (some ⟨Array.size (World.heap w5), 0, none⟩) 0 0 0 w6 ∧
  ∀ all_9 all_9l all_9c i_10 (j11 : Nat → Value) (w12 : World), I7 all_9 all_9l all_9c i_10 w12 →
  (∃ A13, ∃ A13l, ∃ A13c, World.cell? w12 (Addr.add ⟨Array.size (World.heap w), 0, none⟩ 1) = some (Value.slice A13 A13l A13c) ∧
  V.sel (decide (i_10 < ((A13l : Nat) : Int)))
  (∃ I14 : Option Addr → Nat → Nat → Int → World → Prop, ∃ μ15 : Option Addr → Nat → Nat → Int → World → Nat, I14 all_9 all_9l all_9c 0 w12 ∧
  ∀ all_16 all_16l all_16c j_17 (j18 : Nat → Value) (w19 : World), I14 all_16 all_16l all_16c j_17 w19 →
  (V.sel (decide (j_17 < ((ns_4l : Nat) : Int)))
  (∃ A20, ∃ A20l, ∃ A20c, World.cell? w19 (Addr.add ⟨Array.size (World.heap w), 0, none⟩ 1) = some (Value.slice A20 A20l A20c) ∧
  V.when (decide ((0 : Int) ≤ i_10 ∧ (i_10 : Int) < ((A20l : Nat) : Int))) (V.ptr A20 fun a21 =>
  ∃ s22, World.cell? w19 (Addr.add (Addr.add a21 ((Int.toNat i_10) * 3)) 0) = some (Value.string s22) ∧
  V.sel (ByteArray.toList s22 == ByteArray.toList key_3)
  (∃ A23, ∃ A23l, ∃ A23c, World.cell? w19 (Addr.add ⟨Array.size (World.heap w), 0, none⟩ 1) = some (Value.slice A23 A23l A23c) ∧
  V.when (decide ((0 : Int) ≤ i_10 ∧ (i_10 : Int) < ((A23l : Nat) : Int))) (V.ptr A23 fun a24 =>
  ∃ n25, World.cell? w19 (Addr.add (Addr.add a24 ((Int.toNat i_10) * 3)) 2) = some (Value.int .i64 n25) ∧
  V.when (decide ((0 : Int) ≤ j_17 ∧ (j_17 : Int) < ((ns_4l : Nat) : Int))) (V.ptr ns_4 fun a26 =>
  ∃ n27, World.cell? w19 (Addr.add a26 ((Int.toNat j_17) * 1)) = some (Value.int .i64 n27) ∧
  V.sel (n25 == n27)
  (∃ A28, ∃ A28l, ∃ A28c, World.cell? (World.drew w19) (Addr.add ⟨Array.size (World.heap w), 0, none⟩ 1) = some (Value.slice A28 A28l A28c) ∧
  V.when (decide ((0 : Int) ≤ i_10 ∧ (i_10 : Int) < ((A28l : Nat) : Int))) (V.ptr A28 fun a29 =>
  ∃ n30, World.cell? (World.drew w19) (Addr.add (Addr.add a29 ((Int.toNat i_10) * 3)) 1) = some (Value.int .i64 n30) ∧
  ∀ w31, w31 = (World.alloc (World.drew w19) (.cells #[(Value.int .i64 n30)] 3)) →
  ∃ A32, ∃ A32l, ∃ A32c, ∃ w33, Sem.run Tryz.prog (Builtin.append_ #[23, 23] 23 #[(Value.slice all_16 all_16l all_16c), (Value.slice (some ⟨Array.size (World.heap (World.drew w19)), 0, none⟩) 1 1)]) w31 = .ok (Value.slice A32 A32l A32c) w33 ∧
  I14 A32 A32l A32c (IntKind.wrap .i64 (j_17 + 1)) w33 ∧ μ15 A32 A32l A32c (IntKind.wrap .i64 (j_17 + 1)) w33 < μ15 all_16 all_16l all_16c j_17 w19))
  (I14 all_16 all_16l all_16c (IntKind.wrap .i64 (j_17 + 1)) (World.drew w19) ∧ μ15 all_16 all_16l all_16c (IntKind.wrap .i64 (j_17 + 1)) (World.drew w19) < μ15 all_16 all_16l all_16c j_17 w19))))
  (I14 all_16 all_16l all_16c (IntKind.wrap .i64 (j_17 + 1)) (World.drew w19) ∧ μ15 all_16 all_16l all_16c (IntKind.wrap .i64 (j_17 + 1)) (World.drew w19) < μ15 all_16 all_16l all_16c j_17 w19)))
  (I7 all_16 all_16l all_16c (IntKind.wrap .i64 (i_10 + 1)) w19 ∧ μ8 all_16 all_16l all_16c (IntKind.wrap .i64 (i_10 + 1)) w19 < μ8 all_9 all_9l all_9c i_10 w12)))
  (Calls Tryz.prog 31 #[(Value.slice all_9 all_9l all_9c)] w12 fun e35 w36 =>
  ∃ A34, ∃ A34l, ∃ A34c, e35 = Ending.returned (Value.slice A34 A34l A34c) ∧
  R (Ending.returned (Value.slice A34 A34l A34c)) w36))) :
  Calls Tryz.prog 11 #[(Value.agg #[(Value.int .i64 x_1), (Value.slice x_2 x_2l x_2c)]), (Value.string key_3), (Value.slice ns_4 ns_4l ns_4c)] w R :=
  V.calls_of_R ⟨V.assoc [(0, [7, 8]), (1, [7, 9])], V.assocP [(8, V.line [0, 1, 2, 3, 4, 5, 6, 7, 8, 9, 10, 11, 12, 13, 14, 15, 16, 17, 18, 19, 20])], V.assocC [], V.assocS [], ⟨[], true⟩⟩ Tryz.func11 rfl (Eq.mp (by kernel_rfl) h)

theorem berthlaw08_World_keysOwn_nf (w_1 : Option Addr) (i_2 : Int) (w : World) (R : Ending → World → Prop) (h :
  V.ptr w_1 fun a3 =>
  V.when (decide ((0 : Int) ≤ i_2 ∧ (i_2 : Int) < 4)) (∃ n4, ∃ A5, ∃ A5l, ∃ A5c, V.cellsC (fun a_ x_ => World.cell? w a_ = some x_) (Addr.add (Addr.add a3 4) ((Int.toNat i_2) * 2)) [(Value.int .i64 n4), (Value.slice A5 A5l A5c)] ∧
  Calls Tryz.prog 7 #[(Value.agg #[(Value.int .i64 n4), (Value.slice A5 A5l A5c)])] w fun e7 w8 =>
  ∃ A6, ∃ A6l, ∃ A6c, e7 = Ending.returned (Value.slice A6 A6l A6c) ∧
  ∃ I9 : Option Addr → Nat → Nat → Int → World → Prop, ∃ μ10 : Option Addr → Nat → Nat → Int → World → Nat, I9 none 0 0 0 w8 ∧
  ∀ all_11 all_11l all_11c k_12 (j13 : Nat → Value) (w14 : World), I9 all_11 all_11l all_11c k_12 w14 →
  (V.sel (decide (k_12 < 18))
  (V.ptr w_1 fun a15 =>
  V.when (decide ((0 : Int) ≤ i_2 ∧ (i_2 : Int) < 4)) (∃ p16, World.cell? w14 (Addr.add (Addr.add a15 0) ((Int.toNat i_2) * 1)) = some (Value.pointer p16) ∧
  Calls Tryz.prog 32 #[(Value.pointer p16)] w14 fun e18 w19 =>
  ∃ A17, ∃ A17l, ∃ A17c, e18 = Ending.returned (Value.slice A17 A17l A17c) ∧
  Calls Tryz.prog 33 #[(Value.slice A17 A17l A17c), (Value.slice A6 A6l A6c)] w19 fun e21 w22 =>
  ∃ b20, e21 = Ending.returned (Value.bool b20) ∧
  V.sel (!b20)
  (R (Ending.returned (Value.bool false)) w22)
  (∀ w23, w23 = (World.alloc w22 (.cells #[(Value.slice A17 A17l A17c)] 33)) →
  ∃ A24, ∃ A24l, ∃ A24c, ∃ w25, Sem.run Tryz.prog (Builtin.append_ #[76, 76] 76 #[(Value.slice all_11 all_11l all_11c), (Value.slice (some ⟨Array.size (World.heap w22), 0, none⟩) 1 1)]) w23 = .ok (Value.slice A24 A24l A24c) w25 ∧
  I9 A24 A24l A24c (IntKind.wrap .i64 (k_12 + 1)) w25 ∧ μ10 A24 A24l A24c (IntKind.wrap .i64 (k_12 + 1)) w25 < μ10 all_11 all_11l all_11c k_12 w14)))
  (∃ I26 : Int → World → Prop, ∃ μ27 : Int → World → Nat, I26 0 w14 ∧
  ∀ t50_28 (j29 : Nat → Value) (w30 : World), I26 t50_28 w30 →
  (V.sel (decide (t50_28 < ((all_11l : Nat) : Int)))
  (V.when (decide ((0 : Int) ≤ t50_28 ∧ (t50_28 : Int) < ((all_11l : Nat) : Int))) (V.ptr all_11 fun a31 =>
  ∃ A32, ∃ A32l, ∃ A32c, World.cell? w30 (Addr.add a31 ((Int.toNat t50_28) * 1)) = some (Value.slice A32 A32l A32c) ∧
  Calls Tryz.prog 33 #[(Value.slice A32 A32l A32c), (Value.slice A6 A6l A6c)] w30 fun e34 w35 =>
  ∃ b33, e34 = Ending.returned (Value.bool b33) ∧
  V.sel (!b33)
  (R (Ending.returned (Value.bool false)) w35)
  (I26 (IntKind.wrap .i64 (t50_28 + 1)) w35 ∧ μ27 (IntKind.wrap .i64 (t50_28 + 1)) w35 < μ27 t50_28 w30)))
  (∃ I36 : Int → World → Prop, ∃ μ37 : Int → World → Nat, I36 0 w30 ∧
  ∀ t61_38 (j39 : Nat → Value) (w40 : World), I36 t61_38 w40 →
  (V.sel (decide (t61_38 < ((all_11l : Nat) : Int)))
  (V.when (decide ((0 : Int) ≤ t61_38 ∧ (t61_38 : Int) < ((all_11l : Nat) : Int))) (V.ptr all_11 fun a41 =>
  ∃ A42, ∃ A42l, ∃ A42c, World.cell? w40 (Addr.add a41 ((Int.toNat t61_38) * 1)) = some (Value.slice A42 A42l A42c) ∧
  ∃ I43 : Int → World → Prop, ∃ μ44 : Int → World → Nat, I43 0 w40 ∧
  ∀ t68_45 (j46 : Nat → Value) (w47 : World), I43 t68_45 w47 →
  (V.sel (decide (t68_45 < ((A42l : Nat) : Int)))
  (Calls Tryz.prog 34 #[(Value.int .i64 t61_38)] w47 fun e49 w50 =>
  ∃ s48, e49 = Ending.returned (Value.string s48) ∧
  V.when (decide (ByteArray.size ⟨#[126]⟩ + ByteArray.size s48 ≤ 9223372036854775807)) (V.when (decide ((0 : Int) ≤ t68_45 ∧ (t68_45 : Int) < ((A42l : Nat) : Int))) (V.ptr A42 fun a51 =>
  ∃ w52, Sem.run Tryz.prog (Instr.storeAt 9 (Value.pointer (some (Addr.add a51 ((Int.toNat t68_45) * 1)))) (Value.string (⟨#[126]⟩ ++ s48))) w50 = .ok () w52 ∧
  I43 (IntKind.wrap .i64 (t68_45 + 1)) w52 ∧ μ44 (IntKind.wrap .i64 (t68_45 + 1)) w52 < μ44 t68_45 w47)))
  (I36 (IntKind.wrap .i64 (t61_38 + 1)) w47 ∧ μ37 (IntKind.wrap .i64 (t61_38 + 1)) w47 < μ37 t61_38 w40))))
  (∃ I53 : Option Addr → Nat → Nat → Int → World → Prop, ∃ μ54 : Option Addr → Nat → Nat → Int → World → Nat, I53 none 0 0 0 w40 ∧
  ∀ grown_55 grown_55l grown_55c t81_56 (j57 : Nat → Value) (w58 : World), I53 grown_55 grown_55l grown_55c t81_56 w58 →
  (V.sel (decide (t81_56 < ((all_11l : Nat) : Int)))
  (V.when (decide ((0 : Int) ≤ t81_56 ∧ (t81_56 : Int) < ((all_11l : Nat) : Int))) (V.ptr all_11 fun a59 =>
  ∃ A60, ∃ A60l, ∃ A60c, World.cell? w58 (Addr.add a59 ((Int.toNat t81_56) * 1)) = some (Value.slice A60 A60l A60c) ∧
  ∃ I61 : Option Addr → Nat → Nat → Int → World → Prop, ∃ μ62 : Option Addr → Nat → Nat → Int → World → Nat, I61 A60 A60l A60c 0 w58 ∧
  ∀ g_63 g_63l g_63c j_64 (j65 : Nat → Value) (w66 : World), I61 g_63 g_63l g_63c j_64 w66 →
  (V.sel (decide (j_64 < 32))
  (∀ w67, w67 = (World.alloc w66 (.cells #[(Value.string ⟨#[43]⟩)] 9)) →
  ∃ A68, ∃ A68l, ∃ A68c, ∃ w69, Sem.run Tryz.prog (Builtin.append_ #[33, 33] 33 #[(Value.slice g_63 g_63l g_63c), (Value.slice (some ⟨Array.size (World.heap w66), 0, none⟩) 1 1)]) w67 = .ok (Value.slice A68 A68l A68c) w69 ∧
  I61 A68 A68l A68c (IntKind.wrap .i64 (j_64 + 1)) w69 ∧ μ62 A68 A68l A68c (IntKind.wrap .i64 (j_64 + 1)) w69 < μ62 g_63 g_63l g_63c j_64 w66)
  (Calls Tryz.prog 34 #[(Value.int .i64 t81_56)] w66 fun e71 w72 =>
  ∃ s70, e71 = Ending.returned (Value.string s70) ∧
  V.when (decide (ByteArray.size ⟨#[42]⟩ + ByteArray.size s70 ≤ 9223372036854775807)) (∀ w73, w73 = (World.alloc w72 (.cells #[(Value.string (⟨#[42]⟩ ++ s70))] 9)) →
  ∃ A74, ∃ A74l, ∃ A74c, ∃ w75, Sem.run Tryz.prog (Builtin.append_ #[33, 33] 33 #[(Value.slice A60 A60l A60c), (Value.slice (some ⟨Array.size (World.heap w72), 0, none⟩) 1 1)]) w73 = .ok (Value.slice A74 A74l A74c) w75 ∧
  ∀ w76, w76 = (World.alloc w75 (.cells #[(Value.slice A74 A74l A74c)] 33)) →
  ∃ A77, ∃ A77l, ∃ A77c, ∃ w78, Sem.run Tryz.prog (Builtin.append_ #[76, 76] 76 #[(Value.slice grown_55 grown_55l grown_55c), (Value.slice (some ⟨Array.size (World.heap w75), 0, none⟩) 1 1)]) w76 = .ok (Value.slice A77 A77l A77c) w78 ∧
  I53 A77 A77l A77c (IntKind.wrap .i64 (t81_56 + 1)) w78 ∧ μ54 A77 A77l A77c (IntKind.wrap .i64 (t81_56 + 1)) w78 < μ54 grown_55 grown_55l grown_55c t81_56 w58)))))
  (∃ I79 : Int → World → Prop, ∃ μ80 : Int → World → Nat, I79 0 w58 ∧
  ∀ t106_81 (j82 : Nat → Value) (w83 : World), I79 t106_81 w83 →
  (V.sel (decide (t106_81 < ((all_11l : Nat) : Int)))
  (V.when (decide ((0 : Int) ≤ t106_81 ∧ (t106_81 : Int) < ((all_11l : Nat) : Int))) (V.ptr all_11 fun a84 =>
  ∃ A85, ∃ A85l, ∃ A85c, World.cell? w83 (Addr.add a84 ((Int.toNat t106_81) * 1)) = some (Value.slice A85 A85l A85c) ∧
  ∃ I86 : Int → World → Prop, ∃ μ87 : Int → World → Nat, I86 0 w83 ∧
  ∀ t113_88 (j89 : Nat → Value) (w90 : World), I86 t113_88 w90 →
  (V.sel (decide (t113_88 < ((A85l : Nat) : Int)))
  (∃ S91 : World → Prop, S91 (World.drew w90) ∧
  V.when (decide ((0 : Int) ≤ t113_88 ∧ (t113_88 : Int) < ((A85l : Nat) : Int))) (V.ptr A85 fun a93 =>
  ∃ s94, (∀ w92, S91 w92 → World.cell? w92 (Addr.add a93 ((Int.toNat t113_88) * 1)) = some (Value.string s94)) ∧
  Calls Tryz.prog 34 #[(Value.int .i64 t106_81)] (World.drew w90) fun e96 w97 =>
  ∃ s95, e96 = Ending.returned (Value.string s95) ∧
  S91 w97 ∧
  V.when (decide (ByteArray.size ⟨#[126]⟩ + ByteArray.size s95 ≤ 9223372036854775807)) (V.sel (!(ByteArray.toList s94 == ByteArray.toList (⟨#[126]⟩ ++ s95)))
  (R (Ending.returned (Value.bool false)) w97)
  (I86 (IntKind.wrap .i64 (t113_88 + 1)) w97 ∧ μ87 (IntKind.wrap .i64 (t113_88 + 1)) w97 < μ87 t113_88 w90))))
  (∃ S98 : World → Prop, S98 (World.drew w90) ∧
  V.when (decide ((0 : Int) ≤ t106_81 ∧ (t106_81 : Int) < ((grown_55l : Nat) : Int))) (V.ptr grown_55 fun a100 =>
  ∃ A101, ∃ A101l, ∃ A101c, (∀ w99, S98 w99 → World.cell? w99 (Addr.add a100 ((Int.toNat t106_81) * 1)) = some (Value.slice A101 A101l A101c)) ∧
  V.when (decide ((0 : Int) ≤ ((A85l : Nat) : Int) ∧ (((A85l : Nat) : Int) : Int) < ((A101l : Nat) : Int))) (V.ptr A101 fun a102 =>
  ∃ s103, (∀ w99, S98 w99 → World.cell? w99 (Addr.add a102 ((A85l : Nat) * 1)) = some (Value.string s103)) ∧
  Calls Tryz.prog 34 #[(Value.int .i64 t106_81)] (World.drew w90) fun e105 w106 =>
  ∃ s104, e105 = Ending.returned (Value.string s104) ∧
  S98 w106 ∧
  V.when (decide (ByteArray.size ⟨#[42]⟩ + ByteArray.size s104 ≤ 9223372036854775807)) (V.sel (!(ByteArray.toList s103 == ByteArray.toList (⟨#[42]⟩ ++ s104)))
  (R (Ending.returned (Value.bool false)) w106)
  (I79 (IntKind.wrap .i64 (t106_81 + 1)) w106 ∧ μ80 (IntKind.wrap .i64 (t106_81 + 1)) w106 < μ80 t106_81 w83))))))))
  (R (Ending.returned (Value.bool true)) w83)))))))))))) :
  Calls Tryz.prog 12 #[(Value.pointer w_1), (Value.int .i64 i_2)] w R :=
  V.calls_of_R ⟨V.assoc [(0, [6, 7]), (1, [50]), (2, [61]), (3, [68]), (4, [11, 81]), (5, [17, 18]), (6, [106]), (7, [113])], V.assocP [(42, V.line [0, 1, 2, 3, 4, 5, 6, 7]), (45, V.line [0, 1, 2, 3, 4, 5, 6, 7, 8, 9, 10, 11])], V.assocC [], V.assocS [], ⟨[], true⟩⟩ Tryz.func12 rfl (Eq.mp (by kernel_rfl) h)

theorem berthlaw08_World_seen_nf (w_1 : Option Addr) (i_2 : Int) (w : World) (R : Ending → World → Prop) (h :
  ∃ S3 : World → Prop, S3 (World.drew w) ∧
  V.ptr w_1 fun a5 =>
  V.when (decide ((0 : Int) ≤ i_2 ∧ (i_2 : Int) < 4)) (∃ p6, (∀ w4, S3 w4 → World.cell? w4 (Addr.add (Addr.add a5 0) ((Int.toNat i_2) * 1)) = some (Value.pointer p6)) ∧
  V.ptr w_1 fun a7 =>
  V.when (decide ((0 : Int) ≤ i_2 ∧ (i_2 : Int) < 4)) (∃ n8, ∃ A9, ∃ A9l, ∃ A9c, V.cellsC (fun a_ x_ => ∀ w4, S3 w4 → World.cell? w4 a_ = some x_) (Addr.add (Addr.add a7 4) ((Int.toNat i_2) * 2)) [(Value.int .i64 n8), (Value.slice A9 A9l A9c)] ∧
  ∀ w10, w10 = (World.alloc (World.drew w) (.cells #[(Value.int .i64 0), (Value.slice none 0 0)] 36)) →
  S3 w10 ∧
  ∃ w11, Sem.run Tryz.prog (Instr.storeAt 36 (Value.pointer (some ⟨Array.size (World.heap (World.drew w)), 0, none⟩)) (Value.agg #[(Value.int .i64 n8), (Value.slice A9 A9l A9c)])) w10 = .ok () w11 ∧
  ∃ S12 : World → Prop, S12 (World.drew w11) ∧
  ∃ n14, ∃ A15, ∃ A15l, ∃ A15c, V.cellsC (fun a_ x_ => ∀ w13, S12 w13 → World.cell? w13 a_ = some x_) ⟨Array.size (World.heap (World.drew w)), 0, none⟩ [(Value.int .i64 n14), (Value.slice A15 A15l A15c)] ∧
  Calls Tryz.prog 32 #[(Value.pointer p6)] (World.drew w11) fun e17 w18 =>
  ∃ A16, ∃ A16l, ∃ A16c, e17 = Ending.returned (Value.slice A16 A16l A16c) ∧
  S12 w18 ∧
  Calls Tryz.prog 7 #[(Value.agg #[(Value.int .i64 n14), (Value.slice A15 A15l A15c)])] w18 fun e20 w21 =>
  ∃ A19, ∃ A19l, ∃ A19c, e20 = Ending.returned (Value.slice A19 A19l A19c) ∧
  S12 w21 ∧
  Calls Tryz.prog 33 #[(Value.slice A16 A16l A16c), (Value.slice A19 A19l A19c)] w21 fun e23 w24 =>
  ∃ b22, e23 = Ending.returned (Value.bool b22) ∧
  S12 w24 ∧
  V.sel (!b22)
  (R (Ending.returned (Value.bool false)) w24)
  (∃ A25, ∃ A25l, ∃ A25c, World.cell? w24 (Addr.add ⟨Array.size (World.heap (World.drew w)), 0, none⟩ 1) = some (Value.slice A25 A25l A25c) ∧
  ∃ I26 : Int → World → Prop, ∃ μ27 : Int → World → Nat, I26 0 w24 ∧
  ∀ t34_28 (j29 : Nat → Value) (w30 : World), I26 t34_28 w30 →
  (V.sel (decide (t34_28 < ((A25l : Nat) : Int)))
  (V.when (decide ((0 : Int) ≤ t34_28 ∧ (t34_28 : Int) < ((A25l : Nat) : Int))) (V.ptr A25 fun a31 =>
  ∃ s32, ∃ n33, ∃ n34, V.cellsC (fun a_ x_ => World.cell? w30 a_ = some x_) (Addr.add a31 ((Int.toNat t34_28) * 3)) [(Value.string s32), (Value.int .i64 n33), (Value.int .i64 n34)] ∧
  ∀ w35, w35 = (World.alloc w30 (.cells #[(Value.string ByteArray.empty), (Value.int .i64 0), (Value.int .i64 0)] 63)) →
  ∃ w36, Sem.run Tryz.prog (Instr.storeAt 63 (Value.pointer (some ⟨Array.size (World.heap w30), 0, none⟩)) (Value.agg #[(Value.string s32), (Value.int .i64 n33), (Value.int .i64 n34)])) w35 = .ok () w36 ∧
  ∃ s37, World.cell? w36 (Addr.add ⟨Array.size (World.heap w30), 0, none⟩ 0) = some (Value.string s37) ∧
  ∃ n38, World.cell? w36 (Addr.add ⟨Array.size (World.heap w30), 0, none⟩ 1) = some (Value.int .i64 n38) ∧
  Calls Tryz.prog 16 #[(Value.pointer p6), (Value.string s37), (Value.int .i64 n38)] w36 fun e41 w42 =>
  ∃ n39, ∃ b40, e41 = Ending.returned (Value.tuple #[(Value.int .i64 n39), (Value.bool b40)]) ∧
  V.sel (!b40)
  (R (Ending.returned (Value.bool false)) w42)
  (∃ n43, World.cell? w42 (Addr.add ⟨Array.size (World.heap w30), 0, none⟩ 2) = some (Value.int .i64 n43) ∧
  V.sel (n39 != n43)
  (R (Ending.returned (Value.bool false)) w42)
  (I26 (IntKind.wrap .i64 (t34_28 + 1)) w42 ∧ μ27 (IntKind.wrap .i64 (t34_28 + 1)) w42 < μ27 t34_28 w30))))
  (∃ n44, ∃ A45, ∃ A45l, ∃ A45c, V.cellsC (fun a_ x_ => World.cell? w30 a_ = some x_) ⟨Array.size (World.heap (World.drew w)), 0, none⟩ [(Value.int .i64 n44), (Value.slice A45 A45l A45c)] ∧
  Calls Tryz.prog 7 #[(Value.agg #[(Value.int .i64 n44), (Value.slice A45 A45l A45c)])] w30 fun e47 w48 =>
  ∃ A46, ∃ A46l, ∃ A46c, e47 = Ending.returned (Value.slice A46 A46l A46c) ∧
  ∃ I49 : Int → World → Prop, ∃ μ50 : Int → World → Nat, I49 0 w48 ∧
  ∀ t59_51 (j52 : Nat → Value) (w53 : World), I49 t59_51 w53 →
  (V.sel (decide (t59_51 < ((A46l : Nat) : Int)))
  (V.when (decide ((0 : Int) ≤ t59_51 ∧ (t59_51 : Int) < ((A46l : Nat) : Int))) (V.ptr A46 fun a54 =>
  ∃ s55, World.cell? w53 (Addr.add a54 ((Int.toNat t59_51) * 1)) = some (Value.string s55) ∧
  ∃ S56 : World → Prop, S56 (World.drew w53) ∧
  ∃ n58, ∃ A59, ∃ A59l, ∃ A59c, V.cellsC (fun a_ x_ => ∀ w57, S56 w57 → World.cell? w57 a_ = some x_) ⟨Array.size (World.heap (World.drew w)), 0, none⟩ [(Value.int .i64 n58), (Value.slice A59 A59l A59c)] ∧
  Calls Tryz.prog 19 #[(Value.pointer p6), (Value.string s55)] (World.drew w53) fun e61 w62 =>
  ∃ p60, e61 = Ending.returned (Value.pointer p60) ∧
  S56 w62 ∧
  Calls Tryz.prog 35 #[(Value.agg #[(Value.int .i64 n58), (Value.slice A59 A59l A59c)]), (Value.string s55)] w62 fun e64 w65 =>
  ∃ A63, ∃ A63l, ∃ A63c, e64 = Ending.returned (Value.slice A63 A63l A63c) ∧
  S56 w65 ∧
  Calls Tryz.prog 9 #[(Value.pointer w_1), (Value.int .i64 i_2), (Value.pointer p60), (Value.slice A63 A63l A63c)] w65 fun e67 w68 =>
  ∃ b66, e67 = Ending.returned (Value.bool b66) ∧
  S56 w68 ∧
  V.sel (!b66)
  (R (Ending.returned (Value.bool false)) w68)
  (∃ A69, ∃ A69l, ∃ A69c, (∀ w57, S56 w57 → World.cell? w57 (Addr.add ⟨Array.size (World.heap (World.drew w)), 0, none⟩ 1) = some (Value.slice A69 A69l A69c)) ∧
  Calls Tryz.prog 36 #[(Value.pointer w_1), (Value.int .i64 i_2), (Value.string s55), (Value.int .i64 (IntKind.wrap .i64 (((A69l : Nat) : Int) + 1)))] w68 fun e71 w72 =>
  ∃ b70, e71 = Ending.returned (Value.bool b70) ∧
  S56 w72 ∧
  V.sel (!b70)
  (R (Ending.returned (Value.bool false)) w72)
  (I49 (IntKind.wrap .i64 (t59_51 + 1)) w72 ∧ μ50 (IntKind.wrap .i64 (t59_51 + 1)) w72 < μ50 t59_51 w53))))
  (R (Ending.returned (Value.bool true)) w53)))))))) :
  Calls Tryz.prog 13 #[(Value.pointer w_1), (Value.int .i64 i_2)] w R :=
  V.calls_of_R ⟨V.assoc [(0, [34]), (1, [59])], V.assocP [(1, V.line [0, 1, 2, 3, 4, 5, 6, 7, 8, 9, 10, 11, 12, 13, 14]), (2, V.line [0, 2, 1, 3, 4, 5]), (14, V.line [0, 1, 2, 3, 5, 6, 4, 7, 8, 9, 10, 11, 12, 13, 14, 15, 16, 17, 18, 19, 20])], V.assocC [], V.assocS [], ⟨[], true⟩⟩ Tryz.func13 rfl (Eq.mp (by kernel_rfl) h)

theorem ordered_New_nf (size_1 : Int) (w : World) (R : Ending → World → Prop) (h :
  V.sel (decide (size_1 < 0))
  (R (Ending.returned (Value.tuple #[(Value.pointer none), (Value.int .i64 84)])) w)
  (V.sel (decide (size_1 > 65536))
  (R (Ending.returned (Value.tuple #[(Value.pointer none), (Value.int .i64 84)])) w)
  (∀ w2, w2 = (World.alloc w (.map #[] 0)) →
  ∀ w3, w3 = (World.alloc w2 (.cells #[(Value.int .i64 size_1), (Value.map (some (Array.size (World.heap w))))] 82)) →
  R (Ending.returned (Value.tuple #[(Value.pointer (some ⟨Array.size (World.heap w2), 0, none⟩)), (Value.int .i64 0)])) w3))) :
  Calls Tryz.prog 14 #[(Value.int .i64 size_1)] w R :=
  V.calls_of_R ⟨V.assoc [], V.assocP [], V.assocC [], V.assocS [], ⟨[], true⟩⟩ Tryz.func14 rfl (Eq.mp (by kernel_rfl) h)

theorem ordered_Index_Put_nf (x_1 : Option Addr) (key_2 : ByteArray) (slot_3 : Int) (n_4 : Int) (w : World) (R : Ending → World → Prop) (h :
  Calls Tryz.prog 37 #[(Value.pointer x_1), (Value.string key_2), (Value.int .i64 slot_3)] w fun e6 w7 =>
  ∃ n5, e6 = Ending.returned (Value.int .i64 n5) ∧
  V.sel (n5 != 0)
  (R (Ending.returned (Value.int .i64 n5)) w7)
  (V.ptr x_1 fun a8 =>
  ∃ m9, World.cell? w7 (Addr.add a8 1) = some (Value.map m9) ∧
  ∃ p10, ∃ w11, Sem.run Tryz.prog (Instr.lookup 80 (Value.map m9) (Value.string key_2) false) w7 = .ok (Value.pointer p10) w11 ∧
  ∃ J12 : Option Addr → World → Prop, (V.sel (Option.isNone p10)
  (∀ w13, w13 = (World.alloc w11 (.map #[] 0)) →
  ∀ w14, w14 = (World.alloc w13 (.cells #[(Value.slice none 0 0), (Value.map (some (Array.size (World.heap w11))))] 87)) →
  V.ptr x_1 fun a15 =>
  ∃ m16, World.cell? w14 (Addr.add a15 1) = some (Value.map m16) ∧
  ∃ w17, Sem.run Tryz.prog (Instr.mapUpdate 80 (Value.map m16) (Value.string key_2) (Value.pointer (some ⟨Array.size (World.heap w13), 0, none⟩))) w14 = .ok () w17 ∧
  J12 (some ⟨Array.size (World.heap w13), 0, none⟩) w17)
  (J12 p10 w11)) ∧
  ∀ c_18 (j19 : Nat → Value) (w20 : World), J12 c_18 w20 →
  V.ptr c_18 fun a21 =>
  ∃ m22, World.cell? w20 (Addr.add a21 1) = some (Value.map m22) ∧
  ∃ n23, ∃ b24, ∃ w25, Sem.run Tryz.prog (Instr.lookup 84 (Value.map m22) (Value.int .i64 slot_3) true) w20 = .ok (Value.tuple #[(Value.int .i64 n23), (Value.bool b24)]) w25 ∧
  V.sel b24
  (R (Ending.returned (Value.int .i64 82)) w25)
  (Calls Tryz.prog 38 #[(Value.pointer c_18), (Value.int .i64 n_4)] w25 fun e27 w28 =>
  ∃ n26, e27 = Ending.returned (Value.int .i64 n26) ∧
  ∃ J29 : World → Prop, (V.ptr c_18 fun a30 =>
  ∃ A31, ∃ A31l, ∃ A31c, World.cell? w28 (Addr.add a30 0) = some (Value.slice A31 A31l A31c) ∧
  V.sel (n26 == ((A31l : Nat) : Int))
  (∃ S32 : World → Prop, S32 (World.drew w28) ∧
  V.ptr c_18 fun a34 =>
  ∃ A35, ∃ A35l, ∃ A35c, (∀ w33, S32 w33 → World.cell? w33 (Addr.add a34 0) = some (Value.slice A35 A35l A35c)) ∧
  Calls Tryz.prog 27 #[(Value.pointer x_1)] (World.drew w28) fun e37 w38 =>
  ∃ p36, e37 = Ending.returned (Value.pointer p36) ∧
  S32 w38 ∧
  ∀ w39, w39 = (World.alloc w38 (.cells #[(Value.int .i64 n_4), (Value.pointer p36)] 90)) →
  S32 w39 ∧
  Calls Tryz.prog 39 #[(Value.slice A35 A35l A35c), (Value.int .i64 n26), (Value.slice (some ⟨Array.size (World.heap w38), 0, none⟩) 1 1)] w39 fun e41 w42 =>
  ∃ A40, ∃ A40l, ∃ A40c, e41 = Ending.returned (Value.slice A40 A40l A40c) ∧
  S32 w42 ∧
  V.ptr c_18 fun a43 =>
  ∃ w44, Sem.run Tryz.prog (Instr.storeAt 85 (Value.pointer (some (Addr.add a43 0))) (Value.slice A40 A40l A40c)) w42 = .ok () w44 ∧
  J29  w44)
  (V.ptr c_18 fun a45 =>
  ∃ A46, ∃ A46l, ∃ A46c, World.cell? w28 (Addr.add a45 0) = some (Value.slice A46 A46l A46c) ∧
  V.when (decide ((0 : Int) ≤ n26 ∧ (n26 : Int) < ((A46l : Nat) : Int))) (V.ptr A46 fun a47 =>
  ∃ n48, World.cell? w28 (Addr.add (Addr.add a47 ((Int.toNat n26) * 2)) 0) = some (Value.int .i64 n48) ∧
  V.sel (n48 != n_4)
  (∃ S49 : World → Prop, S49 (World.drew w28) ∧
  V.ptr c_18 fun a51 =>
  ∃ A52, ∃ A52l, ∃ A52c, (∀ w50, S49 w50 → World.cell? w50 (Addr.add a51 0) = some (Value.slice A52 A52l A52c)) ∧
  Calls Tryz.prog 27 #[(Value.pointer x_1)] (World.drew w28) fun e54 w55 =>
  ∃ p53, e54 = Ending.returned (Value.pointer p53) ∧
  S49 w55 ∧
  ∀ w56, w56 = (World.alloc w55 (.cells #[(Value.int .i64 n_4), (Value.pointer p53)] 90)) →
  S49 w56 ∧
  Calls Tryz.prog 39 #[(Value.slice A52 A52l A52c), (Value.int .i64 n26), (Value.slice (some ⟨Array.size (World.heap w55), 0, none⟩) 1 1)] w56 fun e58 w59 =>
  ∃ A57, ∃ A57l, ∃ A57c, e58 = Ending.returned (Value.slice A57 A57l A57c) ∧
  S49 w59 ∧
  V.ptr c_18 fun a60 =>
  ∃ w61, Sem.run Tryz.prog (Instr.storeAt 85 (Value.pointer (some (Addr.add a60 0))) (Value.slice A57 A57l A57c)) w59 = .ok () w61 ∧
  J29  w61)
  (J29  w28)))) ∧
  ∀ (j62 : Nat → Value) (w63 : World), J29  w63 →
  V.ptr c_18 fun a64 =>
  ∃ A65, ∃ A65l, ∃ A65c, World.cell? w63 (Addr.add a64 0) = some (Value.slice A65 A65l A65c) ∧
  V.when (decide ((0 : Int) ≤ n26 ∧ (n26 : Int) < ((A65l : Nat) : Int))) (V.ptr A65 fun a66 =>
  ∃ p67, World.cell? w63 (Addr.add (Addr.add a66 ((Int.toNat n26) * 2)) 1) = some (Value.pointer p67) ∧
  Calls Tryz.prog 40 #[(Value.pointer p67), (Value.int .i64 slot_3)] w63 fun e69 w70 =>
  ∃ b68, e69 = Ending.returned (Value.bool b68) ∧
  V.ptr c_18 fun a71 =>
  ∃ m72, World.cell? w70 (Addr.add a71 1) = some (Value.map m72) ∧
  ∃ w73, Sem.run Tryz.prog (Instr.mapUpdate 84 (Value.map m72) (Value.int .i64 slot_3) (Value.int .i64 n_4)) w70 = .ok () w73 ∧
  R (Ending.returned (Value.int .i64 0)) w73)))) :
  Calls Tryz.prog 15 #[(Value.pointer x_1), (Value.string key_2), (Value.int .i64 slot_3), (Value.int .i64 n_4)] w R :=
  V.calls_of_R ⟨V.assoc [], V.assocP [(13, V.line [0, 1, 2, 3, 4, 5, 6, 7, 8, 9, 10, 11, 12, 13, 14])], V.assocC [(1000009, ([10], [V.Sh.one .ptr])), (1000015, ([], []))], V.assocS [], ⟨[], true⟩⟩ Tryz.func15 rfl (Eq.mp (by kernel_rfl) h)

theorem ordered_Index_Get_nf (x_1 : Option Addr) (key_2 : ByteArray) (slot_3 : Int) (w : World) (R : Ending → World → Prop) (h :
  Calls Tryz.prog 28 #[(Value.pointer x_1), (Value.string key_2)] w fun e5 w6 =>
  ∃ p4, e5 = Ending.returned (Value.pointer p4) ∧
  V.ptr p4 fun a7 =>
  ∃ m8, World.cell? w6 (Addr.add a7 1) = some (Value.map m8) ∧
  ∃ n9, ∃ b10, ∃ w11, Sem.run Tryz.prog (Instr.lookup 84 (Value.map m8) (Value.int .i64 slot_3) true) w6 = .ok (Value.tuple #[(Value.int .i64 n9), (Value.bool b10)]) w11 ∧
  R (Ending.returned (Value.tuple #[(Value.int .i64 n9), (Value.bool b10)])) w11) :
  Calls Tryz.prog 16 #[(Value.pointer x_1), (Value.string key_2), (Value.int .i64 slot_3)] w R :=
  V.calls_of_R ⟨V.assoc [], V.assocP [], V.assocC [], V.assocS [], ⟨[], true⟩⟩ Tryz.func16 rfl (Eq.mp (by kernel_rfl) h)

theorem berthlaw08_isSet_nf (s_1 : Option Addr) (size_2 : Int) (members_3 : Option Addr) (members_3l : Nat) (members_3c : Nat) (w : World) (R : Ending → World → Prop) (h :
  V.sel (!(Option.isNone s_1))
  (Calls Tryz.prog 41 #[(Value.pointer s_1)] w fun e5 w6 =>
  ∃ n4, e5 = Ending.returned (Value.int .i64 n4) ∧
  V.sel (n4 == size_2)
  (Calls Tryz.prog 42 #[(Value.pointer s_1), (Value.slice members_3 members_3l members_3c)] w6 fun e8 w9 =>
  ∃ b7, e8 = Ending.returned (Value.bool b7) ∧
  R (Ending.returned (Value.bool b7)) w9)
  (R (Ending.returned (Value.bool false)) w6))
  (R (Ending.returned (Value.bool false)) w)) :
  Calls Tryz.prog 17 #[(Value.pointer s_1), (Value.int .i64 size_2), (Value.slice members_3 members_3l members_3c)] w R :=
  V.calls_of_R ⟨V.assoc [], V.assocP [], V.assocC [], V.assocS [], ⟨[], true⟩⟩ Tryz.func17 rfl (Eq.mp (by kernel_rfl) h)

theorem ordered_Index_Find_nf (x_1 : Option Addr) (key_2 : ByteArray) (cmp_3 : Int) (n_4 : Int) (w : World) (R : Ending → World → Prop) (h :
  V.sel (cmp_3 == 1)
  (Calls Tryz.prog 43 #[(Value.pointer x_1), (Value.string key_2), (Value.int .i64 n_4), (Value.int .i64 n_4)] w fun e6 w7 =>
  ∃ p5, e6 = Ending.returned (Value.pointer p5) ∧
  R (Ending.returned (Value.pointer p5)) w7)
  (V.sel (cmp_3 == 2)
  (Calls Tryz.prog 19 #[(Value.pointer x_1), (Value.string key_2)] w fun e9 w10 =>
  ∃ p8, e9 = Ending.returned (Value.pointer p8) ∧
  Calls Tryz.prog 43 #[(Value.pointer x_1), (Value.string key_2), (Value.int .i64 n_4), (Value.int .i64 n_4)] w10 fun e12 w13 =>
  ∃ p11, e12 = Ending.returned (Value.pointer p11) ∧
  Calls Tryz.prog 44 #[(Value.pointer p8), (Value.pointer p11)] w13 fun e15 w16 =>
  ∃ p14, e15 = Ending.returned (Value.pointer p14) ∧
  R (Ending.returned (Value.pointer p14)) w16)
  (V.sel (cmp_3 == 4)
  (Calls Tryz.prog 43 #[(Value.pointer x_1), (Value.string key_2), (Value.int .i64 (-9223372036854775808)), (Value.int .i64 n_4)] w fun e18 w19 =>
  ∃ p17, e18 = Ending.returned (Value.pointer p17) ∧
  R (Ending.returned (Value.pointer p17)) w19)
  (V.sel (cmp_3 == 6)
  (Calls Tryz.prog 43 #[(Value.pointer x_1), (Value.string key_2), (Value.int .i64 n_4), (Value.int .i64 9223372036854775807)] w fun e21 w22 =>
  ∃ p20, e21 = Ending.returned (Value.pointer p20) ∧
  R (Ending.returned (Value.pointer p20)) w22)
  (V.sel (cmp_3 == 3)
  (V.sel (decide (n_4 > (-9223372036854775808)))
  (Calls Tryz.prog 43 #[(Value.pointer x_1), (Value.string key_2), (Value.int .i64 (-9223372036854775808)), (Value.int .i64 (IntKind.wrap .i64 (n_4 - 1)))] w fun e24 w25 =>
  ∃ p23, e24 = Ending.returned (Value.pointer p23) ∧
  R (Ending.returned (Value.pointer p23)) w25)
  (Calls Tryz.prog 27 #[(Value.pointer x_1)] w fun e27 w28 =>
  ∃ p26, e27 = Ending.returned (Value.pointer p26) ∧
  R (Ending.returned (Value.pointer p26)) w28))
  (V.sel (cmp_3 == 5)
  (V.sel (decide (n_4 < 9223372036854775807))
  (Calls Tryz.prog 43 #[(Value.pointer x_1), (Value.string key_2), (Value.int .i64 (IntKind.wrap .i64 (n_4 + 1))), (Value.int .i64 9223372036854775807)] w fun e30 w31 =>
  ∃ p29, e30 = Ending.returned (Value.pointer p29) ∧
  R (Ending.returned (Value.pointer p29)) w31)
  (Calls Tryz.prog 27 #[(Value.pointer x_1)] w fun e33 w34 =>
  ∃ p32, e33 = Ending.returned (Value.pointer p32) ∧
  R (Ending.returned (Value.pointer p32)) w34))
  (Calls Tryz.prog 27 #[(Value.pointer x_1)] w fun e36 w37 =>
  ∃ p35, e36 = Ending.returned (Value.pointer p35) ∧
  R (Ending.returned (Value.pointer p35)) w37))))))) :
  Calls Tryz.prog 18 #[(Value.pointer x_1), (Value.string key_2), (Value.int .i64 cmp_3), (Value.int .i64 n_4)] w R :=
  V.calls_of_R ⟨V.assoc [], V.assocP [], V.assocC [], V.assocS [], ⟨[], true⟩⟩ Tryz.func18 rfl (Eq.mp (by kernel_rfl) h)

theorem ordered_Index_Has_nf (x_1 : Option Addr) (key_2 : ByteArray) (w : World) (R : Ending → World → Prop) (h :
  Calls Tryz.prog 43 #[(Value.pointer x_1), (Value.string key_2), (Value.int .i64 (-9223372036854775808)), (Value.int .i64 9223372036854775807)] w fun e4 w5 =>
  ∃ p3, e4 = Ending.returned (Value.pointer p3) ∧
  R (Ending.returned (Value.pointer p3)) w5) :
  Calls Tryz.prog 19 #[(Value.pointer x_1), (Value.string key_2)] w R :=
  V.calls_of_R ⟨V.assoc [], V.assocP [], V.assocC [], V.assocS [], ⟨[], true⟩⟩ Tryz.func19 rfl (Eq.mp (by kernel_rfl) h)

theorem berthref08_New_nf (size_1 : Int) (w : World) (R : Ending → World → Prop) (h :
  ∀ w2, w2 = (World.alloc w (.cells #[(Value.int .i64 0), (Value.slice none 0 0)] 36)) →
  ∃ J3 : Bool → World → Prop, (V.sel (decide (size_1 < 0))
  (J3 true w2)
  (J3 (decide (size_1 > 65536)) w2)) ∧
  ∀ t9_4 (j5 : Nat → Value) (w6 : World), J3 t9_4 w6 →
  V.sel t9_4
  (∃ w7, Sem.run Tryz.prog (Instr.storeAt 36 (Value.pointer (some ⟨Array.size (World.heap w), 0, none⟩)) (Value.agg #[(Value.int .i64 0), (Value.slice none 0 0)])) w6 = .ok () w7 ∧
  ∃ n8, ∃ A9, ∃ A9l, ∃ A9c, V.cellsC (fun a_ x_ => World.cell? w7 a_ = some x_) ⟨Array.size (World.heap w), 0, none⟩ [(Value.int .i64 n8), (Value.slice A9 A9l A9c)] ∧
  R (Ending.returned (Value.tuple #[(Value.agg #[(Value.int .i64 n8), (Value.slice A9 A9l A9c)]), (Value.int .i64 84)])) w7)
  (∃ w10, Sem.run Tryz.prog (Instr.storeAt 36 (Value.pointer (some ⟨Array.size (World.heap w), 0, none⟩)) (Value.agg #[(Value.int .i64 size_1), (Value.slice none 0 0)])) w6 = .ok () w10 ∧
  ∃ n11, ∃ A12, ∃ A12l, ∃ A12c, V.cellsC (fun a_ x_ => World.cell? w10 a_ = some x_) ⟨Array.size (World.heap w), 0, none⟩ [(Value.int .i64 n11), (Value.slice A12 A12l A12c)] ∧
  R (Ending.returned (Value.tuple #[(Value.agg #[(Value.int .i64 n11), (Value.slice A12 A12l A12c)]), (Value.int .i64 0)])) w10)) :
  Calls Tryz.prog 20 #[(Value.int .i64 size_1)] w R :=
  V.calls_of_R ⟨V.assoc [], V.assocP [], V.assocC [(1000003, ([9], [V.Sh.one .bool]))], V.assocS [], ⟨[], true⟩⟩ Tryz.func20 rfl (Eq.mp (by kernel_rfl) h)

theorem berthlaw08_World_changes_nf (w_1 : Option Addr) (o_2 : Int) (o_3 : Int) (o_4 : Int) (o_5 : ByteArray) (o_6 : Int) (o_7 : Int) (o_8 : Int) (o_9 : Option Addr) (o_9l : Nat) (o_9c : Nat) (i_10 : Int) (w : World) (R : Ending → World → Prop) (h :
  ∀ w11, w11 = (World.alloc w (.cells #[(Value.int .i64 o_2), (Value.int .i64 o_3), (Value.int .i64 o_4), (Value.string o_5), (Value.int .i64 o_6), (Value.int .i64 o_7), (Value.int .i64 o_8), (Value.slice o_9 o_9l o_9c)] 29)) →
  ∃ n12, World.cell? w11 (Addr.add ⟨Array.size (World.heap w), 0, none⟩ 0) = some (Value.int .i64 n12) ∧
  V.sel (n12 == 1)
  (∃ n13, World.cell? w11 (Addr.add ⟨Array.size (World.heap w), 0, none⟩ 2) = some (Value.int .i64 n13) ∧
  Calls Tryz.prog 14 #[(Value.int .i64 n13)] w11 fun e16 w17 =>
  ∃ p14, ∃ n15, e16 = Ending.returned (Value.tuple #[(Value.pointer p14), (Value.int .i64 n15)]) ∧
  ∃ n18, World.cell? w17 (Addr.add ⟨Array.size (World.heap w), 0, none⟩ 2) = some (Value.int .i64 n18) ∧
  Calls Tryz.prog 20 #[(Value.int .i64 n18)] w17 fun e22 w23 =>
  ∃ n19, ∃ A20, ∃ A20l, ∃ A20c, ∃ n21, e22 = Ending.returned (Value.tuple #[(Value.agg #[(Value.int .i64 n19), (Value.slice A20 A20l A20c)]), (Value.int .i64 n21)]) ∧
  ∀ w24, w24 = (World.alloc w23 (.cells #[(Value.int .i64 0), (Value.slice none 0 0)] 36)) →
  ∃ w25, Sem.run Tryz.prog (Instr.storeAt 36 (Value.pointer (some ⟨Array.size (World.heap w23), 0, none⟩)) (Value.agg #[(Value.int .i64 n19), (Value.slice A20 A20l A20c)])) w24 = .ok () w25 ∧
  V.sel (n15 != n21)
  (R (Ending.returned (Value.bool false)) w25)
  (V.sel (!((!(Option.isNone p14)) == (n21 == 0)))
  (R (Ending.returned (Value.bool false)) w25)
  (V.sel (!(Option.isNone p14))
  (∃ S26 : World → Prop, S26 (World.drew w25) ∧
  ∃ n28, ∃ A29, ∃ A29l, ∃ A29c, V.cellsC (fun a_ x_ => ∀ w27, S26 w27 → World.cell? w27 a_ = some x_) ⟨Array.size (World.heap w23), 0, none⟩ [(Value.int .i64 n28), (Value.slice A29 A29l A29c)] ∧
  V.ptr w_1 fun a30 =>
  V.when (decide ((0 : Int) ≤ i_10 ∧ (i_10 : Int) < 4)) (V.ptr w_1 fun a31 =>
  ∃ w32, Sem.run Tryz.prog (Instr.storeAt 31 (Value.pointer (some (Addr.add (Addr.add a30 0) ((Int.toNat i_10) * 1)))) (Value.pointer p14)) (World.drew w25) = .ok () w32 ∧
  S26 w32 ∧
  V.when (decide ((0 : Int) ≤ i_10 ∧ (i_10 : Int) < 4)) (∃ w33, Sem.run Tryz.prog (Instr.storeAt 36 (Value.pointer (some (Addr.add (Addr.add a31 4) ((Int.toNat i_10) * 2)))) (Value.agg #[(Value.int .i64 n28), (Value.slice A29 A29l A29c)])) w32 = .ok () w33 ∧
  S26 w33 ∧
  R (Ending.returned (Value.bool true)) w33)))
  (R (Ending.returned (Value.bool true)) w25))))
  (V.sel (n12 == 2)
  (∃ S34 : World → Prop, S34 (World.drew w11) ∧
  V.ptr w_1 fun a36 =>
  V.when (decide ((0 : Int) ≤ i_10 ∧ (i_10 : Int) < 4)) (∃ p37, (∀ w35, S34 w35 → World.cell? w35 (Addr.add (Addr.add a36 0) ((Int.toNat i_10) * 1)) = some (Value.pointer p37)) ∧
  ∃ s38, (∀ w35, S34 w35 → World.cell? w35 (Addr.add ⟨Array.size (World.heap w), 0, none⟩ 3) = some (Value.string s38)) ∧
  ∃ n39, (∀ w35, S34 w35 → World.cell? w35 (Addr.add ⟨Array.size (World.heap w), 0, none⟩ 4) = some (Value.int .i64 n39)) ∧
  ∃ n40, (∀ w35, S34 w35 → World.cell? w35 (Addr.add ⟨Array.size (World.heap w), 0, none⟩ 5) = some (Value.int .i64 n40)) ∧
  Calls Tryz.prog 15 #[(Value.pointer p37), (Value.string s38), (Value.int .i64 n39), (Value.int .i64 n40)] (World.drew w11) fun e42 w43 =>
  ∃ n41, e42 = Ending.returned (Value.int .i64 n41) ∧
  S34 w43 ∧
  V.ptr w_1 fun a44 =>
  V.when (decide ((0 : Int) ≤ i_10 ∧ (i_10 : Int) < 4)) (∃ p45, World.cell? w43 (Addr.add (Addr.add a44 0) ((Int.toNat i_10) * 1)) = some (Value.pointer p45) ∧
  V.sel (Option.isNone p45)
  (R (Ending.returned (Value.bool (n41 == 1))) w43)
  (∃ J46 : Option Addr → Int → World → Prop, (∃ S47 : World → Prop, S47 (World.drew w43) ∧
  V.ptr w_1 fun a49 =>
  V.when (decide ((0 : Int) ≤ i_10 ∧ (i_10 : Int) < 4)) (∃ n50, ∃ A51, ∃ A51l, ∃ A51c, V.cellsC (fun a_ x_ => ∀ w48, S47 w48 → World.cell? w48 a_ = some x_) (Addr.add (Addr.add a49 4) ((Int.toNat i_10) * 2)) [(Value.int .i64 n50), (Value.slice A51 A51l A51c)] ∧
  ∃ s52, (∀ w48, S47 w48 → World.cell? w48 (Addr.add ⟨Array.size (World.heap w), 0, none⟩ 3) = some (Value.string s52)) ∧
  ∃ n53, (∀ w48, S47 w48 → World.cell? w48 (Addr.add ⟨Array.size (World.heap w), 0, none⟩ 4) = some (Value.int .i64 n53)) ∧
  ∃ n54, (∀ w48, S47 w48 → World.cell? w48 (Addr.add ⟨Array.size (World.heap w), 0, none⟩ 5) = some (Value.int .i64 n54)) ∧
  (Calls Tryz.prog 45 #[(Value.agg #[(Value.int .i64 n50), (Value.slice A51 A51l A51c)]), (Value.string s52), (Value.int .i64 n53), (Value.int .i64 n54)] (World.drew w43) fun e58 w59 =>
  ∃ n55, ∃ A56, ∃ A56l, ∃ A56c, ∃ n57, e58 = Ending.returned (Value.tuple #[(Value.agg #[(Value.int .i64 n55), (Value.slice A56 A56l A56c)]), (Value.int .i64 n57)]) ∧
  S47 w59 ∧
  ∀ w60, w60 = (World.alloc w59 (.cells #[(Value.int .i64 0), (Value.slice none 0 0)] 36)) →
  S47 w60 ∧
  ∃ w61, Sem.run Tryz.prog (Instr.storeAt 36 (Value.pointer (some ⟨Array.size (World.heap w59), 0, none⟩)) (Value.agg #[(Value.int .i64 n55), (Value.slice A56 A56l A56c)])) w60 = .ok () w61 ∧
  S47 w61 ∧
  J46 (some ⟨Array.size (World.heap w59), 0, none⟩) n57 w61) ∧
  (∀ w62, w62 = (World.alloc (World.drew w43) (.cells #[(Value.int .i64 0), (Value.slice none 0 0)] 36)) →
  S47 w62 ∧
  Calls Tryz.prog 45 #[(Value.agg #[(Value.int .i64 n50), (Value.slice A51 A51l A51c)]), (Value.string s52), (Value.int .i64 n53), (Value.int .i64 n54)] w62 fun e66 w67 =>
  ∃ n63, ∃ A64, ∃ A64l, ∃ A64c, ∃ n65, e66 = Ending.returned (Value.tuple #[(Value.agg #[(Value.int .i64 n63), (Value.slice A64 A64l A64c)]), (Value.int .i64 n65)]) ∧
  S47 w67 ∧
  ∃ w68, Sem.run Tryz.prog (Instr.storeAt 36 (Value.pointer (some ⟨Array.size (World.heap (World.drew w43)), 0, none⟩)) (Value.agg #[(Value.int .i64 n63), (Value.slice A64 A64l A64c)])) w67 = .ok () w68 ∧
  S47 w68 ∧
  J46 (some ⟨Array.size (World.heap (World.drew w43)), 0, none⟩) n65 w68) ∧ True)) ∧
  ∀ m_69 f_70 (j71 : Nat → Value) (w72 : World), J46 m_69 f_70 w72 →
  ∃ S73 : World → Prop, S73 (World.drew w72) ∧
  V.ptr m_69 fun a75 =>
  ∃ n76, ∃ A77, ∃ A77l, ∃ A77c, V.cellsC (fun a_ x_ => ∀ w74, S73 w74 → World.cell? w74 a_ = some x_) a75 [(Value.int .i64 n76), (Value.slice A77 A77l A77c)] ∧
  V.ptr w_1 fun a78 =>
  V.when (decide ((0 : Int) ≤ i_10 ∧ (i_10 : Int) < 4)) (∃ w79, Sem.run Tryz.prog (Instr.storeAt 36 (Value.pointer (some (Addr.add (Addr.add a78 4) ((Int.toNat i_10) * 2)))) (Value.agg #[(Value.int .i64 n76), (Value.slice A77 A77l A77c)])) (World.drew w72) = .ok () w79 ∧
  S73 w79 ∧
  R (Ending.returned (Value.bool (n41 == f_70))) w79)))))
  (V.sel (n12 == 3)
  (∃ S80 : World → Prop, S80 (World.drew w11) ∧
  V.ptr w_1 fun a82 =>
  V.when (decide ((0 : Int) ≤ i_10 ∧ (i_10 : Int) < 4)) (∃ p83, (∀ w81, S80 w81 → World.cell? w81 (Addr.add (Addr.add a82 0) ((Int.toNat i_10) * 1)) = some (Value.pointer p83)) ∧
  ∃ s84, (∀ w81, S80 w81 → World.cell? w81 (Addr.add ⟨Array.size (World.heap w), 0, none⟩ 3) = some (Value.string s84)) ∧
  ∃ n85, (∀ w81, S80 w81 → World.cell? w81 (Addr.add ⟨Array.size (World.heap w), 0, none⟩ 4) = some (Value.int .i64 n85)) ∧
  Calls Tryz.prog 46 #[(Value.pointer p83), (Value.string s84), (Value.int .i64 n85)] (World.drew w11) fun e87 w88 =>
  ∃ n86, e87 = Ending.returned (Value.int .i64 n86) ∧
  S80 w88 ∧
  V.ptr w_1 fun a89 =>
  V.when (decide ((0 : Int) ≤ i_10 ∧ (i_10 : Int) < 4)) (∃ p90, World.cell? w88 (Addr.add (Addr.add a89 0) ((Int.toNat i_10) * 1)) = some (Value.pointer p90) ∧
  V.sel (Option.isNone p90)
  (R (Ending.returned (Value.bool (n86 == 1))) w88)
  (∃ J91 : Option Addr → Int → World → Prop, (∃ S92 : World → Prop, S92 (World.drew w88) ∧
  V.ptr w_1 fun a94 =>
  V.when (decide ((0 : Int) ≤ i_10 ∧ (i_10 : Int) < 4)) (∃ n95, ∃ A96, ∃ A96l, ∃ A96c, V.cellsC (fun a_ x_ => ∀ w93, S92 w93 → World.cell? w93 a_ = some x_) (Addr.add (Addr.add a94 4) ((Int.toNat i_10) * 2)) [(Value.int .i64 n95), (Value.slice A96 A96l A96c)] ∧
  ∃ s97, (∀ w93, S92 w93 → World.cell? w93 (Addr.add ⟨Array.size (World.heap w), 0, none⟩ 3) = some (Value.string s97)) ∧
  ∃ n98, (∀ w93, S92 w93 → World.cell? w93 (Addr.add ⟨Array.size (World.heap w), 0, none⟩ 4) = some (Value.int .i64 n98)) ∧
  (Calls Tryz.prog 47 #[(Value.agg #[(Value.int .i64 n95), (Value.slice A96 A96l A96c)]), (Value.string s97), (Value.int .i64 n98)] (World.drew w88) fun e102 w103 =>
  ∃ n99, ∃ A100, ∃ A100l, ∃ A100c, ∃ n101, e102 = Ending.returned (Value.tuple #[(Value.agg #[(Value.int .i64 n99), (Value.slice A100 A100l A100c)]), (Value.int .i64 n101)]) ∧
  S92 w103 ∧
  ∀ w104, w104 = (World.alloc w103 (.cells #[(Value.int .i64 0), (Value.slice none 0 0)] 36)) →
  S92 w104 ∧
  ∃ w105, Sem.run Tryz.prog (Instr.storeAt 36 (Value.pointer (some ⟨Array.size (World.heap w103), 0, none⟩)) (Value.agg #[(Value.int .i64 n99), (Value.slice A100 A100l A100c)])) w104 = .ok () w105 ∧
  S92 w105 ∧
  J91 (some ⟨Array.size (World.heap w103), 0, none⟩) n101 w105) ∧
  (∀ w106, w106 = (World.alloc (World.drew w88) (.cells #[(Value.int .i64 0), (Value.slice none 0 0)] 36)) →
  S92 w106 ∧
  Calls Tryz.prog 47 #[(Value.agg #[(Value.int .i64 n95), (Value.slice A96 A96l A96c)]), (Value.string s97), (Value.int .i64 n98)] w106 fun e110 w111 =>
  ∃ n107, ∃ A108, ∃ A108l, ∃ A108c, ∃ n109, e110 = Ending.returned (Value.tuple #[(Value.agg #[(Value.int .i64 n107), (Value.slice A108 A108l A108c)]), (Value.int .i64 n109)]) ∧
  S92 w111 ∧
  ∃ w112, Sem.run Tryz.prog (Instr.storeAt 36 (Value.pointer (some ⟨Array.size (World.heap (World.drew w88)), 0, none⟩)) (Value.agg #[(Value.int .i64 n107), (Value.slice A108 A108l A108c)])) w111 = .ok () w112 ∧
  S92 w112 ∧
  J91 (some ⟨Array.size (World.heap (World.drew w88)), 0, none⟩) n109 w112) ∧ True)) ∧
  ∀ m_113 f_114 (j115 : Nat → Value) (w116 : World), J91 m_113 f_114 w116 →
  ∃ S117 : World → Prop, S117 (World.drew w116) ∧
  V.ptr m_113 fun a119 =>
  ∃ n120, ∃ A121, ∃ A121l, ∃ A121c, V.cellsC (fun a_ x_ => ∀ w118, S117 w118 → World.cell? w118 a_ = some x_) a119 [(Value.int .i64 n120), (Value.slice A121 A121l A121c)] ∧
  V.ptr w_1 fun a122 =>
  V.when (decide ((0 : Int) ≤ i_10 ∧ (i_10 : Int) < 4)) (∃ w123, Sem.run Tryz.prog (Instr.storeAt 36 (Value.pointer (some (Addr.add (Addr.add a122 4) ((Int.toNat i_10) * 2)))) (Value.agg #[(Value.int .i64 n120), (Value.slice A121 A121l A121c)])) (World.drew w116) = .ok () w123 ∧
  S117 w123 ∧
  R (Ending.returned (Value.bool (n86 == f_114))) w123)))))
  (R (Ending.returned (Value.bool true)) w11)))) :
  Calls Tryz.prog 21 #[(Value.pointer w_1), (Value.agg #[(Value.int .i64 o_2), (Value.int .i64 o_3), (Value.int .i64 o_4), (Value.string o_5), (Value.int .i64 o_6), (Value.int .i64 o_7), (Value.int .i64 o_8), (Value.slice o_9 o_9l o_9c)]), (Value.int .i64 i_10)] w R :=
  V.calls_of_R ⟨V.assoc [], V.assocP [(8, V.line [0, 1, 2, 3, 4, 5, 6, 7, 8, 10, 11, 9, 12, 13]), (10, V.line [0, 1, 2, 3, 4, 5, 6, 7, 8, 9, 10, 11, 12, 13]), (13, (V.Plan.one 0 (V.Plan.one 1 (V.Plan.one 2 (V.Plan.one 3 (V.Plan.one 4 (V.Plan.one 5 (V.Plan.one 6 (V.Plan.one 7 (V.Plan.one 8 (V.Plan.one 9 (V.Plan.one 10 (V.Plan.one 11 (V.Plan.alt 12 (V.Plan.one 13 (V.Plan.one 14 (V.Plan.one 15 (V.Plan.one 16 (V.Plan.one 17 (V.Plan.one 18 V.Plan.done)))))) (V.Plan.alt 16 (V.Plan.one 12 (V.Plan.one 13 (V.Plan.one 14 (V.Plan.one 15 (V.Plan.one 17 (V.Plan.one 18 V.Plan.done)))))) V.Plan.stop))))))))))))))), (14, V.line [0, 1, 2, 3, 4, 5, 6]), (17, V.line [0, 1, 2, 3, 4, 5, 6, 7, 8, 9, 10, 11]), (20, (V.Plan.one 0 (V.Plan.one 1 (V.Plan.one 2 (V.Plan.one 3 (V.Plan.one 4 (V.Plan.one 5 (V.Plan.one 6 (V.Plan.one 7 (V.Plan.one 8 (V.Plan.one 9 (V.Plan.alt 10 (V.Plan.one 11 (V.Plan.one 12 (V.Plan.one 13 (V.Plan.one 14 (V.Plan.one 15 (V.Plan.one 16 V.Plan.done)))))) (V.Plan.alt 14 (V.Plan.one 10 (V.Plan.one 11 (V.Plan.one 12 (V.Plan.one 13 (V.Plan.one 15 (V.Plan.one 16 V.Plan.done)))))) V.Plan.stop))))))))))))), (21, V.line [0, 1, 2, 3, 4, 5, 6])], V.assocC [(13, ([12, 13], [V.Sh.one .ptr, V.Sh.one (.int .i64)])), (20, ([15, 16], [V.Sh.one .ptr, V.Sh.one (.int .i64)]))], V.assocS [], ⟨[], true⟩⟩ Tryz.func21 rfl (Eq.mp (by kernel_rfl) h)

theorem berthlaw08_World_asks_nf (w_1 : Option Addr) (o_2 : Int) (o_3 : Int) (o_4 : Int) (o_5 : ByteArray) (o_6 : Int) (o_7 : Int) (o_8 : Int) (o_9 : Option Addr) (o_9l : Nat) (o_9c : Nat) (i_10 : Int) (j_11 : Int) (w : World) (R : Ending → World → Prop) (h :
  ∀ w12, w12 = (World.alloc w (.cells #[(Value.int .i64 o_2), (Value.int .i64 o_3), (Value.int .i64 o_4), (Value.string o_5), (Value.int .i64 o_6), (Value.int .i64 o_7), (Value.int .i64 o_8), (Value.slice o_9 o_9l o_9c)] 29)) →
  ∃ S13 : World → Prop, S13 (World.drew w12) ∧
  V.ptr w_1 fun a15 =>
  V.when (decide ((0 : Int) ≤ i_10 ∧ (i_10 : Int) < 4)) (∃ p16, (∀ w14, S13 w14 → World.cell? w14 (Addr.add (Addr.add a15 0) ((Int.toNat i_10) * 1)) = some (Value.pointer p16)) ∧
  V.ptr w_1 fun a17 =>
  V.when (decide ((0 : Int) ≤ i_10 ∧ (i_10 : Int) < 4)) (∃ n18, ∃ A19, ∃ A19l, ∃ A19c, V.cellsC (fun a_ x_ => ∀ w14, S13 w14 → World.cell? w14 a_ = some x_) (Addr.add (Addr.add a17 4) ((Int.toNat i_10) * 2)) [(Value.int .i64 n18), (Value.slice A19 A19l A19c)] ∧
  ∀ w20, w20 = (World.alloc (World.drew w12) (.cells #[(Value.int .i64 0), (Value.slice none 0 0)] 36)) →
  S13 w20 ∧
  ∃ w21, Sem.run Tryz.prog (Instr.storeAt 36 (Value.pointer (some ⟨Array.size (World.heap (World.drew w12)), 0, none⟩)) (Value.agg #[(Value.int .i64 n18), (Value.slice A19 A19l A19c)])) w20 = .ok () w21 ∧
  ∃ n22, World.cell? w21 (Addr.add ⟨Array.size (World.heap w), 0, none⟩ 0) = some (Value.int .i64 n22) ∧
  V.sel (n22 == 4)
  (∃ s23, World.cell? w21 (Addr.add ⟨Array.size (World.heap w), 0, none⟩ 3) = some (Value.string s23) ∧
  ∃ n24, World.cell? w21 (Addr.add ⟨Array.size (World.heap w), 0, none⟩ 4) = some (Value.int .i64 n24) ∧
  Calls Tryz.prog 16 #[(Value.pointer p16), (Value.string s23), (Value.int .i64 n24)] w21 fun e27 w28 =>
  ∃ n25, ∃ b26, e27 = Ending.returned (Value.tuple #[(Value.int .i64 n25), (Value.bool b26)]) ∧
  ∃ n29, ∃ A30, ∃ A30l, ∃ A30c, V.cellsC (fun a_ x_ => World.cell? w28 a_ = some x_) ⟨Array.size (World.heap (World.drew w12)), 0, none⟩ [(Value.int .i64 n29), (Value.slice A30 A30l A30c)] ∧
  ∃ s31, World.cell? w28 (Addr.add ⟨Array.size (World.heap w), 0, none⟩ 3) = some (Value.string s31) ∧
  ∃ n32, World.cell? w28 (Addr.add ⟨Array.size (World.heap w), 0, none⟩ 4) = some (Value.int .i64 n32) ∧
  Calls Tryz.prog 48 #[(Value.agg #[(Value.int .i64 n29), (Value.slice A30 A30l A30c)]), (Value.string s31), (Value.int .i64 n32)] w28 fun e34 w35 =>
  ∃ n33, e34 = Ending.returned (Value.int .i64 n33) ∧
  V.sel (decide (n33 < 0))
  (V.sel (n25 == 0)
  (R (Ending.returned (Value.bool (!b26))) w35)
  (R (Ending.returned (Value.bool false)) w35))
  (V.sel b26
  (∃ A36, ∃ A36l, ∃ A36c, World.cell? w35 (Addr.add ⟨Array.size (World.heap (World.drew w12)), 0, none⟩ 1) = some (Value.slice A36 A36l A36c) ∧
  V.when (decide ((0 : Int) ≤ n33 ∧ (n33 : Int) < ((A36l : Nat) : Int))) (V.ptr A36 fun a37 =>
  ∃ n38, World.cell? w35 (Addr.add (Addr.add a37 ((Int.toNat n33) * 3)) 2) = some (Value.int .i64 n38) ∧
  R (Ending.returned (Value.bool (n25 == n38))) w35))
  (R (Ending.returned (Value.bool false)) w35)))
  (V.sel (n22 == 5)
  (∃ S39 : World → Prop, S39 (World.drew w21) ∧
  ∃ s41, (∀ w40, S39 w40 → World.cell? w40 (Addr.add ⟨Array.size (World.heap w), 0, none⟩ 3) = some (Value.string s41)) ∧
  ∃ n42, (∀ w40, S39 w40 → World.cell? w40 (Addr.add ⟨Array.size (World.heap w), 0, none⟩ 6) = some (Value.int .i64 n42)) ∧
  ∃ n43, (∀ w40, S39 w40 → World.cell? w40 (Addr.add ⟨Array.size (World.heap w), 0, none⟩ 5) = some (Value.int .i64 n43)) ∧
  ∃ n44, ∃ A45, ∃ A45l, ∃ A45c, V.cellsC (fun a_ x_ => ∀ w40, S39 w40 → World.cell? w40 a_ = some x_) ⟨Array.size (World.heap (World.drew w12)), 0, none⟩ [(Value.int .i64 n44), (Value.slice A45 A45l A45c)] ∧
  ∃ s46, (∀ w40, S39 w40 → World.cell? w40 (Addr.add ⟨Array.size (World.heap w), 0, none⟩ 3) = some (Value.string s46)) ∧
  ∃ n47, (∀ w40, S39 w40 → World.cell? w40 (Addr.add ⟨Array.size (World.heap w), 0, none⟩ 6) = some (Value.int .i64 n47)) ∧
  ∃ n48, (∀ w40, S39 w40 → World.cell? w40 (Addr.add ⟨Array.size (World.heap w), 0, none⟩ 5) = some (Value.int .i64 n48)) ∧
  Calls Tryz.prog 18 #[(Value.pointer p16), (Value.string s41), (Value.int .i64 n42), (Value.int .i64 n43)] (World.drew w21) fun e50 w51 =>
  ∃ p49, e50 = Ending.returned (Value.pointer p49) ∧
  S39 w51 ∧
  Calls Tryz.prog 49 #[(Value.agg #[(Value.int .i64 n44), (Value.slice A45 A45l A45c)]), (Value.string s46), (Value.int .i64 n47), (Value.int .i64 n48)] w51 fun e53 w54 =>
  ∃ A52, ∃ A52l, ∃ A52c, e53 = Ending.returned (Value.slice A52 A52l A52c) ∧
  S39 w54 ∧
  Calls Tryz.prog 9 #[(Value.pointer w_1), (Value.int .i64 i_10), (Value.pointer p49), (Value.slice A52 A52l A52c)] w54 fun e56 w57 =>
  ∃ b55, e56 = Ending.returned (Value.bool b55) ∧
  S39 w57 ∧
  R (Ending.returned (Value.bool b55)) w57)
  (V.sel (n22 == 6)
  (∃ S58 : World → Prop, S58 (World.drew w21) ∧
  ∃ s60, (∀ w59, S58 w59 → World.cell? w59 (Addr.add ⟨Array.size (World.heap w), 0, none⟩ 3) = some (Value.string s60)) ∧
  ∃ n61, (∀ w59, S58 w59 → World.cell? w59 (Addr.add ⟨Array.size (World.heap w), 0, none⟩ 5) = some (Value.int .i64 n61)) ∧
  ∃ n62, (∀ w59, S58 w59 → World.cell? w59 (Addr.add ⟨Array.size (World.heap w), 0, none⟩ 4) = some (Value.int .i64 n62)) ∧
  ∃ n63, ∃ A64, ∃ A64l, ∃ A64c, V.cellsC (fun a_ x_ => ∀ w59, S58 w59 → World.cell? w59 a_ = some x_) ⟨Array.size (World.heap (World.drew w12)), 0, none⟩ [(Value.int .i64 n63), (Value.slice A64 A64l A64c)] ∧
  ∃ s65, (∀ w59, S58 w59 → World.cell? w59 (Addr.add ⟨Array.size (World.heap w), 0, none⟩ 3) = some (Value.string s65)) ∧
  ∃ n66, (∀ w59, S58 w59 → World.cell? w59 (Addr.add ⟨Array.size (World.heap w), 0, none⟩ 5) = some (Value.int .i64 n66)) ∧
  ∃ n67, (∀ w59, S58 w59 → World.cell? w59 (Addr.add ⟨Array.size (World.heap w), 0, none⟩ 4) = some (Value.int .i64 n67)) ∧
  Calls Tryz.prog 43 #[(Value.pointer p16), (Value.string s60), (Value.int .i64 n61), (Value.int .i64 n62)] (World.drew w21) fun e69 w70 =>
  ∃ p68, e69 = Ending.returned (Value.pointer p68) ∧
  S58 w70 ∧
  Calls Tryz.prog 50 #[(Value.agg #[(Value.int .i64 n63), (Value.slice A64 A64l A64c)]), (Value.string s65), (Value.int .i64 n66), (Value.int .i64 n67)] w70 fun e72 w73 =>
  ∃ A71, ∃ A71l, ∃ A71c, e72 = Ending.returned (Value.slice A71 A71l A71c) ∧
  S58 w73 ∧
  Calls Tryz.prog 9 #[(Value.pointer w_1), (Value.int .i64 i_10), (Value.pointer p68), (Value.slice A71 A71l A71c)] w73 fun e75 w76 =>
  ∃ b74, e75 = Ending.returned (Value.bool b74) ∧
  S58 w76 ∧
  R (Ending.returned (Value.bool b74)) w76)
  (V.sel (n22 == 7)
  (∃ n77, ∃ A78, ∃ A78l, ∃ A78c, V.cellsC (fun a_ x_ => World.cell? w21 a_ = some x_) ⟨Array.size (World.heap (World.drew w12)), 0, none⟩ [(Value.int .i64 n77), (Value.slice A78 A78l A78c)] ∧
  ∃ s79, World.cell? w21 (Addr.add ⟨Array.size (World.heap w), 0, none⟩ 3) = some (Value.string s79) ∧
  ∃ A80, ∃ A80l, ∃ A80c, World.cell? w21 (Addr.add ⟨Array.size (World.heap w), 0, none⟩ 7) = some (Value.slice A80 A80l A80c) ∧
  Calls Tryz.prog 11 #[(Value.agg #[(Value.int .i64 n77), (Value.slice A78 A78l A78c)]), (Value.string s79), (Value.slice A80 A80l A80c)] w21 fun e82 w83 =>
  ∃ A81, ∃ A81l, ∃ A81c, e82 = Ending.returned (Value.slice A81 A81l A81c) ∧
  ∃ S84 : World → Prop, S84 (World.drew w83) ∧
  ∃ s86, (∀ w85, S84 w85 → World.cell? w85 (Addr.add ⟨Array.size (World.heap w), 0, none⟩ 3) = some (Value.string s86)) ∧
  ∃ A87, ∃ A87l, ∃ A87c, (∀ w85, S84 w85 → World.cell? w85 (Addr.add ⟨Array.size (World.heap w), 0, none⟩ 7) = some (Value.slice A87 A87l A87c)) ∧
  ∀ w88, w88 = (World.alloc (World.drew w83) (.cells #[] 3)) →
  S84 w88 ∧
  ∃ A89, ∃ A89l, ∃ A89c, ∃ w90, Sem.run Tryz.prog (Builtin.append_ #[23, 23] 23 #[(Value.slice (some ⟨Array.size (World.heap (World.drew w83)), 0, none⟩) 0 0), (Value.slice A87 A87l A87c)]) w88 = .ok (Value.slice A89 A89l A89c) w90 ∧
  S84 w90 ∧
  Calls Tryz.prog 10 #[(Value.pointer p16), (Value.string s86), (Value.slice A89 A89l A89c)] w90 fun e92 w93 =>
  ∃ p91, e92 = Ending.returned (Value.pointer p91) ∧
  S84 w93 ∧
  Calls Tryz.prog 9 #[(Value.pointer w_1), (Value.int .i64 i_10), (Value.pointer p91), (Value.slice A81 A81l A81c)] w93 fun e95 w96 =>
  ∃ b94, e95 = Ending.returned (Value.bool b94) ∧
  S84 w96 ∧
  R (Ending.returned (Value.bool b94)) w96)
  (V.sel (n22 == 8)
  (∃ S97 : World → Prop, S97 (World.drew w21) ∧
  ∃ s99, (∀ w98, S97 w98 → World.cell? w98 (Addr.add ⟨Array.size (World.heap w), 0, none⟩ 3) = some (Value.string s99)) ∧
  ∃ n100, ∃ A101, ∃ A101l, ∃ A101c, V.cellsC (fun a_ x_ => ∀ w98, S97 w98 → World.cell? w98 a_ = some x_) ⟨Array.size (World.heap (World.drew w12)), 0, none⟩ [(Value.int .i64 n100), (Value.slice A101 A101l A101c)] ∧
  ∃ s102, (∀ w98, S97 w98 → World.cell? w98 (Addr.add ⟨Array.size (World.heap w), 0, none⟩ 3) = some (Value.string s102)) ∧
  Calls Tryz.prog 19 #[(Value.pointer p16), (Value.string s99)] (World.drew w21) fun e104 w105 =>
  ∃ p103, e104 = Ending.returned (Value.pointer p103) ∧
  S97 w105 ∧
  Calls Tryz.prog 35 #[(Value.agg #[(Value.int .i64 n100), (Value.slice A101 A101l A101c)]), (Value.string s102)] w105 fun e107 w108 =>
  ∃ A106, ∃ A106l, ∃ A106c, e107 = Ending.returned (Value.slice A106 A106l A106c) ∧
  S97 w108 ∧
  Calls Tryz.prog 9 #[(Value.pointer w_1), (Value.int .i64 i_10), (Value.pointer p103), (Value.slice A106 A106l A106c)] w108 fun e110 w111 =>
  ∃ b109, e110 = Ending.returned (Value.bool b109) ∧
  S97 w111 ∧
  R (Ending.returned (Value.bool b109)) w111)
  (V.sel (n22 == 9)
  (∃ S112 : World → Prop, S112 (World.drew w21) ∧
  ∃ n114, ∃ A115, ∃ A115l, ∃ A115c, V.cellsC (fun a_ x_ => ∀ w113, S112 w113 → World.cell? w113 a_ = some x_) ⟨Array.size (World.heap (World.drew w12)), 0, none⟩ [(Value.int .i64 n114), (Value.slice A115 A115l A115c)] ∧
  Calls Tryz.prog 32 #[(Value.pointer p16)] (World.drew w21) fun e117 w118 =>
  ∃ A116, ∃ A116l, ∃ A116c, e117 = Ending.returned (Value.slice A116 A116l A116c) ∧
  S112 w118 ∧
  Calls Tryz.prog 7 #[(Value.agg #[(Value.int .i64 n114), (Value.slice A115 A115l A115c)])] w118 fun e120 w121 =>
  ∃ A119, ∃ A119l, ∃ A119c, e120 = Ending.returned (Value.slice A119 A119l A119c) ∧
  S112 w121 ∧
  Calls Tryz.prog 33 #[(Value.slice A116 A116l A116c), (Value.slice A119 A119l A119c)] w121 fun e123 w124 =>
  ∃ b122, e123 = Ending.returned (Value.bool b122) ∧
  S112 w124 ∧
  R (Ending.returned (Value.bool b122)) w124)
  (V.sel (n22 == 10)
  (∃ s125, World.cell? w21 (Addr.add ⟨Array.size (World.heap w), 0, none⟩ 3) = some (Value.string s125) ∧
  ∃ n126, World.cell? w21 (Addr.add ⟨Array.size (World.heap w), 0, none⟩ 4) = some (Value.int .i64 n126) ∧
  Calls Tryz.prog 36 #[(Value.pointer w_1), (Value.int .i64 i_10), (Value.string s125), (Value.int .i64 n126)] w21 fun e128 w129 =>
  ∃ b127, e128 = Ending.returned (Value.bool b127) ∧
  R (Ending.returned (Value.bool b127)) w129)
  (V.sel (n22 == 11)
  (∃ S130 : World → Prop, S130 (World.drew w21) ∧
  V.ptr w_1 fun a132 =>
  V.when (decide ((0 : Int) ≤ j_11 ∧ (j_11 : Int) < 4)) (∃ p133, (∀ w131, S130 w131 → World.cell? w131 (Addr.add (Addr.add a132 0) ((Int.toNat j_11) * 1)) = some (Value.pointer p133)) ∧
  ∃ n134, ∃ A135, ∃ A135l, ∃ A135c, V.cellsC (fun a_ x_ => ∀ w131, S130 w131 → World.cell? w131 a_ = some x_) ⟨Array.size (World.heap (World.drew w12)), 0, none⟩ [(Value.int .i64 n134), (Value.slice A135 A135l A135c)] ∧
  V.ptr w_1 fun a136 =>
  V.when (decide ((0 : Int) ≤ j_11 ∧ (j_11 : Int) < 4)) (∃ n137, ∃ A138, ∃ A138l, ∃ A138c, V.cellsC (fun a_ x_ => ∀ w131, S130 w131 → World.cell? w131 a_ = some x_) (Addr.add (Addr.add a136 4) ((Int.toNat j_11) * 2)) [(Value.int .i64 n137), (Value.slice A138 A138l A138c)] ∧
  Calls Tryz.prog 51 #[(Value.pointer p16), (Value.pointer p133)] (World.drew w21) fun e140 w141 =>
  ∃ b139, e140 = Ending.returned (Value.bool b139) ∧
  S130 w141 ∧
  Calls Tryz.prog 52 #[(Value.agg #[(Value.int .i64 n134), (Value.slice A135 A135l A135c)]), (Value.agg #[(Value.int .i64 n137), (Value.slice A138 A138l A138c)])] w141 fun e143 w144 =>
  ∃ b142, e143 = Ending.returned (Value.bool b142) ∧
  S130 w144 ∧
  R (Ending.returned (Value.bool (b139 == b142))) w144)))
  (R (Ending.returned (Value.bool true)) w21))))))))))) :
  Calls Tryz.prog 22 #[(Value.pointer w_1), (Value.agg #[(Value.int .i64 o_2), (Value.int .i64 o_3), (Value.int .i64 o_4), (Value.string o_5), (Value.int .i64 o_6), (Value.int .i64 o_7), (Value.int .i64 o_8), (Value.slice o_9 o_9l o_9c)]), (Value.int .i64 i_10), (Value.int .i64 j_11)] w R :=
  V.calls_of_R ⟨V.assoc [], V.assocP [(1, V.line [0, 1, 2, 3, 4, 5, 6, 7, 8, 9, 10, 11, 12, 13, 14]), (10, V.line [0, 1, 2, 3, 4, 5, 6, 7, 8, 10, 11, 12, 13, 14, 15, 16, 9, 17, 18, 19]), (12, V.line [0, 1, 2, 3, 4, 5, 6, 7, 8, 10, 11, 12, 13, 14, 15, 16, 9, 17, 18, 19]), (15, V.line [0, 1, 2, 3, 4, 6, 7, 10, 5, 8, 9, 11, 12]), (17, V.line [0, 1, 2, 3, 4, 6, 7, 8, 5, 9, 10, 11]), (19, V.line [0, 2, 1, 3, 4, 5]), (23, V.line [0, 1, 2, 3, 4, 5, 6, 8, 9, 10, 11, 12, 13, 14, 7, 15, 16, 17])], V.assocC [], V.assocS [], ⟨[], true⟩⟩ Tryz.func22 rfl (Eq.mp (by kernel_rfl) h)

end Go.Proofs.YtjlkdadafddodaaGreatDoor
