/- Normal forms of the program's functions, printed by a program of mine; the kernel checks each. -/
import Derived.Test.YtcohengppaighaaDoorProg
import Derived.Test.YtcohengppaighaaDoorV2
set_option linter.unusedVariables false
set_option maxRecDepth 100000
namespace Go.Proofs.YtcohengppaighaaDoor
open Go

theorem berthlaw03_walk_nf (was_1 : Option Addr) (was_1l : Nat) (was_1c : Nat) (now_2 : Option Addr) (now_2l : Nat) (now_2c : Nat) (w : World) (R : Ending → World → Prop) (h :
  ∀ w3, w3 = (World.alloc w (.cells #[(Value.slice none 0 0)] 24)) →
  Calls Tryd.prog 12 #[(Value.slice was_1 was_1l was_1c), (Value.slice now_2 now_2l now_2c)] w3 fun e5 w6 =>
  ∃ f4, ∃ f4a, ∃ f4c, e5 = Ending.returned (Value.func (.func f4) f4a f4c) ∧
  V.when (V.hasB Tryd.prog f4 && true) (∀ (Rc7 : Loop) (l8 : Nat) (w9 : World), l8 = Array.size (World.heap w6) + 1 → w9 = World.alloc (World.alloc w6 (.deferred (some []))) (.loop { Rc7 with state := .ready, pending := none }) →
  (∀ y16_12 y16_13 y16_14 y16_15 y16_16 (W10 : World) (R11 : Ending → World → Prop), V.LoopSt W10 l8 Rc7 .ready none →
  (∀ w17, w17 = (World.alloc W10 (.cells #[(Value.string ByteArray.empty), (Value.string ByteArray.empty), (Value.string ByteArray.empty), (Value.bool false), (Value.bool false)] 35)) →
  ∃ w18, Sem.run Tryd.prog (Instr.storeAt 35 (Value.pointer (some ⟨Array.size (World.heap W10), 0, none⟩)) (Value.agg #[(Value.string y16_12), (Value.string y16_13), (Value.string y16_14), (Value.bool y16_15), (Value.bool y16_16)])) w17 = .ok () w18 ∧
  V.LoopSt w18 l8 Rc7 .ready none ∧
  ∃ A19, ∃ A19l, ∃ A19c, World.cell? (V.setLoop w18 l8 Rc7 .busy none) ⟨Array.size (World.heap w), 0, none⟩ = some (Value.slice A19 A19l A19c) ∧
  ∃ s20, ∃ s21, ∃ s22, ∃ b23, ∃ b24, V.cellsC (fun a_ x_ => World.cell? (V.setLoop w18 l8 Rc7 .busy none) a_ = some x_) ⟨Array.size (World.heap W10), 0, none⟩ [(Value.string s20), (Value.string s21), (Value.string s22), (Value.bool b23), (Value.bool b24)] ∧
  ∀ w25, w25 = (World.alloc (V.setLoop w18 l8 Rc7 .busy none) (.cells #[(Value.string s20), (Value.string s21), (Value.string s22), (Value.bool b23), (Value.bool b24)] 35)) →
  ∃ A26, ∃ A26l, ∃ A26c, ∃ w27, Sem.run Tryd.prog (Builtin.append_ #[24, 24] 24 #[(Value.slice A19 A19l A19c), (Value.slice (some ⟨Array.size (World.heap (V.setLoop w18 l8 Rc7 .busy none)), 0, none⟩) 1 1)]) w25 = .ok (Value.slice A26 A26l A26c) w27 ∧
  ∃ w28, Sem.run Tryd.prog (Instr.storeAt 24 (Value.pointer (some ⟨Array.size (World.heap w), 0, none⟩)) (Value.slice A26 A26l A26c)) w27 = .ok () w28 ∧
  V.LoopSt w28 l8 Rc7 .busy none ∧ R11 (Ending.returned (Value.bool true)) (V.setLoop w28 l8 Rc7 .ready none)) →
  V.Yield Tryd.prog l8 [(Value.agg #[(Value.string y16_12), (Value.string y16_13), (Value.string y16_14), (Value.bool y16_15), (Value.bool y16_16)])] W10 R11) →
  Calls Tryd.prog f4 ⟨Array.toList f4a ++ [(Value.func (.yield l8) #[] #[])] ++ Array.toList f4c⟩ w9 fun e29 w31 => (∃ v30, e29 = Ending.returned v30) ∧
  ((V.LoopSt w31 l8 Rc7 .ready none ∧
  ∃ A32, ∃ A32l, ∃ A32c, World.cell? (V.setLoop w31 l8 Rc7 .exhausted none) ⟨Array.size (World.heap w), 0, none⟩ = some (Value.slice A32 A32l A32c) ∧
  V.closeR (Array.size (World.heap w6) :: []) (V.setLoop w31 l8 Rc7 .exhausted none) fun w33 =>
  R (Ending.returned (Value.slice A32 A32l A32c)) w33) ∨
  False))) :
  Calls Tryd.prog 9 #[(Value.slice was_1 was_1l was_1c), (Value.slice now_2 now_2l now_2c)] w R :=
  V.calls_of_R ⟨V.assoc [], V.assocP [], V.assocC [], V.assocS [(0, [V.Sh.agg [.str, .str, .str, .bool, .bool]])], ⟨[], true⟩⟩ Tryd.func9 rfl (Eq.mp (by kernel_rfl) h)

theorem berthref03_Diff_nf (was_1 : Option Addr) (was_1l : Nat) (was_1c : Nat) (now_2 : Option Addr) (now_2l : Nat) (now_2c : Nat) (w : World) (R : Ending → World → Prop) (h :
  Calls Tryd.prog 29 #[(Value.slice was_1 was_1l was_1c)] w fun e5 w6 =>
  ∃ n3, ∃ n4, e5 = Ending.returned (Value.tuple #[(Value.int .i64 n3), (Value.int .i64 n4)]) ∧
  Calls Tryd.prog 29 #[(Value.slice now_2 now_2l now_2c)] w6 fun e9 w10 =>
  ∃ n7, ∃ n8, e9 = Ending.returned (Value.tuple #[(Value.int .i64 n7), (Value.int .i64 n8)]) ∧
  V.sel (n4 != 0)
  (R (Ending.returned (Value.slice none 0 0)) w10)
  (V.sel (n8 != 0)
  (R (Ending.returned (Value.slice none 0 0)) w10)
  (∃ I11 : Option Addr → Nat → Nat → Int → World → Prop, ∃ μ12 : Option Addr → Nat → Nat → Int → World → Nat, I11 none 0 0 0 w10 ∧
  ∀ all_13 all_13l all_13c i_14 (j15 : Nat → Value) (w16 : World), I11 all_13 all_13l all_13c i_14 w16 →
  (V.sel (decide (i_14 < ((was_1l : Nat) : Int)))
  (V.when (decide ((0 : Int) ≤ i_14 ∧ (i_14 : Int) < ((was_1l : Nat) : Int))) (V.ptr was_1 fun a17 =>
  ∃ s18, ∃ s19, V.cellsC (fun a_ x_ => World.cell? w16 a_ = some x_) (Addr.add a17 ((Int.toNat i_14) * 2)) [(Value.string s18), (Value.string s19)] ∧
  ∀ w20, w20 = (World.alloc w16 (.cells #[(Value.string s18), (Value.string s19)] 27)) →
  ∃ A21, ∃ A21l, ∃ A21c, ∃ w22, Sem.run Tryd.prog (Builtin.append_ #[22, 22] 22 #[(Value.slice all_13 all_13l all_13c), (Value.slice (some ⟨Array.size (World.heap w16), 0, none⟩) 1 1)]) w20 = .ok (Value.slice A21 A21l A21c) w22 ∧
  I11 A21 A21l A21c (IntKind.wrap .i64 (i_14 + 1)) w22 ∧ μ12 A21 A21l A21c (IntKind.wrap .i64 (i_14 + 1)) w22 < μ12 all_13 all_13l all_13c i_14 w16))
  (∃ I23 : Option Addr → Nat → Nat → Int → World → Prop, ∃ μ24 : Option Addr → Nat → Nat → Int → World → Nat, I23 all_13 all_13l all_13c 0 w16 ∧
  ∀ all_25 all_25l all_25c i_26 (j27 : Nat → Value) (w28 : World), I23 all_25 all_25l all_25c i_26 w28 →
  (V.sel (decide (i_26 < ((now_2l : Nat) : Int)))
  (V.when (decide ((0 : Int) ≤ i_26 ∧ (i_26 : Int) < ((now_2l : Nat) : Int))) (V.ptr now_2 fun a29 =>
  ∃ s30, World.cell? w28 (Addr.add (Addr.add a29 ((Int.toNat i_26) * 2)) 0) = some (Value.string s30) ∧
  Calls Tryd.prog 30 #[(Value.slice was_1 was_1l was_1c), (Value.string s30)] w28 fun e32 w33 =>
  ∃ n31, e32 = Ending.returned (Value.int .i64 n31) ∧
  V.sel (decide (n31 < 0))
  (V.when (decide ((0 : Int) ≤ i_26 ∧ (i_26 : Int) < ((now_2l : Nat) : Int))) (V.ptr now_2 fun a34 =>
  ∃ s35, ∃ s36, V.cellsC (fun a_ x_ => World.cell? w33 a_ = some x_) (Addr.add a34 ((Int.toNat i_26) * 2)) [(Value.string s35), (Value.string s36)] ∧
  ∀ w37, w37 = (World.alloc w33 (.cells #[(Value.string s35), (Value.string s36)] 27)) →
  ∃ A38, ∃ A38l, ∃ A38c, ∃ w39, Sem.run Tryd.prog (Builtin.append_ #[22, 22] 22 #[(Value.slice all_25 all_25l all_25c), (Value.slice (some ⟨Array.size (World.heap w33), 0, none⟩) 1 1)]) w37 = .ok (Value.slice A38 A38l A38c) w39 ∧
  I23 A38 A38l A38c (IntKind.wrap .i64 (i_26 + 1)) w39 ∧ μ24 A38 A38l A38c (IntKind.wrap .i64 (i_26 + 1)) w39 < μ24 all_25 all_25l all_25c i_26 w28))
  (I23 all_25 all_25l all_25c (IntKind.wrap .i64 (i_26 + 1)) w33 ∧ μ24 all_25 all_25l all_25c (IntKind.wrap .i64 (i_26 + 1)) w33 < μ24 all_25 all_25l all_25c i_26 w28)))
  (Calls Tryd.prog 31 #[(Value.slice all_25 all_25l all_25c)] w28 fun e41 w42 =>
  ∃ A40, ∃ A40l, ∃ A40c, e41 = Ending.returned (Value.slice A40 A40l A40c) ∧
  ∃ I43 : Option Addr → Nat → Nat → Int → World → Prop, ∃ μ44 : Option Addr → Nat → Nat → Int → World → Nat, I43 none 0 0 0 w42 ∧
  ∀ out_45 out_45l out_45c i_46 (j47 : Nat → Value) (w48 : World), I43 out_45 out_45l out_45c i_46 w48 →
  (V.sel (decide (i_46 < ((A40l : Nat) : Int)))
  (V.when (decide ((0 : Int) ≤ i_46 ∧ (i_46 : Int) < ((A40l : Nat) : Int))) (V.ptr A40 fun a49 =>
  ∃ s50, World.cell? w48 (Addr.add (Addr.add a49 ((Int.toNat i_46) * 2)) 0) = some (Value.string s50) ∧
  Calls Tryd.prog 32 #[(Value.slice was_1 was_1l was_1c), (Value.slice now_2 now_2l now_2c), (Value.string s50)] w48 fun e56 w57 =>
  ∃ s51, ∃ s52, ∃ s53, ∃ b54, ∃ b55, e56 = Ending.returned (Value.agg #[(Value.string s51), (Value.string s52), (Value.string s53), (Value.bool b54), (Value.bool b55)]) ∧
  ∀ w58, w58 = (World.alloc w57 (.cells #[(Value.string ByteArray.empty), (Value.string ByteArray.empty), (Value.string ByteArray.empty), (Value.bool false), (Value.bool false)] 35)) →
  ∃ w59, Sem.run Tryd.prog (Instr.storeAt 35 (Value.pointer (some ⟨Array.size (World.heap w57), 0, none⟩)) (Value.agg #[(Value.string s51), (Value.string s52), (Value.string s53), (Value.bool b54), (Value.bool b55)])) w58 = .ok () w59 ∧
  ∃ b60, World.cell? w59 (Addr.add ⟨Array.size (World.heap w57), 0, none⟩ 3) = some (Value.bool b60) ∧
  ∃ b61, World.cell? w59 (Addr.add ⟨Array.size (World.heap w57), 0, none⟩ 4) = some (Value.bool b61) ∧
  V.sel (!(b60 == b61))
  (∃ s62, ∃ s63, ∃ s64, ∃ b65, ∃ b66, V.cellsC (fun a_ x_ => World.cell? w59 a_ = some x_) ⟨Array.size (World.heap w57), 0, none⟩ [(Value.string s62), (Value.string s63), (Value.string s64), (Value.bool b65), (Value.bool b66)] ∧
  ∀ w67, w67 = (World.alloc w59 (.cells #[(Value.string s62), (Value.string s63), (Value.string s64), (Value.bool b65), (Value.bool b66)] 35)) →
  ∃ A68, ∃ A68l, ∃ A68c, ∃ w69, Sem.run Tryd.prog (Builtin.append_ #[24, 24] 24 #[(Value.slice out_45 out_45l out_45c), (Value.slice (some ⟨Array.size (World.heap w59), 0, none⟩) 1 1)]) w67 = .ok (Value.slice A68 A68l A68c) w69 ∧
  I43 A68 A68l A68c (IntKind.wrap .i64 (i_46 + 1)) w69 ∧ μ44 A68 A68l A68c (IntKind.wrap .i64 (i_46 + 1)) w69 < μ44 out_45 out_45l out_45c i_46 w48)
  (∃ s70, World.cell? w59 (Addr.add ⟨Array.size (World.heap w57), 0, none⟩ 1) = some (Value.string s70) ∧
  ∃ s71, World.cell? w59 (Addr.add ⟨Array.size (World.heap w57), 0, none⟩ 2) = some (Value.string s71) ∧
  V.sel (!(ByteArray.toList s70 == ByteArray.toList s71))
  (∃ s72, ∃ s73, ∃ s74, ∃ b75, ∃ b76, V.cellsC (fun a_ x_ => World.cell? w59 a_ = some x_) ⟨Array.size (World.heap w57), 0, none⟩ [(Value.string s72), (Value.string s73), (Value.string s74), (Value.bool b75), (Value.bool b76)] ∧
  ∀ w77, w77 = (World.alloc w59 (.cells #[(Value.string s72), (Value.string s73), (Value.string s74), (Value.bool b75), (Value.bool b76)] 35)) →
  ∃ A78, ∃ A78l, ∃ A78c, ∃ w79, Sem.run Tryd.prog (Builtin.append_ #[24, 24] 24 #[(Value.slice out_45 out_45l out_45c), (Value.slice (some ⟨Array.size (World.heap w59), 0, none⟩) 1 1)]) w77 = .ok (Value.slice A78 A78l A78c) w79 ∧
  I43 A78 A78l A78c (IntKind.wrap .i64 (i_46 + 1)) w79 ∧ μ44 A78 A78l A78c (IntKind.wrap .i64 (i_46 + 1)) w79 < μ44 out_45 out_45l out_45c i_46 w48)
  (I43 out_45 out_45l out_45c (IntKind.wrap .i64 (i_46 + 1)) w59 ∧ μ44 out_45 out_45l out_45c (IntKind.wrap .i64 (i_46 + 1)) w59 < μ44 out_45 out_45l out_45c i_46 w48))))
  (R (Ending.returned (Value.slice out_45 out_45l out_45c)) w48))))))))) :
  Calls Tryd.prog 10 #[(Value.slice was_1 was_1l was_1c), (Value.slice now_2 now_2l now_2c)] w R :=
  V.calls_of_R ⟨V.assoc [(0, [9, 10]), (1, [9, 11]), (2, [13, 14])], V.assocP [], V.assocC [], V.assocS [], ⟨[], true⟩⟩ Tryd.func10 rfl (Eq.mp (by kernel_rfl) h)

theorem berthlaw03_roomy_nf (l_1 : Option Addr) (l_1l : Nat) (l_1c : Nat) (w : World) (R : Ending → World → Prop) (h :
  V.when (decide ((0 : Int) ≤ 0 ∧ (0 : Int) ≤ (IntKind.wrap .i64 (((l_1l : Nat) : Int) + 80)) ∧ ((IntKind.wrap .i64 (((l_1l : Nat) : Int) + 80)) : Int) ≤ 281474976710656 ∧ (32 : Int) * (IntKind.wrap .i64 (((l_1l : Nat) : Int) + 80)) ≤ 281474976710656)) (∀ w2, w2 = (World.alloc w (.cells ⟨V.rep (Int.toNat (IntKind.wrap .i64 (((l_1l : Nat) : Int) + 80))) [(Value.string ByteArray.empty), (Value.string ByteArray.empty)]⟩ 27)) →
  ∃ A3, ∃ A3l, ∃ A3c, ∃ w4, Sem.run Tryd.prog (Builtin.append_ #[22, 22] 22 #[(Value.slice (some ⟨Array.size (World.heap w), 0, none⟩) 0 (Int.toNat (IntKind.wrap .i64 (((l_1l : Nat) : Int) + 80)))), (Value.slice l_1 l_1l l_1c)]) w2 = .ok (Value.slice A3 A3l A3c) w4 ∧
  ∃ I5 : Option Addr → Nat → Nat → Int → World → Prop, ∃ μ6 : Option Addr → Nat → Nat → Int → World → Nat, I5 A3 A3l A3c 0 w4 ∧
  ∀ all_7 all_7l all_7c i_8 (j9 : Nat → Value) (w10 : World), I5 all_7 all_7l all_7c i_8 w10 →
  (V.sel (decide (i_8 < 80))
  (∀ w11, w11 = (World.alloc w10 (.cells #[(Value.string ⟨#[33]⟩), (Value.string ⟨#[115, 112, 97, 114, 101]⟩)] 27)) →
  ∃ A12, ∃ A12l, ∃ A12c, ∃ w13, Sem.run Tryd.prog (Builtin.append_ #[22, 22] 22 #[(Value.slice all_7 all_7l all_7c), (Value.slice (some ⟨Array.size (World.heap w10), 0, none⟩) 1 1)]) w11 = .ok (Value.slice A12 A12l A12c) w13 ∧
  I5 A12 A12l A12c (IntKind.wrap .i64 (i_8 + 1)) w13 ∧ μ6 A12 A12l A12c (IntKind.wrap .i64 (i_8 + 1)) w13 < μ6 all_7 all_7l all_7c i_8 w10)
  (V.when (decide ((0 : Int) ≤ ((l_1l : Nat) : Int) ∧ (((l_1l : Nat) : Int) : Int) ≤ ((all_7c : Nat) : Int))) (R (Ending.returned (Value.tuple #[(Value.slice all_7 all_7l all_7c), (Value.slice (V.cut all_7 all_7c 0 2) ((l_1l : Nat) - 0) (all_7c - 0))])) (World.drew w10)))))) :
  Calls Tryd.prog 11 #[(Value.slice l_1 l_1l l_1c)] w R :=
  V.calls_of_R ⟨V.assoc [(0, [4, 5])], V.assocP [(7, V.line [0, 1, 2, 3, 4, 5, 6])], V.assocC [], V.assocS [], ⟨[], true⟩⟩ Tryd.func11 rfl (Eq.mp (by kernel_rfl) h)

theorem labels_Diff_nf (was_1 : Option Addr) (was_1l : Nat) (was_1c : Nat) (now_2 : Option Addr) (now_2l : Nat) (now_2c : Nat) (w : World) (R : Ending → World → Prop) (h :
  ∀ w3, w3 = (World.alloc w (.cells #[(Value.slice none 0 0)] 24)) →
  Calls Tryd.prog 27 #[(Value.slice was_1 was_1l was_1c)] w3 fun e6 w7 =>
  ∃ n4, ∃ n5, e6 = Ending.returned (Value.tuple #[(Value.int .i64 n4), (Value.int .i64 n5)]) ∧
  Calls Tryd.prog 27 #[(Value.slice now_2 now_2l now_2c)] w7 fun e10 w11 =>
  ∃ n8, ∃ n9, e10 = Ending.returned (Value.tuple #[(Value.int .i64 n8), (Value.int .i64 n9)]) ∧
  V.sel (n5 == 0)
  (V.sel (n9 == 0)
  (Calls Tryd.prog 33 #[(Value.slice was_1 was_1l was_1c), (Value.slice now_2 now_2l now_2c)] w11 fun e13 w14 =>
  ∃ A12, ∃ A12l, ∃ A12c, e13 = Ending.returned (Value.slice A12 A12l A12c) ∧
  ∃ w15, Sem.run Tryd.prog (Instr.storeAt 24 (Value.pointer (some ⟨Array.size (World.heap w), 0, none⟩)) (Value.slice A12 A12l A12c)) w14 = .ok () w15 ∧
  R (Ending.returned (Value.func (.func 34) #[] #[(Value.pointer (some ⟨Array.size (World.heap w), 0, none⟩))])) w15)
  (R (Ending.returned (Value.func (.func 34) #[] #[(Value.pointer (some ⟨Array.size (World.heap w), 0, none⟩))])) w11))
  (R (Ending.returned (Value.func (.func 34) #[] #[(Value.pointer (some ⟨Array.size (World.heap w), 0, none⟩))])) w11)) :
  Calls Tryd.prog 12 #[(Value.slice was_1 was_1l was_1c), (Value.slice now_2 now_2l now_2c)] w R :=
  V.calls_of_R ⟨V.assoc [], V.assocP [], V.assocC [], V.assocS [], ⟨[], true⟩⟩ Tryd.func12 rfl (Eq.mp (by kernel_rfl) h)

theorem berthlaw03_untouched_nf (all_1 : Option Addr) (all_1l : Nat) (all_1c : Nat) (l_2 : Option Addr) (l_2l : Nat) (l_2c : Nat) (w : World) (R : Ending → World → Prop) (h :
  V.sel (((all_1l : Nat) : Int) != (IntKind.wrap .i64 (((l_2l : Nat) : Int) + 80)))
  (R (Ending.returned (Value.bool false)) w)
  (V.when (decide ((0 : Int) ≤ ((l_2l : Nat) : Int) ∧ (((l_2l : Nat) : Int) : Int) ≤ ((all_1c : Nat) : Int))) (Calls Tryd.prog 18 #[(Value.slice (V.cut all_1 all_1c 0 2) ((l_2l : Nat) - 0) (all_1c - 0)), (Value.slice l_2 l_2l l_2c)] w fun e4 w5 =>
  ∃ b3, e4 = Ending.returned (Value.bool b3) ∧
  V.sel (!b3)
  (R (Ending.returned (Value.bool false)) w5)
  (∃ I6 : Int → World → Prop, ∃ μ7 : Int → World → Nat, I6 ((l_2l : Nat) : Int) w5 ∧
  ∀ i_8 (j9 : Nat → Value) (w10 : World), I6 i_8 w10 →
  (V.sel (decide (i_8 < ((all_1l : Nat) : Int)))
  (V.when (decide ((0 : Int) ≤ i_8 ∧ (i_8 : Int) < ((all_1l : Nat) : Int))) (V.ptr all_1 fun a11 =>
  ∃ s12, ∃ s13, V.cellsC (fun a_ x_ => World.cell? w10 a_ = some x_) (Addr.add a11 ((Int.toNat i_8) * 2)) [(Value.string s12), (Value.string s13)] ∧
  V.sel (!((ByteArray.toList s12 == ByteArray.toList ⟨#[33]⟩) && ((ByteArray.toList s13 == ByteArray.toList ⟨#[115, 112, 97, 114, 101]⟩) && true)))
  (R (Ending.returned (Value.bool false)) w10)
  (I6 (IntKind.wrap .i64 (i_8 + 1)) w10 ∧ μ7 (IntKind.wrap .i64 (i_8 + 1)) w10 < μ7 i_8 w10)))
  (R (Ending.returned (Value.bool true)) w10)))))) :
  Calls Tryd.prog 13 #[(Value.slice all_1 all_1l all_1c), (Value.slice l_2 l_2l l_2c)] w R :=
  V.calls_of_R ⟨V.assoc [(0, [5])], V.assocP [], V.assocC [], V.assocS [], ⟨[], true⟩⟩ Tryd.func13 rfl (Eq.mp (by kernel_rfl) h)

theorem berthlaw03_copied_nf (l_1 : Option Addr) (l_1l : Nat) (l_1c : Nat) (w : World) (R : Ending → World → Prop) (h :
  ∀ w2, w2 = (World.alloc w (.cells #[] 27)) →
  ∃ A3, ∃ A3l, ∃ A3c, ∃ w4, Sem.run Tryd.prog (Builtin.append_ #[22, 22] 22 #[(Value.slice (some ⟨Array.size (World.heap w), 0, none⟩) 0 0), (Value.slice l_1 l_1l l_1c)]) w2 = .ok (Value.slice A3 A3l A3c) w4 ∧
  R (Ending.returned (Value.slice A3 A3l A3c)) w4) :
  Calls Tryd.prog 14 #[(Value.slice l_1 l_1l l_1c)] w R :=
  V.calls_of_R ⟨V.assoc [], V.assocP [], V.assocC [], V.assocS [], ⟨[], true⟩⟩ Tryd.func14 rfl (Eq.mp (by kernel_rfl) h)

theorem berthlaw03_sameDiffs_nf (a_1 : Option Addr) (a_1l : Nat) (a_1c : Nat) (b_2 : Option Addr) (b_2l : Nat) (b_2c : Nat) (w : World) (R : Ending → World → Prop) (h :
  V.sel (((a_1l : Nat) : Int) != ((b_2l : Nat) : Int))
  (R (Ending.returned (Value.bool false)) w)
  (∃ I3 : Int → World → Prop, ∃ μ4 : Int → World → Nat, I3 0 w ∧
  ∀ i_5 (j6 : Nat → Value) (w7 : World), I3 i_5 w7 →
  (V.sel (decide (i_5 < ((a_1l : Nat) : Int)))
  (V.when (decide ((0 : Int) ≤ i_5 ∧ (i_5 : Int) < ((a_1l : Nat) : Int))) (V.ptr a_1 fun a8 =>
  ∃ s9, ∃ s10, ∃ s11, ∃ b12, ∃ b13, V.cellsC (fun a_ x_ => World.cell? w7 a_ = some x_) (Addr.add a8 ((Int.toNat i_5) * 5)) [(Value.string s9), (Value.string s10), (Value.string s11), (Value.bool b12), (Value.bool b13)] ∧
  V.when (decide ((0 : Int) ≤ i_5 ∧ (i_5 : Int) < ((b_2l : Nat) : Int))) (V.ptr b_2 fun a14 =>
  ∃ s15, ∃ s16, ∃ s17, ∃ b18, ∃ b19, V.cellsC (fun a_ x_ => World.cell? w7 a_ = some x_) (Addr.add a14 ((Int.toNat i_5) * 5)) [(Value.string s15), (Value.string s16), (Value.string s17), (Value.bool b18), (Value.bool b19)] ∧
  V.sel (!((ByteArray.toList s9 == ByteArray.toList s15) && ((ByteArray.toList s10 == ByteArray.toList s16) && ((ByteArray.toList s11 == ByteArray.toList s17) && ((b12 == b18) && ((b13 == b19) && true))))))
  (R (Ending.returned (Value.bool false)) (World.drew w7))
  (I3 (IntKind.wrap .i64 (i_5 + 1)) (World.drew w7) ∧ μ4 (IntKind.wrap .i64 (i_5 + 1)) (World.drew w7) < μ4 i_5 w7))))
  (R (Ending.returned (Value.bool true)) w7)))) :
  Calls Tryd.prog 15 #[(Value.slice a_1 a_1l a_1c), (Value.slice b_2 b_2l b_2c)] w R :=
  V.calls_of_R ⟨V.assoc [(0, [5])], V.assocP [(6, V.line [0, 1, 2, 3, 4, 5, 6, 7, 8])], V.assocC [], V.assocS [], ⟨[], true⟩⟩ Tryd.func15 rfl (Eq.mp (by kernel_rfl) h)

theorem labels_Parse_nf (text_1 : ByteArray) (w : World) (R : Ending → World → Prop) (h :
  V.sel (decide (((ByteArray.size text_1 : Nat) : Int) > 8192))
  (R (Ending.returned (Value.tuple #[(Value.slice none 0 0), (Value.int .i64 0), (Value.int .i64 39)])) w)
  (V.sel (ByteArray.toList text_1 == ByteArray.toList ByteArray.empty)
  (R (Ending.returned (Value.tuple #[(Value.slice none 0 0), (Value.int .i64 0), (Value.int .i64 0)])) w)
  (Calls Tryd.prog 35 #[(Value.string text_1), (Value.string ⟨#[44]⟩)] w fun e3 w4 =>
  ∃ A2, ∃ A2l, ∃ A2c, e3 = Ending.returned (Value.slice A2 A2l A2c) ∧
  ∃ I5 : Option Addr → Nat → Nat → Int → Int → World → Prop, ∃ μ6 : Option Addr → Nat → Nat → Int → Int → World → Nat, I5 none 0 0 0 0 w4 ∧
  ∀ out_7 out_7l out_7c at_8 t22_9 (j10 : Nat → Value) (w11 : World), I5 out_7 out_7l out_7c at_8 t22_9 w11 →
  (V.sel (decide (t22_9 < ((A2l : Nat) : Int)))
  (V.when (decide ((0 : Int) ≤ t22_9 ∧ (t22_9 : Int) < ((A2l : Nat) : Int))) (V.ptr A2 fun a12 =>
  ∃ s13, World.cell? w11 (Addr.add a12 ((Int.toNat t22_9) * 1)) = some (Value.string s13) ∧
  Calls Tryd.prog 36 #[(Value.string s13), (Value.string ⟨#[61]⟩)] w11 fun e17 w18 =>
  ∃ s14, ∃ s15, ∃ b16, e17 = Ending.returned (Value.tuple #[(Value.string s14), (Value.string s15), (Value.bool b16)]) ∧
  Calls Tryd.prog 20 #[(Value.slice out_7 out_7l out_7c), (Value.string s14)] w18 fun e21 w22 =>
  ∃ s19, ∃ b20, e21 = Ending.returned (Value.tuple #[(Value.string s19), (Value.bool b20)]) ∧
  V.sel (((out_7l : Nat) : Int) == 32)
  (R (Ending.returned (Value.tuple #[(Value.slice none 0 0), (Value.int .i64 at_8), (Value.int .i64 34)])) w22)
  (V.sel (!b16)
  (R (Ending.returned (Value.tuple #[(Value.slice none 0 0), (Value.int .i64 at_8), (Value.int .i64 35)])) w22)
  (Calls Tryd.prog 24 #[(Value.string s14)] w22 fun e24 w25 =>
  ∃ b23, e24 = Ending.returned (Value.bool b23) ∧
  V.sel (!b23)
  (R (Ending.returned (Value.tuple #[(Value.slice none 0 0), (Value.int .i64 at_8), (Value.int .i64 31)])) w25)
  (Calls Tryd.prog 25 #[(Value.string s15)] w25 fun e27 w28 =>
  ∃ b26, e27 = Ending.returned (Value.bool b26) ∧
  V.sel (!b26)
  (R (Ending.returned (Value.tuple #[(Value.slice none 0 0), (Value.int .i64 at_8), (Value.int .i64 32)])) w28)
  (V.sel b20
  (R (Ending.returned (Value.tuple #[(Value.slice none 0 0), (Value.int .i64 at_8), (Value.int .i64 33)])) w28)
  (∀ w29, w29 = (World.alloc w28 (.cells #[(Value.string s14), (Value.string s15)] 27)) →
  ∃ A30, ∃ A30l, ∃ A30c, ∃ w31, Sem.run Tryd.prog (Builtin.append_ #[22, 22] 22 #[(Value.slice out_7 out_7l out_7c), (Value.slice (some ⟨Array.size (World.heap w28), 0, none⟩) 1 1)]) w29 = .ok (Value.slice A30 A30l A30c) w31 ∧
  V.lt (IntKind.wrap .i64 (at_8 + (IntKind.wrap .i64 (((ByteArray.size s13 : Nat) : Int) + 1)))) fun x32 =>
  I5 A30 A30l A30c x32 (IntKind.wrap .i64 (t22_9 + 1)) w31 ∧ μ6 A30 A30l A30c x32 (IntKind.wrap .i64 (t22_9 + 1)) w31 < μ6 out_7 out_7l out_7c at_8 t22_9 w11)))))))
  (Calls Tryd.prog 37 #[(Value.slice out_7 out_7l out_7c)] w11 fun e34 w35 =>
  ∃ A33, ∃ A33l, ∃ A33c, e34 = Ending.returned (Value.slice A33 A33l A33c) ∧
  R (Ending.returned (Value.tuple #[(Value.slice A33 A33l A33c), (Value.int .i64 0), (Value.int .i64 0)])) w35))))) :
  Calls Tryd.prog 16 #[(Value.string text_1)] w R :=
  V.calls_of_R ⟨V.assoc [(0, [5, 6, 22])], V.assocP [], V.assocC [], V.assocS [], ⟨[], true⟩⟩ Tryd.func16 rfl (Eq.mp (by kernel_rfl) h)

theorem labels_Text_nf (list_1 : Option Addr) (list_1l : Nat) (list_1c : Nat) (w : World) (R : Ending → World → Prop) (h :
  Calls Tryd.prog 27 #[(Value.slice list_1 list_1l list_1c)] w fun e4 w5 =>
  ∃ n2, ∃ n3, e4 = Ending.returned (Value.tuple #[(Value.int .i64 n2), (Value.int .i64 n3)]) ∧
  V.sel (n3 != 0)
  (R (Ending.returned (Value.tuple #[(Value.string ByteArray.empty), (Value.int .i64 n3)])) w5)
  (∀ w6, w6 = (World.alloc w5 (.cells #[(Value.pointer none), (Value.slice none 0 0)] 73)) →
  ∃ I7 : Int → World → Prop, ∃ μ8 : Int → World → Nat, I7 0 w6 ∧
  ∀ t19_9 (j10 : Nat → Value) (w11 : World), I7 t19_9 w11 →
  (V.sel (decide (t19_9 < ((list_1l : Nat) : Int)))
  (V.when (decide ((0 : Int) ≤ t19_9 ∧ (t19_9 : Int) < ((list_1l : Nat) : Int))) (V.ptr list_1 fun a12 =>
  ∃ s13, ∃ s14, V.cellsC (fun a_ x_ => World.cell? w11 a_ = some x_) (Addr.add a12 ((Int.toNat t19_9) * 2)) [(Value.string s13), (Value.string s14)] ∧
  ∀ w15, w15 = (World.alloc w11 (.cells #[(Value.string ByteArray.empty), (Value.string ByteArray.empty)] 27)) →
  ∃ w16, Sem.run Tryd.prog (Instr.storeAt 27 (Value.pointer (some ⟨Array.size (World.heap w11), 0, none⟩)) (Value.agg #[(Value.string s13), (Value.string s14)])) w15 = .ok () w16 ∧
  V.sel (decide (t19_9 > 0))
  (Calls Tryd.prog 38 #[(Value.pointer (some ⟨Array.size (World.heap w5), 0, none⟩)), (Value.int .u8 44)] w16 fun e18 w19 =>
  ∃ v17, e18 = Ending.returned v17 ∧
  ∃ s20, World.cell? w19 (Addr.add ⟨Array.size (World.heap w11), 0, none⟩ 0) = some (Value.string s20) ∧
  Calls Tryd.prog 39 #[(Value.pointer (some ⟨Array.size (World.heap w5), 0, none⟩)), (Value.string s20)] w19 fun e23 w24 =>
  ∃ n21, ∃ v22, e23 = Ending.returned (Value.tuple #[(Value.int .i64 n21), v22]) ∧
  Calls Tryd.prog 38 #[(Value.pointer (some ⟨Array.size (World.heap w5), 0, none⟩)), (Value.int .u8 61)] w24 fun e26 w27 =>
  ∃ v25, e26 = Ending.returned v25 ∧
  ∃ s28, World.cell? w27 (Addr.add ⟨Array.size (World.heap w11), 0, none⟩ 1) = some (Value.string s28) ∧
  Calls Tryd.prog 39 #[(Value.pointer (some ⟨Array.size (World.heap w5), 0, none⟩)), (Value.string s28)] w27 fun e31 w32 =>
  ∃ n29, ∃ v30, e31 = Ending.returned (Value.tuple #[(Value.int .i64 n29), v30]) ∧
  I7 (IntKind.wrap .i64 (t19_9 + 1)) w32 ∧ μ8 (IntKind.wrap .i64 (t19_9 + 1)) w32 < μ8 t19_9 w11)
  (∃ s33, World.cell? w16 (Addr.add ⟨Array.size (World.heap w11), 0, none⟩ 0) = some (Value.string s33) ∧
  Calls Tryd.prog 39 #[(Value.pointer (some ⟨Array.size (World.heap w5), 0, none⟩)), (Value.string s33)] w16 fun e36 w37 =>
  ∃ n34, ∃ v35, e36 = Ending.returned (Value.tuple #[(Value.int .i64 n34), v35]) ∧
  Calls Tryd.prog 38 #[(Value.pointer (some ⟨Array.size (World.heap w5), 0, none⟩)), (Value.int .u8 61)] w37 fun e39 w40 =>
  ∃ v38, e39 = Ending.returned v38 ∧
  ∃ s41, World.cell? w40 (Addr.add ⟨Array.size (World.heap w11), 0, none⟩ 1) = some (Value.string s41) ∧
  Calls Tryd.prog 39 #[(Value.pointer (some ⟨Array.size (World.heap w5), 0, none⟩)), (Value.string s41)] w40 fun e44 w45 =>
  ∃ n42, ∃ v43, e44 = Ending.returned (Value.tuple #[(Value.int .i64 n42), v43]) ∧
  I7 (IntKind.wrap .i64 (t19_9 + 1)) w45 ∧ μ8 (IntKind.wrap .i64 (t19_9 + 1)) w45 < μ8 t19_9 w11)))
  (Calls Tryd.prog 40 #[(Value.pointer (some ⟨Array.size (World.heap w5), 0, none⟩))] w11 fun e47 w48 =>
  ∃ s46, e47 = Ending.returned (Value.string s46) ∧
  R (Ending.returned (Value.tuple #[(Value.string s46), (Value.int .i64 0)])) w48)))) :
  Calls Tryd.prog 17 #[(Value.slice list_1 list_1l list_1c)] w R :=
  V.calls_of_R ⟨V.assoc [(0, [19])], V.assocP [], V.assocC [], V.assocS [], ⟨[], true⟩⟩ Tryd.func17 rfl (Eq.mp (by kernel_rfl) h)

theorem berthlaw03_same_nf (a_1 : Option Addr) (a_1l : Nat) (a_1c : Nat) (b_2 : Option Addr) (b_2l : Nat) (b_2c : Nat) (w : World) (R : Ending → World → Prop) (h :
  V.sel (((a_1l : Nat) : Int) != ((b_2l : Nat) : Int))
  (R (Ending.returned (Value.bool false)) w)
  (∃ I3 : Int → World → Prop, ∃ μ4 : Int → World → Nat, I3 0 w ∧
  ∀ i_5 (j6 : Nat → Value) (w7 : World), I3 i_5 w7 →
  (V.sel (decide (i_5 < ((a_1l : Nat) : Int)))
  (V.when (decide ((0 : Int) ≤ i_5 ∧ (i_5 : Int) < ((a_1l : Nat) : Int))) (V.ptr a_1 fun a8 =>
  ∃ s9, ∃ s10, V.cellsC (fun a_ x_ => World.cell? w7 a_ = some x_) (Addr.add a8 ((Int.toNat i_5) * 2)) [(Value.string s9), (Value.string s10)] ∧
  V.when (decide ((0 : Int) ≤ i_5 ∧ (i_5 : Int) < ((b_2l : Nat) : Int))) (V.ptr b_2 fun a11 =>
  ∃ s12, ∃ s13, V.cellsC (fun a_ x_ => World.cell? w7 a_ = some x_) (Addr.add a11 ((Int.toNat i_5) * 2)) [(Value.string s12), (Value.string s13)] ∧
  V.sel (!((ByteArray.toList s9 == ByteArray.toList s12) && ((ByteArray.toList s10 == ByteArray.toList s13) && true)))
  (R (Ending.returned (Value.bool false)) (World.drew w7))
  (I3 (IntKind.wrap .i64 (i_5 + 1)) (World.drew w7) ∧ μ4 (IntKind.wrap .i64 (i_5 + 1)) (World.drew w7) < μ4 i_5 w7))))
  (R (Ending.returned (Value.bool true)) w7)))) :
  Calls Tryd.prog 18 #[(Value.slice a_1 a_1l a_1c), (Value.slice b_2 b_2l b_2c)] w R :=
  V.calls_of_R ⟨V.assoc [(0, [5])], V.assocP [(6, V.line [0, 1, 2, 3, 4, 5, 6, 7, 8])], V.assocC [], V.assocS [], ⟨[], true⟩⟩ Tryd.func18 rfl (Eq.mp (by kernel_rfl) h)

theorem labels_Make_nf (list_1 : Option Addr) (list_1l : Nat) (list_1c : Nat) (w : World) (R : Ending → World → Prop) (h :
  V.sel (decide (((list_1l : Nat) : Int) > 32))
  (R (Ending.returned (Value.tuple #[(Value.slice none 0 0), (Value.string ByteArray.empty), (Value.int .i64 34)])) w)
  (∀ w2, w2 = (World.alloc w (.map #[] 0)) →
  ∃ I3 : Int → World → Prop, ∃ μ4 : Int → World → Nat, I3 0 w2 ∧
  ∀ t16_5 (j6 : Nat → Value) (w7 : World), I3 t16_5 w7 →
  (V.sel (decide (t16_5 < ((list_1l : Nat) : Int)))
  (V.when (decide ((0 : Int) ≤ t16_5 ∧ (t16_5 : Int) < ((list_1l : Nat) : Int))) (V.ptr list_1 fun a8 =>
  ∃ s9, ∃ s10, V.cellsC (fun a_ x_ => World.cell? w7 a_ = some x_) (Addr.add a8 ((Int.toNat t16_5) * 2)) [(Value.string s9), (Value.string s10)] ∧
  ∀ w11, w11 = (World.alloc w7 (.cells #[(Value.string ByteArray.empty), (Value.string ByteArray.empty)] 27)) →
  ∃ w12, Sem.run Tryd.prog (Instr.storeAt 27 (Value.pointer (some ⟨Array.size (World.heap w7), 0, none⟩)) (Value.agg #[(Value.string s9), (Value.string s10)])) w11 = .ok () w12 ∧
  ∃ s13, World.cell? w12 (Addr.add ⟨Array.size (World.heap w7), 0, none⟩ 0) = some (Value.string s13) ∧
  Calls Tryd.prog 24 #[(Value.string s13)] w12 fun e15 w16 =>
  ∃ b14, e15 = Ending.returned (Value.bool b14) ∧
  V.sel (!b14)
  (∃ s17, World.cell? w16 (Addr.add ⟨Array.size (World.heap w7), 0, none⟩ 0) = some (Value.string s17) ∧
  R (Ending.returned (Value.tuple #[(Value.slice none 0 0), (Value.string s17), (Value.int .i64 31)])) (World.drew w16))
  (∃ s18, World.cell? w16 (Addr.add ⟨Array.size (World.heap w7), 0, none⟩ 1) = some (Value.string s18) ∧
  Calls Tryd.prog 25 #[(Value.string s18)] w16 fun e20 w21 =>
  ∃ b19, e20 = Ending.returned (Value.bool b19) ∧
  V.sel (!b19)
  (∃ s22, World.cell? w21 (Addr.add ⟨Array.size (World.heap w7), 0, none⟩ 0) = some (Value.string s22) ∧
  R (Ending.returned (Value.tuple #[(Value.slice none 0 0), (Value.string s22), (Value.int .i64 32)])) (World.drew w21))
  (∃ s23, World.cell? w21 (Addr.add ⟨Array.size (World.heap w7), 0, none⟩ 0) = some (Value.string s23) ∧
  ∃ b24, ∃ w25, Sem.run Tryd.prog (Instr.lookup 80 (Value.map (some (Array.size (World.heap w)))) (Value.string s23) true) w21 = .ok (Value.tuple #[(Value.agg #[]), (Value.bool b24)]) w25 ∧
  ∀ w26, w26 = (World.alloc w25 (.cells #[] 81)) →
  ∃ w27, Sem.run Tryd.prog (Instr.storeAt 81 (Value.pointer (some ⟨Array.size (World.heap w25), 0, none⟩)) (Value.agg #[])) w26 = .ok () w27 ∧
  V.sel b24
  (∃ s28, World.cell? w27 (Addr.add ⟨Array.size (World.heap w7), 0, none⟩ 0) = some (Value.string s28) ∧
  R (Ending.returned (Value.tuple #[(Value.slice none 0 0), (Value.string s28), (Value.int .i64 33)])) (World.drew w27))
  (∃ s29, World.cell? w27 (Addr.add ⟨Array.size (World.heap w7), 0, none⟩ 0) = some (Value.string s29) ∧
  ∃ w30, Sem.run Tryd.prog (Instr.mapUpdate 80 (Value.map (some (Array.size (World.heap w)))) (Value.string s29) (Value.agg #[])) w27 = .ok () w30 ∧
  I3 (IntKind.wrap .i64 (t16_5 + 1)) w30 ∧ μ4 (IntKind.wrap .i64 (t16_5 + 1)) w30 < μ4 t16_5 w7)))))
  (Calls Tryd.prog 37 #[(Value.slice list_1 list_1l list_1c)] w7 fun e32 w33 =>
  ∃ A31, ∃ A31l, ∃ A31c, e32 = Ending.returned (Value.slice A31 A31l A31c) ∧
  R (Ending.returned (Value.tuple #[(Value.slice A31 A31l A31c), (Value.string ByteArray.empty), (Value.int .i64 0)])) w33)))) :
  Calls Tryd.prog 19 #[(Value.slice list_1 list_1l list_1c)] w R :=
  V.calls_of_R ⟨V.assoc [(0, [16])], V.assocP [(8, V.line [0, 1, 2, 3, 4]), (10, V.line [0, 1, 2, 3, 4]), (13, V.line [0, 1, 2, 3, 4])], V.assocC [], V.assocS [], ⟨[], true⟩⟩ Tryd.func19 rfl (Eq.mp (by kernel_rfl) h)

theorem labels_Get_nf (list_1 : Option Addr) (list_1l : Nat) (list_1c : Nat) (key_2 : ByteArray) (w : World) (R : Ending → World → Prop) (h :
  ∃ I3 : Int → World → Prop, ∃ μ4 : Int → World → Nat, I3 0 w ∧
  ∀ t10_5 (j6 : Nat → Value) (w7 : World), I3 t10_5 w7 →
  (V.sel (decide (t10_5 < ((list_1l : Nat) : Int)))
  (V.when (decide ((0 : Int) ≤ t10_5 ∧ (t10_5 : Int) < ((list_1l : Nat) : Int))) (V.ptr list_1 fun a8 =>
  ∃ s9, ∃ s10, V.cellsC (fun a_ x_ => World.cell? w7 a_ = some x_) (Addr.add a8 ((Int.toNat t10_5) * 2)) [(Value.string s9), (Value.string s10)] ∧
  ∀ w11, w11 = (World.alloc w7 (.cells #[(Value.string ByteArray.empty), (Value.string ByteArray.empty)] 27)) →
  ∃ w12, Sem.run Tryd.prog (Instr.storeAt 27 (Value.pointer (some ⟨Array.size (World.heap w7), 0, none⟩)) (Value.agg #[(Value.string s9), (Value.string s10)])) w11 = .ok () w12 ∧
  ∃ s13, World.cell? w12 (Addr.add ⟨Array.size (World.heap w7), 0, none⟩ 0) = some (Value.string s13) ∧
  V.sel (ByteArray.toList s13 == ByteArray.toList key_2)
  (∃ s14, World.cell? w12 (Addr.add ⟨Array.size (World.heap w7), 0, none⟩ 1) = some (Value.string s14) ∧
  R (Ending.returned (Value.tuple #[(Value.string s14), (Value.bool true)])) w12)
  (I3 (IntKind.wrap .i64 (t10_5 + 1)) w12 ∧ μ4 (IntKind.wrap .i64 (t10_5 + 1)) w12 < μ4 t10_5 w7)))
  (R (Ending.returned (Value.tuple #[(Value.string ByteArray.empty), (Value.bool false)])) w7))) :
  Calls Tryd.prog 20 #[(Value.slice list_1 list_1l list_1c), (Value.string key_2)] w R :=
  V.calls_of_R ⟨V.assoc [(0, [10])], V.assocP [], V.assocC [], V.assocS [], ⟨[], true⟩⟩ Tryd.func20 rfl (Eq.mp (by kernel_rfl) h)

theorem labels_Patch_nf (list_1 : Option Addr) (list_1l : Nat) (list_1c : Nat) (diffs_2 : Option Addr) (diffs_2l : Nat) (diffs_2c : Nat) (w : World) (R : Ending → World → Prop) (h :
  Calls Tryd.prog 27 #[(Value.slice list_1 list_1l list_1c)] w fun e5 w6 =>
  ∃ n3, ∃ n4, e5 = Ending.returned (Value.tuple #[(Value.int .i64 n3), (Value.int .i64 n4)]) ∧
  V.sel (n4 != 0)
  (R (Ending.returned (Value.tuple #[(Value.slice none 0 0), (Value.int .i64 n4)])) w6)
  (Calls Tryd.prog 41 #[(Value.slice list_1 list_1l list_1c)] w6 fun e8 w9 =>
  ∃ A7, ∃ A7l, ∃ A7c, e8 = Ending.returned (Value.slice A7 A7l A7c) ∧
  ∃ I10 : Option Addr → Nat → Nat → Int → World → Prop, ∃ μ11 : Option Addr → Nat → Nat → Int → World → Nat, I10 A7 A7l A7c 0 w9 ∧
  ∀ out_12 out_12l out_12c t24_13 (j14 : Nat → Value) (w15 : World), I10 out_12 out_12l out_12c t24_13 w15 →
  (V.sel (decide (t24_13 < ((diffs_2l : Nat) : Int)))
  (V.when (decide ((0 : Int) ≤ t24_13 ∧ (t24_13 : Int) < ((diffs_2l : Nat) : Int))) (V.ptr diffs_2 fun a16 =>
  ∃ s17, ∃ s18, ∃ s19, ∃ b20, ∃ b21, V.cellsC (fun a_ x_ => World.cell? w15 a_ = some x_) (Addr.add a16 ((Int.toNat t24_13) * 5)) [(Value.string s17), (Value.string s18), (Value.string s19), (Value.bool b20), (Value.bool b21)] ∧
  ∀ w22, w22 = (World.alloc w15 (.cells #[(Value.string ByteArray.empty), (Value.string ByteArray.empty), (Value.string ByteArray.empty), (Value.bool false), (Value.bool false)] 35)) →
  ∃ w23, Sem.run Tryd.prog (Instr.storeAt 35 (Value.pointer (some ⟨Array.size (World.heap w15), 0, none⟩)) (Value.agg #[(Value.string s17), (Value.string s18), (Value.string s19), (Value.bool b20), (Value.bool b21)])) w22 = .ok () w23 ∧
  ∃ s24, World.cell? w23 (Addr.add ⟨Array.size (World.heap w15), 0, none⟩ 0) = some (Value.string s24) ∧
  Calls Tryd.prog 24 #[(Value.string s24)] w23 fun e26 w27 =>
  ∃ b25, e26 = Ending.returned (Value.bool b25) ∧
  V.sel (!b25)
  (R (Ending.returned (Value.tuple #[(Value.slice none 0 0), (Value.int .i64 31)])) w27)
  (V.sel (decide (t24_13 > 0))
  (∃ s28, World.cell? w27 (Addr.add ⟨Array.size (World.heap w15), 0, none⟩ 0) = some (Value.string s28) ∧
  V.when (decide ((0 : Int) ≤ (IntKind.wrap .i64 (t24_13 - 1)) ∧ ((IntKind.wrap .i64 (t24_13 - 1)) : Int) < ((diffs_2l : Nat) : Int))) (V.ptr diffs_2 fun a29 =>
  ∃ s30, World.cell? w27 (Addr.add (Addr.add a29 ((Int.toNat (IntKind.wrap .i64 (t24_13 - 1))) * 5)) 0) = some (Value.string s30) ∧
  V.sel (ByteArray.toList s28 == ByteArray.toList s30)
  (R (Ending.returned (Value.tuple #[(Value.slice none 0 0), (Value.int .i64 33)])) (World.drew w27))
  (V.sel (decide (t24_13 > 0))
  (∃ s31, World.cell? (World.drew w27) (Addr.add ⟨Array.size (World.heap w15), 0, none⟩ 0) = some (Value.string s31) ∧
  V.when (decide ((0 : Int) ≤ (IntKind.wrap .i64 (t24_13 - 1)) ∧ ((IntKind.wrap .i64 (t24_13 - 1)) : Int) < ((diffs_2l : Nat) : Int))) (V.ptr diffs_2 fun a32 =>
  ∃ s33, World.cell? (World.drew w27) (Addr.add (Addr.add a32 ((Int.toNat (IntKind.wrap .i64 (t24_13 - 1))) * 5)) 0) = some (Value.string s33) ∧
  V.sel (Op.bytesLess (ByteArray.toList s31) (ByteArray.toList s33))
  (R (Ending.returned (Value.tuple #[(Value.slice none 0 0), (Value.int .i64 36)])) (World.drew (World.drew w27)))
  (∃ s34, ∃ s35, ∃ s36, ∃ b37, ∃ b38, V.cellsC (fun a_ x_ => World.cell? (World.drew (World.drew w27)) a_ = some x_) ⟨Array.size (World.heap w15), 0, none⟩ [(Value.string s34), (Value.string s35), (Value.string s36), (Value.bool b37), (Value.bool b38)] ∧
  Calls Tryd.prog 42 #[(Value.slice list_1 list_1l list_1c), (Value.agg #[(Value.string s34), (Value.string s35), (Value.string s36), (Value.bool b37), (Value.bool b38)])] (World.drew (World.drew w27)) fun e40 w41 =>
  ∃ n39, e40 = Ending.returned (Value.int .i64 n39) ∧
  V.sel (n39 != 0)
  (R (Ending.returned (Value.tuple #[(Value.slice none 0 0), (Value.int .i64 n39)])) w41)
  (∃ b42, World.cell? w41 (Addr.add ⟨Array.size (World.heap w15), 0, none⟩ 3) = some (Value.bool b42) ∧
  V.sel b42
  (∃ s43, World.cell? w41 (Addr.add ⟨Array.size (World.heap w15), 0, none⟩ 0) = some (Value.string s43) ∧
  Calls Tryd.prog 26 #[(Value.slice out_12 out_12l out_12c), (Value.string s43)] w41 fun e46 w47 =>
  ∃ A44, ∃ A44l, ∃ A44c, ∃ b45, e46 = Ending.returned (Value.tuple #[(Value.slice A44 A44l A44c), (Value.bool b45)]) ∧
  ∃ b48, World.cell? w47 (Addr.add ⟨Array.size (World.heap w15), 0, none⟩ 4) = some (Value.bool b48) ∧
  V.sel b48
  (∃ s49, World.cell? w47 (Addr.add ⟨Array.size (World.heap w15), 0, none⟩ 0) = some (Value.string s49) ∧
  ∃ s50, World.cell? w47 (Addr.add ⟨Array.size (World.heap w15), 0, none⟩ 2) = some (Value.string s50) ∧
  ∀ w51, w51 = (World.alloc w47 (.cells #[(Value.string s49), (Value.string s50)] 27)) →
  ∃ A52, ∃ A52l, ∃ A52c, ∃ w53, Sem.run Tryd.prog (Builtin.append_ #[22, 22] 22 #[(Value.slice A44 A44l A44c), (Value.slice (some ⟨Array.size (World.heap w47), 0, none⟩) 1 1)]) w51 = .ok (Value.slice A52 A52l A52c) w53 ∧
  I10 A52 A52l A52c (IntKind.wrap .i64 (t24_13 + 1)) w53 ∧ μ11 A52 A52l A52c (IntKind.wrap .i64 (t24_13 + 1)) w53 < μ11 out_12 out_12l out_12c t24_13 w15)
  (I10 A44 A44l A44c (IntKind.wrap .i64 (t24_13 + 1)) w47 ∧ μ11 A44 A44l A44c (IntKind.wrap .i64 (t24_13 + 1)) w47 < μ11 out_12 out_12l out_12c t24_13 w15))
  (∃ b54, World.cell? w41 (Addr.add ⟨Array.size (World.heap w15), 0, none⟩ 4) = some (Value.bool b54) ∧
  V.sel b54
  (∃ s55, World.cell? w41 (Addr.add ⟨Array.size (World.heap w15), 0, none⟩ 0) = some (Value.string s55) ∧
  ∃ s56, World.cell? w41 (Addr.add ⟨Array.size (World.heap w15), 0, none⟩ 2) = some (Value.string s56) ∧
  ∀ w57, w57 = (World.alloc w41 (.cells #[(Value.string s55), (Value.string s56)] 27)) →
  ∃ A58, ∃ A58l, ∃ A58c, ∃ w59, Sem.run Tryd.prog (Builtin.append_ #[22, 22] 22 #[(Value.slice out_12 out_12l out_12c), (Value.slice (some ⟨Array.size (World.heap w41), 0, none⟩) 1 1)]) w57 = .ok (Value.slice A58 A58l A58c) w59 ∧
  I10 A58 A58l A58c (IntKind.wrap .i64 (t24_13 + 1)) w59 ∧ μ11 A58 A58l A58c (IntKind.wrap .i64 (t24_13 + 1)) w59 < μ11 out_12 out_12l out_12c t24_13 w15)
  (I10 out_12 out_12l out_12c (IntKind.wrap .i64 (t24_13 + 1)) w41 ∧ μ11 out_12 out_12l out_12c (IntKind.wrap .i64 (t24_13 + 1)) w41 < μ11 out_12 out_12l out_12c t24_13 w15))))))
  (∃ s60, ∃ s61, ∃ s62, ∃ b63, ∃ b64, V.cellsC (fun a_ x_ => World.cell? (World.drew (World.drew w27)) a_ = some x_) ⟨Array.size (World.heap w15), 0, none⟩ [(Value.string s60), (Value.string s61), (Value.string s62), (Value.bool b63), (Value.bool b64)] ∧
  Calls Tryd.prog 42 #[(Value.slice list_1 list_1l list_1c), (Value.agg #[(Value.string s60), (Value.string s61), (Value.string s62), (Value.bool b63), (Value.bool b64)])] (World.drew (World.drew w27)) fun e66 w67 =>
  ∃ n65, e66 = Ending.returned (Value.int .i64 n65) ∧
  V.sel (n65 != 0)
  (R (Ending.returned (Value.tuple #[(Value.slice none 0 0), (Value.int .i64 n65)])) w67)
  (∃ b68, World.cell? w67 (Addr.add ⟨Array.size (World.heap w15), 0, none⟩ 3) = some (Value.bool b68) ∧
  V.sel b68
  (∃ s69, World.cell? w67 (Addr.add ⟨Array.size (World.heap w15), 0, none⟩ 0) = some (Value.string s69) ∧
  Calls Tryd.prog 26 #[(Value.slice out_12 out_12l out_12c), (Value.string s69)] w67 fun e72 w73 =>
  ∃ A70, ∃ A70l, ∃ A70c, ∃ b71, e72 = Ending.returned (Value.tuple #[(Value.slice A70 A70l A70c), (Value.bool b71)]) ∧
  ∃ b74, World.cell? w73 (Addr.add ⟨Array.size (World.heap w15), 0, none⟩ 4) = some (Value.bool b74) ∧
  V.sel b74
  (∃ s75, World.cell? w73 (Addr.add ⟨Array.size (World.heap w15), 0, none⟩ 0) = some (Value.string s75) ∧
  ∃ s76, World.cell? w73 (Addr.add ⟨Array.size (World.heap w15), 0, none⟩ 2) = some (Value.string s76) ∧
  ∀ w77, w77 = (World.alloc w73 (.cells #[(Value.string s75), (Value.string s76)] 27)) →
  ∃ A78, ∃ A78l, ∃ A78c, ∃ w79, Sem.run Tryd.prog (Builtin.append_ #[22, 22] 22 #[(Value.slice A70 A70l A70c), (Value.slice (some ⟨Array.size (World.heap w73), 0, none⟩) 1 1)]) w77 = .ok (Value.slice A78 A78l A78c) w79 ∧
  I10 A78 A78l A78c (IntKind.wrap .i64 (t24_13 + 1)) w79 ∧ μ11 A78 A78l A78c (IntKind.wrap .i64 (t24_13 + 1)) w79 < μ11 out_12 out_12l out_12c t24_13 w15)
  (I10 A70 A70l A70c (IntKind.wrap .i64 (t24_13 + 1)) w73 ∧ μ11 A70 A70l A70c (IntKind.wrap .i64 (t24_13 + 1)) w73 < μ11 out_12 out_12l out_12c t24_13 w15))
  (∃ b80, World.cell? w67 (Addr.add ⟨Array.size (World.heap w15), 0, none⟩ 4) = some (Value.bool b80) ∧
  V.sel b80
  (∃ s81, World.cell? w67 (Addr.add ⟨Array.size (World.heap w15), 0, none⟩ 0) = some (Value.string s81) ∧
  ∃ s82, World.cell? w67 (Addr.add ⟨Array.size (World.heap w15), 0, none⟩ 2) = some (Value.string s82) ∧
  ∀ w83, w83 = (World.alloc w67 (.cells #[(Value.string s81), (Value.string s82)] 27)) →
  ∃ A84, ∃ A84l, ∃ A84c, ∃ w85, Sem.run Tryd.prog (Builtin.append_ #[22, 22] 22 #[(Value.slice out_12 out_12l out_12c), (Value.slice (some ⟨Array.size (World.heap w67), 0, none⟩) 1 1)]) w83 = .ok (Value.slice A84 A84l A84c) w85 ∧
  I10 A84 A84l A84c (IntKind.wrap .i64 (t24_13 + 1)) w85 ∧ μ11 A84 A84l A84c (IntKind.wrap .i64 (t24_13 + 1)) w85 < μ11 out_12 out_12l out_12c t24_13 w15)
  (I10 out_12 out_12l out_12c (IntKind.wrap .i64 (t24_13 + 1)) w67 ∧ μ11 out_12 out_12l out_12c (IntKind.wrap .i64 (t24_13 + 1)) w67 < μ11 out_12 out_12l out_12c t24_13 w15)))))))
  (V.sel (decide (t24_13 > 0))
  (∃ s86, World.cell? (World.drew w27) (Addr.add ⟨Array.size (World.heap w15), 0, none⟩ 0) = some (Value.string s86) ∧
  V.when (decide ((0 : Int) ≤ (IntKind.wrap .i64 (t24_13 - 1)) ∧ ((IntKind.wrap .i64 (t24_13 - 1)) : Int) < ((diffs_2l : Nat) : Int))) (V.ptr diffs_2 fun a87 =>
  ∃ s88, World.cell? (World.drew w27) (Addr.add (Addr.add a87 ((Int.toNat (IntKind.wrap .i64 (t24_13 - 1))) * 5)) 0) = some (Value.string s88) ∧
  V.sel (Op.bytesLess (ByteArray.toList s86) (ByteArray.toList s88))
  (R (Ending.returned (Value.tuple #[(Value.slice none 0 0), (Value.int .i64 36)])) (World.drew (World.drew w27)))
  (∃ s89, ∃ s90, ∃ s91, ∃ b92, ∃ b93, V.cellsC (fun a_ x_ => World.cell? (World.drew (World.drew w27)) a_ = some x_) ⟨Array.size (World.heap w15), 0, none⟩ [(Value.string s89), (Value.string s90), (Value.string s91), (Value.bool b92), (Value.bool b93)] ∧
  Calls Tryd.prog 42 #[(Value.slice list_1 list_1l list_1c), (Value.agg #[(Value.string s89), (Value.string s90), (Value.string s91), (Value.bool b92), (Value.bool b93)])] (World.drew (World.drew w27)) fun e95 w96 =>
  ∃ n94, e95 = Ending.returned (Value.int .i64 n94) ∧
  V.sel (n94 != 0)
  (R (Ending.returned (Value.tuple #[(Value.slice none 0 0), (Value.int .i64 n94)])) w96)
  (∃ b97, World.cell? w96 (Addr.add ⟨Array.size (World.heap w15), 0, none⟩ 3) = some (Value.bool b97) ∧
  V.sel b97
  (∃ s98, World.cell? w96 (Addr.add ⟨Array.size (World.heap w15), 0, none⟩ 0) = some (Value.string s98) ∧
  Calls Tryd.prog 26 #[(Value.slice out_12 out_12l out_12c), (Value.string s98)] w96 fun e101 w102 =>
  ∃ A99, ∃ A99l, ∃ A99c, ∃ b100, e101 = Ending.returned (Value.tuple #[(Value.slice A99 A99l A99c), (Value.bool b100)]) ∧
  ∃ b103, World.cell? w102 (Addr.add ⟨Array.size (World.heap w15), 0, none⟩ 4) = some (Value.bool b103) ∧
  V.sel b103
  (∃ s104, World.cell? w102 (Addr.add ⟨Array.size (World.heap w15), 0, none⟩ 0) = some (Value.string s104) ∧
  ∃ s105, World.cell? w102 (Addr.add ⟨Array.size (World.heap w15), 0, none⟩ 2) = some (Value.string s105) ∧
  ∀ w106, w106 = (World.alloc w102 (.cells #[(Value.string s104), (Value.string s105)] 27)) →
  ∃ A107, ∃ A107l, ∃ A107c, ∃ w108, Sem.run Tryd.prog (Builtin.append_ #[22, 22] 22 #[(Value.slice A99 A99l A99c), (Value.slice (some ⟨Array.size (World.heap w102), 0, none⟩) 1 1)]) w106 = .ok (Value.slice A107 A107l A107c) w108 ∧
  I10 A107 A107l A107c (IntKind.wrap .i64 (t24_13 + 1)) w108 ∧ μ11 A107 A107l A107c (IntKind.wrap .i64 (t24_13 + 1)) w108 < μ11 out_12 out_12l out_12c t24_13 w15)
  (I10 A99 A99l A99c (IntKind.wrap .i64 (t24_13 + 1)) w102 ∧ μ11 A99 A99l A99c (IntKind.wrap .i64 (t24_13 + 1)) w102 < μ11 out_12 out_12l out_12c t24_13 w15))
  (∃ b109, World.cell? w96 (Addr.add ⟨Array.size (World.heap w15), 0, none⟩ 4) = some (Value.bool b109) ∧
  V.sel b109
  (∃ s110, World.cell? w96 (Addr.add ⟨Array.size (World.heap w15), 0, none⟩ 0) = some (Value.string s110) ∧
  ∃ s111, World.cell? w96 (Addr.add ⟨Array.size (World.heap w15), 0, none⟩ 2) = some (Value.string s111) ∧
  ∀ w112, w112 = (World.alloc w96 (.cells #[(Value.string s110), (Value.string s111)] 27)) →
  ∃ A113, ∃ A113l, ∃ A113c, ∃ w114, Sem.run Tryd.prog (Builtin.append_ #[22, 22] 22 #[(Value.slice out_12 out_12l out_12c), (Value.slice (some ⟨Array.size (World.heap w96), 0, none⟩) 1 1)]) w112 = .ok (Value.slice A113 A113l A113c) w114 ∧
  I10 A113 A113l A113c (IntKind.wrap .i64 (t24_13 + 1)) w114 ∧ μ11 A113 A113l A113c (IntKind.wrap .i64 (t24_13 + 1)) w114 < μ11 out_12 out_12l out_12c t24_13 w15)
  (I10 out_12 out_12l out_12c (IntKind.wrap .i64 (t24_13 + 1)) w96 ∧ μ11 out_12 out_12l out_12c (IntKind.wrap .i64 (t24_13 + 1)) w96 < μ11 out_12 out_12l out_12c t24_13 w15))))))
  (∃ s115, ∃ s116, ∃ s117, ∃ b118, ∃ b119, V.cellsC (fun a_ x_ => World.cell? (World.drew (World.drew w27)) a_ = some x_) ⟨Array.size (World.heap w15), 0, none⟩ [(Value.string s115), (Value.string s116), (Value.string s117), (Value.bool b118), (Value.bool b119)] ∧
  Calls Tryd.prog 42 #[(Value.slice list_1 list_1l list_1c), (Value.agg #[(Value.string s115), (Value.string s116), (Value.string s117), (Value.bool b118), (Value.bool b119)])] (World.drew (World.drew w27)) fun e121 w122 =>
  ∃ n120, e121 = Ending.returned (Value.int .i64 n120) ∧
  V.sel (n120 != 0)
  (R (Ending.returned (Value.tuple #[(Value.slice none 0 0), (Value.int .i64 n120)])) w122)
  (∃ b123, World.cell? w122 (Addr.add ⟨Array.size (World.heap w15), 0, none⟩ 3) = some (Value.bool b123) ∧
  V.sel b123
  (∃ s124, World.cell? w122 (Addr.add ⟨Array.size (World.heap w15), 0, none⟩ 0) = some (Value.string s124) ∧
  Calls Tryd.prog 26 #[(Value.slice out_12 out_12l out_12c), (Value.string s124)] w122 fun e127 w128 =>
  ∃ A125, ∃ A125l, ∃ A125c, ∃ b126, e127 = Ending.returned (Value.tuple #[(Value.slice A125 A125l A125c), (Value.bool b126)]) ∧
  ∃ b129, World.cell? w128 (Addr.add ⟨Array.size (World.heap w15), 0, none⟩ 4) = some (Value.bool b129) ∧
  V.sel b129
  (∃ s130, World.cell? w128 (Addr.add ⟨Array.size (World.heap w15), 0, none⟩ 0) = some (Value.string s130) ∧
  ∃ s131, World.cell? w128 (Addr.add ⟨Array.size (World.heap w15), 0, none⟩ 2) = some (Value.string s131) ∧
  ∀ w132, w132 = (World.alloc w128 (.cells #[(Value.string s130), (Value.string s131)] 27)) →
  ∃ A133, ∃ A133l, ∃ A133c, ∃ w134, Sem.run Tryd.prog (Builtin.append_ #[22, 22] 22 #[(Value.slice A125 A125l A125c), (Value.slice (some ⟨Array.size (World.heap w128), 0, none⟩) 1 1)]) w132 = .ok (Value.slice A133 A133l A133c) w134 ∧
  I10 A133 A133l A133c (IntKind.wrap .i64 (t24_13 + 1)) w134 ∧ μ11 A133 A133l A133c (IntKind.wrap .i64 (t24_13 + 1)) w134 < μ11 out_12 out_12l out_12c t24_13 w15)
  (I10 A125 A125l A125c (IntKind.wrap .i64 (t24_13 + 1)) w128 ∧ μ11 A125 A125l A125c (IntKind.wrap .i64 (t24_13 + 1)) w128 < μ11 out_12 out_12l out_12c t24_13 w15))
  (∃ b135, World.cell? w122 (Addr.add ⟨Array.size (World.heap w15), 0, none⟩ 4) = some (Value.bool b135) ∧
  V.sel b135
  (∃ s136, World.cell? w122 (Addr.add ⟨Array.size (World.heap w15), 0, none⟩ 0) = some (Value.string s136) ∧
  ∃ s137, World.cell? w122 (Addr.add ⟨Array.size (World.heap w15), 0, none⟩ 2) = some (Value.string s137) ∧
  ∀ w138, w138 = (World.alloc w122 (.cells #[(Value.string s136), (Value.string s137)] 27)) →
  ∃ A139, ∃ A139l, ∃ A139c, ∃ w140, Sem.run Tryd.prog (Builtin.append_ #[22, 22] 22 #[(Value.slice out_12 out_12l out_12c), (Value.slice (some ⟨Array.size (World.heap w122), 0, none⟩) 1 1)]) w138 = .ok (Value.slice A139 A139l A139c) w140 ∧
  I10 A139 A139l A139c (IntKind.wrap .i64 (t24_13 + 1)) w140 ∧ μ11 A139 A139l A139c (IntKind.wrap .i64 (t24_13 + 1)) w140 < μ11 out_12 out_12l out_12c t24_13 w15)
  (I10 out_12 out_12l out_12c (IntKind.wrap .i64 (t24_13 + 1)) w122 ∧ μ11 out_12 out_12l out_12c (IntKind.wrap .i64 (t24_13 + 1)) w122 < μ11 out_12 out_12l out_12c t24_13 w15))))))))
  (V.sel (decide (((out_12l : Nat) : Int) > 32))
  (R (Ending.returned (Value.tuple #[(Value.slice none 0 0), (Value.int .i64 34)])) w15)
  (Calls Tryd.prog 37 #[(Value.slice out_12 out_12l out_12c)] w15 fun e142 w143 =>
  ∃ A141, ∃ A141l, ∃ A141c, e142 = Ending.returned (Value.slice A141 A141l A141c) ∧
  R (Ending.returned (Value.tuple #[(Value.slice A141 A141l A141c), (Value.int .i64 0)])) w143))))) :
  Calls Tryd.prog 21 #[(Value.slice list_1 list_1l list_1c), (Value.slice diffs_2 diffs_2l diffs_2c)] w R :=
  V.calls_of_R ⟨V.assoc [(0, [8, 24])], V.assocP [(10, V.line [0, 1, 2, 3, 4, 5, 6, 7, 8, 9, 10, 11, 12]), (12, V.line [0, 1, 2, 3, 4, 5, 6, 7, 8, 9, 10, 11, 12])], V.assocC [], V.assocS [], ⟨[], true⟩⟩ Tryd.func21 rfl (Eq.mp (by kernel_rfl) h)

theorem berthlaw03_back_nf (ds_1 : Option Addr) (ds_1l : Nat) (ds_1c : Nat) (w : World) (R : Ending → World → Prop) (h :
  ∃ I2 : Option Addr → Nat → Nat → Int → World → Prop, ∃ μ3 : Option Addr → Nat → Nat → Int → World → Nat, I2 none 0 0 0 w ∧
  ∀ out_4 out_4l out_4c i_5 (j6 : Nat → Value) (w7 : World), I2 out_4 out_4l out_4c i_5 w7 →
  (V.sel (decide (i_5 < ((ds_1l : Nat) : Int)))
  (V.when (decide ((0 : Int) ≤ i_5 ∧ (i_5 : Int) < ((ds_1l : Nat) : Int))) (V.ptr ds_1 fun a8 =>
  ∃ s9, ∃ s10, ∃ s11, ∃ b12, ∃ b13, V.cellsC (fun a_ x_ => World.cell? w7 a_ = some x_) (Addr.add a8 ((Int.toNat i_5) * 5)) [(Value.string s9), (Value.string s10), (Value.string s11), (Value.bool b12), (Value.bool b13)] ∧
  ∀ w14, w14 = (World.alloc w7 (.cells #[(Value.string ByteArray.empty), (Value.string ByteArray.empty), (Value.string ByteArray.empty), (Value.bool false), (Value.bool false)] 35)) →
  ∃ w15, Sem.run Tryd.prog (Instr.storeAt 35 (Value.pointer (some ⟨Array.size (World.heap w7), 0, none⟩)) (Value.agg #[(Value.string s9), (Value.string s10), (Value.string s11), (Value.bool b12), (Value.bool b13)])) w14 = .ok () w15 ∧
  ∃ s16, World.cell? w15 (Addr.add ⟨Array.size (World.heap w7), 0, none⟩ 0) = some (Value.string s16) ∧
  ∃ s17, World.cell? w15 (Addr.add ⟨Array.size (World.heap w7), 0, none⟩ 2) = some (Value.string s17) ∧
  ∃ s18, World.cell? w15 (Addr.add ⟨Array.size (World.heap w7), 0, none⟩ 1) = some (Value.string s18) ∧
  ∃ b19, World.cell? w15 (Addr.add ⟨Array.size (World.heap w7), 0, none⟩ 4) = some (Value.bool b19) ∧
  ∃ b20, World.cell? w15 (Addr.add ⟨Array.size (World.heap w7), 0, none⟩ 3) = some (Value.bool b20) ∧
  ∀ w21, w21 = (World.alloc w15 (.cells #[(Value.string s16), (Value.string s17), (Value.string s18), (Value.bool b19), (Value.bool b20)] 35)) →
  ∃ A22, ∃ A22l, ∃ A22c, ∃ w23, Sem.run Tryd.prog (Builtin.append_ #[24, 24] 24 #[(Value.slice out_4 out_4l out_4c), (Value.slice (some ⟨Array.size (World.heap w15), 0, none⟩) 1 1)]) w21 = .ok (Value.slice A22 A22l A22c) w23 ∧
  I2 A22 A22l A22c (IntKind.wrap .i64 (i_5 + 1)) w23 ∧ μ3 A22 A22l A22c (IntKind.wrap .i64 (i_5 + 1)) w23 < μ3 out_4 out_4l out_4c i_5 w7))
  (R (Ending.returned (Value.slice out_4 out_4l out_4c)) w7))) :
  Calls Tryd.prog 22 #[(Value.slice ds_1 ds_1l ds_1c)] w R :=
  V.calls_of_R ⟨V.assoc [(0, [3, 4])], V.assocP [], V.assocC [], V.assocS [], ⟨[], true⟩⟩ Tryd.func22 rfl (Eq.mp (by kernel_rfl) h)

theorem labels_Put_nf (list_1 : Option Addr) (list_1l : Nat) (list_1c : Nat) (key_2 : ByteArray) (value_3 : ByteArray) (w : World) (R : Ending → World → Prop) (h :
  Calls Tryd.prog 27 #[(Value.slice list_1 list_1l list_1c)] w fun e6 w7 =>
  ∃ n4, ∃ n5, e6 = Ending.returned (Value.tuple #[(Value.int .i64 n4), (Value.int .i64 n5)]) ∧
  V.sel (n5 != 0)
  (R (Ending.returned (Value.tuple #[(Value.slice none 0 0), (Value.int .i64 n5)])) w7)
  (Calls Tryd.prog 24 #[(Value.string key_2)] w7 fun e9 w10 =>
  ∃ b8, e9 = Ending.returned (Value.bool b8) ∧
  V.sel (!b8)
  (R (Ending.returned (Value.tuple #[(Value.slice none 0 0), (Value.int .i64 31)])) w10)
  (Calls Tryd.prog 25 #[(Value.string value_3)] w10 fun e12 w13 =>
  ∃ b11, e12 = Ending.returned (Value.bool b11) ∧
  V.sel (!b11)
  (R (Ending.returned (Value.tuple #[(Value.slice none 0 0), (Value.int .i64 32)])) w13)
  (Calls Tryd.prog 26 #[(Value.slice list_1 list_1l list_1c), (Value.string key_2)] w13 fun e16 w17 =>
  ∃ A14, ∃ A14l, ∃ A14c, ∃ b15, e16 = Ending.returned (Value.tuple #[(Value.slice A14 A14l A14c), (Value.bool b15)]) ∧
  V.sel (!b15)
  (V.sel (((list_1l : Nat) : Int) == 32)
  (R (Ending.returned (Value.tuple #[(Value.slice none 0 0), (Value.int .i64 34)])) w17)
  (∀ w18, w18 = (World.alloc w17 (.cells #[(Value.string key_2), (Value.string value_3)] 27)) →
  ∃ A19, ∃ A19l, ∃ A19c, ∃ w20, Sem.run Tryd.prog (Builtin.append_ #[22, 22] 22 #[(Value.slice A14 A14l A14c), (Value.slice (some ⟨Array.size (World.heap w17), 0, none⟩) 1 1)]) w18 = .ok (Value.slice A19 A19l A19c) w20 ∧
  Calls Tryd.prog 37 #[(Value.slice A19 A19l A19c)] w20 fun e22 w23 =>
  ∃ A21, ∃ A21l, ∃ A21c, e22 = Ending.returned (Value.slice A21 A21l A21c) ∧
  R (Ending.returned (Value.tuple #[(Value.slice A21 A21l A21c), (Value.int .i64 0)])) w23))
  (∀ w24, w24 = (World.alloc w17 (.cells #[(Value.string key_2), (Value.string value_3)] 27)) →
  ∃ A25, ∃ A25l, ∃ A25c, ∃ w26, Sem.run Tryd.prog (Builtin.append_ #[22, 22] 22 #[(Value.slice A14 A14l A14c), (Value.slice (some ⟨Array.size (World.heap w17), 0, none⟩) 1 1)]) w24 = .ok (Value.slice A25 A25l A25c) w26 ∧
  Calls Tryd.prog 37 #[(Value.slice A25 A25l A25c)] w26 fun e28 w29 =>
  ∃ A27, ∃ A27l, ∃ A27c, e28 = Ending.returned (Value.slice A27 A27l A27c) ∧
  R (Ending.returned (Value.tuple #[(Value.slice A27 A27l A27c), (Value.int .i64 0)])) w29))))) :
  Calls Tryd.prog 23 #[(Value.slice list_1 list_1l list_1c), (Value.string key_2), (Value.string value_3)] w R :=
  V.calls_of_R ⟨V.assoc [], V.assocP [], V.assocC [], V.assocS [], ⟨[], true⟩⟩ Tryd.func23 rfl (Eq.mp (by kernel_rfl) h)

theorem labels_IsKey_nf (s_1 : ByteArray) (w : World) (R : Ending → World → Prop) (h :
  Calls Tryd.prog 36 #[(Value.string s_1), (Value.string ⟨#[47]⟩)] w fun e5 w6 =>
  ∃ s2, ∃ s3, ∃ b4, e5 = Ending.returned (Value.tuple #[(Value.string s2), (Value.string s3), (Value.bool b4)]) ∧
  V.sel b4
  (Calls Tryd.prog 43 #[(Value.string s2)] w6 fun e8 w9 =>
  ∃ b7, e8 = Ending.returned (Value.bool b7) ∧
  V.sel b7
  (Calls Tryd.prog 44 #[(Value.string s3)] w9 fun e11 w12 =>
  ∃ b10, e11 = Ending.returned (Value.bool b10) ∧
  R (Ending.returned (Value.bool b10)) w12)
  (R (Ending.returned (Value.bool false)) w9))
  (Calls Tryd.prog 44 #[(Value.string s_1)] w6 fun e14 w15 =>
  ∃ b13, e14 = Ending.returned (Value.bool b13) ∧
  R (Ending.returned (Value.bool b13)) w15)) :
  Calls Tryd.prog 24 #[(Value.string s_1)] w R :=
  V.calls_of_R ⟨V.assoc [], V.assocP [], V.assocC [], V.assocS [], ⟨[], true⟩⟩ Tryd.func24 rfl (Eq.mp (by kernel_rfl) h)

theorem labels_IsValue_nf (s_1 : ByteArray) (w : World) (R : Ending → World → Prop) (h :
  V.sel (ByteArray.toList s_1 == ByteArray.toList ByteArray.empty)
  (R (Ending.returned (Value.bool true)) w)
  (V.sel (decide (((ByteArray.size s_1 : Nat) : Int) > 63))
  (R (Ending.returned (Value.bool false)) w)
  (V.when (decide ((0 : Int) ≤ (IntKind.wrap .i64 (((ByteArray.size s_1 : Nat) : Int) - 1)) ∧ ((IntKind.wrap .i64 (((ByteArray.size s_1 : Nat) : Int) - 1)) : Int) < ((ByteArray.size s_1 : Nat) : Int))) (Calls Tryd.prog 45 #[(Value.int .u8 (V.byteAt s_1 (IntKind.wrap .i64 (((ByteArray.size s_1 : Nat) : Int) - 1))))] w fun e3 w4 =>
  ∃ b2, e3 = Ending.returned (Value.bool b2) ∧
  V.sel (!b2)
  (R (Ending.returned (Value.bool false)) w4)
  (V.when (decide ((0 : Int) ≤ 0 ∧ (0 : Int) < ((ByteArray.size s_1 : Nat) : Int))) (Calls Tryd.prog 45 #[(Value.int .u8 (V.byteAt s_1 0))] w4 fun e6 w7 =>
  ∃ b5, e6 = Ending.returned (Value.bool b5) ∧
  V.sel (!b5)
  (V.when (decide ((0 : Int) ≤ 0 ∧ (0 : Int) < ((ByteArray.size s_1 : Nat) : Int))) (V.sel ((V.byteAt s_1 0) != 45)
  (R (Ending.returned (Value.bool false)) w7)
  (∃ I8 : Int → World → Prop, ∃ μ9 : Int → World → Nat, I8 0 w7 ∧
  ∀ t31_10 (j11 : Nat → Value) (w12 : World), I8 t31_10 w12 →
  (V.sel (decide (t31_10 < ((ByteArray.size s_1 : Nat) : Int)))
  (V.when (decide ((0 : Int) ≤ t31_10 ∧ (t31_10 : Int) < ((ByteArray.size s_1 : Nat) : Int))) (Calls Tryd.prog 46 #[(Value.int .u8 (V.byteAt s_1 t31_10))] w12 fun e14 w15 =>
  ∃ b13, e14 = Ending.returned (Value.bool b13) ∧
  V.sel (!b13)
  (R (Ending.returned (Value.bool false)) w15)
  (I8 (IntKind.wrap .i64 (t31_10 + 1)) w15 ∧ μ9 (IntKind.wrap .i64 (t31_10 + 1)) w15 < μ9 t31_10 w12)))
  (R (Ending.returned (Value.bool true)) w12)))))
  (∃ I16 : Int → World → Prop, ∃ μ17 : Int → World → Nat, I16 0 w7 ∧
  ∀ t31_18 (j19 : Nat → Value) (w20 : World), I16 t31_18 w20 →
  (V.sel (decide (t31_18 < ((ByteArray.size s_1 : Nat) : Int)))
  (V.when (decide ((0 : Int) ≤ t31_18 ∧ (t31_18 : Int) < ((ByteArray.size s_1 : Nat) : Int))) (Calls Tryd.prog 46 #[(Value.int .u8 (V.byteAt s_1 t31_18))] w20 fun e22 w23 =>
  ∃ b21, e22 = Ending.returned (Value.bool b21) ∧
  V.sel (!b21)
  (R (Ending.returned (Value.bool false)) w23)
  (I16 (IntKind.wrap .i64 (t31_18 + 1)) w23 ∧ μ17 (IntKind.wrap .i64 (t31_18 + 1)) w23 < μ17 t31_18 w20)))
  (R (Ending.returned (Value.bool true)) w20))))))))) :
  Calls Tryd.prog 25 #[(Value.string s_1)] w R :=
  V.calls_of_R ⟨V.assoc [(0, [31])], V.assocP [], V.assocC [], V.assocS [], ⟨[], true⟩⟩ Tryd.func25 rfl (Eq.mp (by kernel_rfl) h)

theorem labels_Del_nf (list_1 : Option Addr) (list_1l : Nat) (list_1c : Nat) (key_2 : ByteArray) (w : World) (R : Ending → World → Prop) (h :
  V.when (decide ((0 : Int) ≤ 0 ∧ (0 : Int) ≤ ((list_1l : Nat) : Int) ∧ (((list_1l : Nat) : Int) : Int) ≤ 281474976710656 ∧ (32 : Int) * ((list_1l : Nat) : Int) ≤ 281474976710656)) (∀ w3, w3 = (World.alloc w (.cells ⟨V.rep (list_1l : Nat) [(Value.string ByteArray.empty), (Value.string ByteArray.empty)]⟩ 27)) →
  ∃ I4 : Option Addr → Nat → Nat → Int → World → Prop, ∃ μ5 : Option Addr → Nat → Nat → Int → World → Nat, I4 (some ⟨Array.size (World.heap w), 0, none⟩) 0 (list_1l : Nat) 0 w3 ∧
  ∀ out_6 out_6l out_6c t14_7 (j8 : Nat → Value) (w9 : World), I4 out_6 out_6l out_6c t14_7 w9 →
  (V.sel (decide (t14_7 < ((list_1l : Nat) : Int)))
  (V.when (decide ((0 : Int) ≤ t14_7 ∧ (t14_7 : Int) < ((list_1l : Nat) : Int))) (V.ptr list_1 fun a10 =>
  ∃ s11, ∃ s12, V.cellsC (fun a_ x_ => World.cell? w9 a_ = some x_) (Addr.add a10 ((Int.toNat t14_7) * 2)) [(Value.string s11), (Value.string s12)] ∧
  ∀ w13, w13 = (World.alloc w9 (.cells #[(Value.string ByteArray.empty), (Value.string ByteArray.empty)] 27)) →
  ∃ w14, Sem.run Tryd.prog (Instr.storeAt 27 (Value.pointer (some ⟨Array.size (World.heap w9), 0, none⟩)) (Value.agg #[(Value.string s11), (Value.string s12)])) w13 = .ok () w14 ∧
  ∃ s15, World.cell? w14 (Addr.add ⟨Array.size (World.heap w9), 0, none⟩ 0) = some (Value.string s15) ∧
  V.sel (!(ByteArray.toList s15 == ByteArray.toList key_2))
  (∃ s16, ∃ s17, V.cellsC (fun a_ x_ => World.cell? w14 a_ = some x_) ⟨Array.size (World.heap w9), 0, none⟩ [(Value.string s16), (Value.string s17)] ∧
  ∀ w18, w18 = (World.alloc w14 (.cells #[(Value.string s16), (Value.string s17)] 27)) →
  ∃ A19, ∃ A19l, ∃ A19c, ∃ w20, Sem.run Tryd.prog (Builtin.append_ #[22, 22] 22 #[(Value.slice out_6 out_6l out_6c), (Value.slice (some ⟨Array.size (World.heap w14), 0, none⟩) 1 1)]) w18 = .ok (Value.slice A19 A19l A19c) w20 ∧
  I4 A19 A19l A19c (IntKind.wrap .i64 (t14_7 + 1)) w20 ∧ μ5 A19 A19l A19c (IntKind.wrap .i64 (t14_7 + 1)) w20 < μ5 out_6 out_6l out_6c t14_7 w9)
  (I4 out_6 out_6l out_6c (IntKind.wrap .i64 (t14_7 + 1)) w14 ∧ μ5 out_6 out_6l out_6c (IntKind.wrap .i64 (t14_7 + 1)) w14 < μ5 out_6 out_6l out_6c t14_7 w9)))
  (Calls Tryd.prog 47 #[(Value.slice out_6 out_6l out_6c)] w9 fun e22 w23 =>
  ∃ A21, ∃ A21l, ∃ A21c, e22 = Ending.returned (Value.slice A21 A21l A21c) ∧
  R (Ending.returned (Value.tuple #[(Value.slice A21 A21l A21c), (Value.bool (decide (((out_6l : Nat) : Int) < ((list_1l : Nat) : Int))))])) w23)))) :
  Calls Tryd.prog 26 #[(Value.slice list_1 list_1l list_1c), (Value.string key_2)] w R :=
  V.calls_of_R ⟨V.assoc [(0, [6, 14])], V.assocP [], V.assocC [], V.assocS [], ⟨[], true⟩⟩ Tryd.func26 rfl (Eq.mp (by kernel_rfl) h)

theorem labels_Check_nf (list_1 : Option Addr) (list_1l : Nat) (list_1c : Nat) (w : World) (R : Ending → World → Prop) (h :
  V.sel (decide (((list_1l : Nat) : Int) > 32))
  (R (Ending.returned (Value.tuple #[(Value.int .i64 32), (Value.int .i64 34)])) w)
  (∃ I2 : Int → World → Prop, ∃ μ3 : Int → World → Nat, I2 0 w ∧
  ∀ t11_4 (j5 : Nat → Value) (w6 : World), I2 t11_4 w6 →
  (V.sel (decide (t11_4 < ((list_1l : Nat) : Int)))
  (V.when (decide ((0 : Int) ≤ t11_4 ∧ (t11_4 : Int) < ((list_1l : Nat) : Int))) (V.ptr list_1 fun a7 =>
  ∃ s8, ∃ s9, V.cellsC (fun a_ x_ => World.cell? w6 a_ = some x_) (Addr.add a7 ((Int.toNat t11_4) * 2)) [(Value.string s8), (Value.string s9)] ∧
  ∀ w10, w10 = (World.alloc w6 (.cells #[(Value.string ByteArray.empty), (Value.string ByteArray.empty)] 27)) →
  ∃ w11, Sem.run Tryd.prog (Instr.storeAt 27 (Value.pointer (some ⟨Array.size (World.heap w6), 0, none⟩)) (Value.agg #[(Value.string s8), (Value.string s9)])) w10 = .ok () w11 ∧
  ∃ s12, World.cell? w11 (Addr.add ⟨Array.size (World.heap w6), 0, none⟩ 0) = some (Value.string s12) ∧
  Calls Tryd.prog 24 #[(Value.string s12)] w11 fun e14 w15 =>
  ∃ b13, e14 = Ending.returned (Value.bool b13) ∧
  V.sel (!b13)
  (R (Ending.returned (Value.tuple #[(Value.int .i64 t11_4), (Value.int .i64 31)])) w15)
  (∃ s16, World.cell? w15 (Addr.add ⟨Array.size (World.heap w6), 0, none⟩ 1) = some (Value.string s16) ∧
  Calls Tryd.prog 25 #[(Value.string s16)] w15 fun e18 w19 =>
  ∃ b17, e18 = Ending.returned (Value.bool b17) ∧
  V.sel (!b17)
  (R (Ending.returned (Value.tuple #[(Value.int .i64 t11_4), (Value.int .i64 32)])) w19)
  (V.sel (decide (t11_4 > 0))
  (∃ s20, World.cell? w19 (Addr.add ⟨Array.size (World.heap w6), 0, none⟩ 0) = some (Value.string s20) ∧
  V.when (decide ((0 : Int) ≤ (IntKind.wrap .i64 (t11_4 - 1)) ∧ ((IntKind.wrap .i64 (t11_4 - 1)) : Int) < ((list_1l : Nat) : Int))) (V.ptr list_1 fun a21 =>
  ∃ s22, World.cell? w19 (Addr.add (Addr.add a21 ((Int.toNat (IntKind.wrap .i64 (t11_4 - 1))) * 2)) 0) = some (Value.string s22) ∧
  V.sel (ByteArray.toList s20 == ByteArray.toList s22)
  (R (Ending.returned (Value.tuple #[(Value.int .i64 t11_4), (Value.int .i64 33)])) (World.drew w19))
  (V.sel (decide (t11_4 > 0))
  (∃ s23, World.cell? (World.drew w19) (Addr.add ⟨Array.size (World.heap w6), 0, none⟩ 0) = some (Value.string s23) ∧
  V.when (decide ((0 : Int) ≤ (IntKind.wrap .i64 (t11_4 - 1)) ∧ ((IntKind.wrap .i64 (t11_4 - 1)) : Int) < ((list_1l : Nat) : Int))) (V.ptr list_1 fun a24 =>
  ∃ s25, World.cell? (World.drew w19) (Addr.add (Addr.add a24 ((Int.toNat (IntKind.wrap .i64 (t11_4 - 1))) * 2)) 0) = some (Value.string s25) ∧
  V.sel (Op.bytesLess (ByteArray.toList s23) (ByteArray.toList s25))
  (R (Ending.returned (Value.tuple #[(Value.int .i64 t11_4), (Value.int .i64 36)])) (World.drew (World.drew w19)))
  (I2 (IntKind.wrap .i64 (t11_4 + 1)) (World.drew (World.drew w19)) ∧ μ3 (IntKind.wrap .i64 (t11_4 + 1)) (World.drew (World.drew w19)) < μ3 t11_4 w6)))
  (I2 (IntKind.wrap .i64 (t11_4 + 1)) (World.drew (World.drew w19)) ∧ μ3 (IntKind.wrap .i64 (t11_4 + 1)) (World.drew (World.drew w19)) < μ3 t11_4 w6))))
  (V.sel (decide (t11_4 > 0))
  (∃ s26, World.cell? (World.drew w19) (Addr.add ⟨Array.size (World.heap w6), 0, none⟩ 0) = some (Value.string s26) ∧
  V.when (decide ((0 : Int) ≤ (IntKind.wrap .i64 (t11_4 - 1)) ∧ ((IntKind.wrap .i64 (t11_4 - 1)) : Int) < ((list_1l : Nat) : Int))) (V.ptr list_1 fun a27 =>
  ∃ s28, World.cell? (World.drew w19) (Addr.add (Addr.add a27 ((Int.toNat (IntKind.wrap .i64 (t11_4 - 1))) * 2)) 0) = some (Value.string s28) ∧
  V.sel (Op.bytesLess (ByteArray.toList s26) (ByteArray.toList s28))
  (R (Ending.returned (Value.tuple #[(Value.int .i64 t11_4), (Value.int .i64 36)])) (World.drew (World.drew w19)))
  (I2 (IntKind.wrap .i64 (t11_4 + 1)) (World.drew (World.drew w19)) ∧ μ3 (IntKind.wrap .i64 (t11_4 + 1)) (World.drew (World.drew w19)) < μ3 t11_4 w6)))
  (I2 (IntKind.wrap .i64 (t11_4 + 1)) (World.drew (World.drew w19)) ∧ μ3 (IntKind.wrap .i64 (t11_4 + 1)) (World.drew (World.drew w19)) < μ3 t11_4 w6))))))
  (R (Ending.returned (Value.tuple #[(Value.int .i64 0), (Value.int .i64 0)])) w6)))) :
  Calls Tryd.prog 27 #[(Value.slice list_1 list_1l list_1c)] w R :=
  V.calls_of_R ⟨V.assoc [(0, [11])], V.assocP [(10, V.line [0, 1, 2, 3, 4, 5, 6, 7, 8, 9, 10, 11, 12, 13]), (12, V.line [0, 1, 2, 3, 4, 5, 6, 7, 8, 9, 10, 11, 12, 13])], V.assocC [], V.assocS [], ⟨[], true⟩⟩ Tryd.func27 rfl (Eq.mp (by kernel_rfl) h)

theorem berthlaw03_joined_nf (l_1 : Option Addr) (l_1l : Nat) (l_1c : Nat) (w : World) (R : Ending → World → Prop) (h :
  ∃ I2 : ByteArray → Int → World → Prop, ∃ μ3 : ByteArray → Int → World → Nat, I2 ByteArray.empty 0 w ∧
  ∀ s_4 i_5 (j6 : Nat → Value) (w7 : World), I2 s_4 i_5 w7 →
  (V.sel (decide (i_5 < ((l_1l : Nat) : Int)))
  (V.sel (decide (i_5 > 0))
  (V.when (decide (ByteArray.size s_4 + ByteArray.size ⟨#[44]⟩ ≤ 9223372036854775807)) (V.when (decide ((0 : Int) ≤ i_5 ∧ (i_5 : Int) < ((l_1l : Nat) : Int))) (V.ptr l_1 fun a8 =>
  ∃ s9, World.cell? w7 (Addr.add (Addr.add a8 ((Int.toNat i_5) * 2)) 0) = some (Value.string s9) ∧
  V.when (decide (ByteArray.size s9 + ByteArray.size ⟨#[61]⟩ ≤ 9223372036854775807)) (V.when (decide ((0 : Int) ≤ i_5 ∧ (i_5 : Int) < ((l_1l : Nat) : Int))) (V.ptr l_1 fun a10 =>
  ∃ s11, World.cell? w7 (Addr.add (Addr.add a10 ((Int.toNat i_5) * 2)) 1) = some (Value.string s11) ∧
  V.when (decide (ByteArray.size (s9 ++ ⟨#[61]⟩) + ByteArray.size s11 ≤ 9223372036854775807)) (V.when (decide (ByteArray.size (s_4 ++ ⟨#[44]⟩) + ByteArray.size ((s9 ++ ⟨#[61]⟩) ++ s11) ≤ 9223372036854775807)) (I2 ((s_4 ++ ⟨#[44]⟩) ++ ((s9 ++ ⟨#[61]⟩) ++ s11)) (IntKind.wrap .i64 (i_5 + 1)) (World.drew w7) ∧ μ3 ((s_4 ++ ⟨#[44]⟩) ++ ((s9 ++ ⟨#[61]⟩) ++ s11)) (IntKind.wrap .i64 (i_5 + 1)) (World.drew w7) < μ3 s_4 i_5 w7)))))))
  (V.when (decide ((0 : Int) ≤ i_5 ∧ (i_5 : Int) < ((l_1l : Nat) : Int))) (V.ptr l_1 fun a12 =>
  ∃ s13, World.cell? w7 (Addr.add (Addr.add a12 ((Int.toNat i_5) * 2)) 0) = some (Value.string s13) ∧
  V.when (decide (ByteArray.size s13 + ByteArray.size ⟨#[61]⟩ ≤ 9223372036854775807)) (V.when (decide ((0 : Int) ≤ i_5 ∧ (i_5 : Int) < ((l_1l : Nat) : Int))) (V.ptr l_1 fun a14 =>
  ∃ s15, World.cell? w7 (Addr.add (Addr.add a14 ((Int.toNat i_5) * 2)) 1) = some (Value.string s15) ∧
  V.when (decide (ByteArray.size (s13 ++ ⟨#[61]⟩) + ByteArray.size s15 ≤ 9223372036854775807)) (V.when (decide (ByteArray.size s_4 + ByteArray.size ((s13 ++ ⟨#[61]⟩) ++ s15) ≤ 9223372036854775807)) (I2 (s_4 ++ ((s13 ++ ⟨#[61]⟩) ++ s15)) (IntKind.wrap .i64 (i_5 + 1)) (World.drew w7) ∧ μ3 (s_4 ++ ((s13 ++ ⟨#[61]⟩) ++ s15)) (IntKind.wrap .i64 (i_5 + 1)) (World.drew w7) < μ3 s_4 i_5 w7)))))))
  (R (Ending.returned (Value.string s_4)) w7))) :
  Calls Tryd.prog 28 #[(Value.slice l_1 l_1l l_1c)] w R :=
  V.calls_of_R ⟨V.assoc [(0, [3, 4])], V.assocP [(7, V.line [0, 1, 2, 3, 4, 5, 6, 7, 8, 9, 10, 11, 12, 13, 14])], V.assocC [], V.assocS [], ⟨[], true⟩⟩ Tryd.func28 rfl (Eq.mp (by kernel_rfl) h)

theorem berthref03_Check_nf (list_1 : Option Addr) (list_1l : Nat) (list_1c : Nat) (w : World) (R : Ending → World → Prop) (h :
  V.sel (decide (((list_1l : Nat) : Int) > 32))
  (R (Ending.returned (Value.tuple #[(Value.int .i64 32), (Value.int .i64 34)])) w)
  (∃ I2 : Int → World → Prop, ∃ μ3 : Int → World → Nat, I2 0 w ∧
  ∀ i_4 (j5 : Nat → Value) (w6 : World), I2 i_4 w6 →
  (V.sel (decide (i_4 < ((list_1l : Nat) : Int)))
  (V.when (decide ((0 : Int) ≤ i_4 ∧ (i_4 : Int) < ((list_1l : Nat) : Int))) (V.ptr list_1 fun a7 =>
  ∃ s8, World.cell? w6 (Addr.add (Addr.add a7 ((Int.toNat i_4) * 2)) 0) = some (Value.string s8) ∧
  Calls Tryd.prog 48 #[(Value.string s8)] w6 fun e10 w11 =>
  ∃ b9, e10 = Ending.returned (Value.bool b9) ∧
  V.when (decide ((0 : Int) ≤ i_4 ∧ (i_4 : Int) < ((list_1l : Nat) : Int))) (V.ptr list_1 fun a12 =>
  ∃ s13, World.cell? w11 (Addr.add (Addr.add a12 ((Int.toNat i_4) * 2)) 1) = some (Value.string s13) ∧
  Calls Tryd.prog 49 #[(Value.string s13)] w11 fun e15 w16 =>
  ∃ b14, e15 = Ending.returned (Value.bool b14) ∧
  V.sel (!b9)
  (R (Ending.returned (Value.tuple #[(Value.int .i64 i_4), (Value.int .i64 31)])) w16)
  (V.sel (!b14)
  (R (Ending.returned (Value.tuple #[(Value.int .i64 i_4), (Value.int .i64 32)])) w16)
  (V.sel (decide (i_4 > 0))
  (V.when (decide ((0 : Int) ≤ i_4 ∧ (i_4 : Int) < ((list_1l : Nat) : Int))) (V.ptr list_1 fun a17 =>
  ∃ s18, World.cell? w16 (Addr.add (Addr.add a17 ((Int.toNat i_4) * 2)) 0) = some (Value.string s18) ∧
  V.when (decide ((0 : Int) ≤ (IntKind.wrap .i64 (i_4 - 1)) ∧ ((IntKind.wrap .i64 (i_4 - 1)) : Int) < ((list_1l : Nat) : Int))) (V.ptr list_1 fun a19 =>
  ∃ s20, World.cell? w16 (Addr.add (Addr.add a19 ((Int.toNat (IntKind.wrap .i64 (i_4 - 1))) * 2)) 0) = some (Value.string s20) ∧
  V.sel (ByteArray.toList s18 == ByteArray.toList s20)
  (R (Ending.returned (Value.tuple #[(Value.int .i64 i_4), (Value.int .i64 33)])) (World.drew w16))
  (V.sel (decide (i_4 > 0))
  (V.when (decide ((0 : Int) ≤ i_4 ∧ (i_4 : Int) < ((list_1l : Nat) : Int))) (V.ptr list_1 fun a21 =>
  ∃ s22, World.cell? (World.drew w16) (Addr.add (Addr.add a21 ((Int.toNat i_4) * 2)) 0) = some (Value.string s22) ∧
  V.when (decide ((0 : Int) ≤ (IntKind.wrap .i64 (i_4 - 1)) ∧ ((IntKind.wrap .i64 (i_4 - 1)) : Int) < ((list_1l : Nat) : Int))) (V.ptr list_1 fun a23 =>
  ∃ s24, World.cell? (World.drew w16) (Addr.add (Addr.add a23 ((Int.toNat (IntKind.wrap .i64 (i_4 - 1))) * 2)) 0) = some (Value.string s24) ∧
  V.sel (Op.bytesLess (ByteArray.toList s22) (ByteArray.toList s24))
  (R (Ending.returned (Value.tuple #[(Value.int .i64 i_4), (Value.int .i64 36)])) (World.drew (World.drew w16)))
  (I2 (IntKind.wrap .i64 (i_4 + 1)) (World.drew (World.drew w16)) ∧ μ3 (IntKind.wrap .i64 (i_4 + 1)) (World.drew (World.drew w16)) < μ3 i_4 w6))))
  (I2 (IntKind.wrap .i64 (i_4 + 1)) (World.drew (World.drew w16)) ∧ μ3 (IntKind.wrap .i64 (i_4 + 1)) (World.drew (World.drew w16)) < μ3 i_4 w6)))))
  (V.sel (decide (i_4 > 0))
  (V.when (decide ((0 : Int) ≤ i_4 ∧ (i_4 : Int) < ((list_1l : Nat) : Int))) (V.ptr list_1 fun a25 =>
  ∃ s26, World.cell? (World.drew w16) (Addr.add (Addr.add a25 ((Int.toNat i_4) * 2)) 0) = some (Value.string s26) ∧
  V.when (decide ((0 : Int) ≤ (IntKind.wrap .i64 (i_4 - 1)) ∧ ((IntKind.wrap .i64 (i_4 - 1)) : Int) < ((list_1l : Nat) : Int))) (V.ptr list_1 fun a27 =>
  ∃ s28, World.cell? (World.drew w16) (Addr.add (Addr.add a27 ((Int.toNat (IntKind.wrap .i64 (i_4 - 1))) * 2)) 0) = some (Value.string s28) ∧
  V.sel (Op.bytesLess (ByteArray.toList s26) (ByteArray.toList s28))
  (R (Ending.returned (Value.tuple #[(Value.int .i64 i_4), (Value.int .i64 36)])) (World.drew (World.drew w16)))
  (I2 (IntKind.wrap .i64 (i_4 + 1)) (World.drew (World.drew w16)) ∧ μ3 (IntKind.wrap .i64 (i_4 + 1)) (World.drew (World.drew w16)) < μ3 i_4 w6))))
  (I2 (IntKind.wrap .i64 (i_4 + 1)) (World.drew (World.drew w16)) ∧ μ3 (IntKind.wrap .i64 (i_4 + 1)) (World.drew (World.drew w16)) < μ3 i_4 w6)))))))
  (R (Ending.returned (Value.tuple #[(Value.int .i64 0), (Value.int .i64 0)])) w6)))) :
  Calls Tryd.prog 29 #[(Value.slice list_1 list_1l list_1c)] w R :=
  V.calls_of_R ⟨V.assoc [(0, [4])], V.assocP [(12, V.line [0, 1, 2, 3, 4, 5, 6, 7, 8, 9, 10, 11, 12, 13, 14, 15, 16]), (14, V.line [0, 1, 2, 3, 4, 5, 6, 7, 8, 9, 10, 11, 12, 13, 14, 15, 16])], V.assocC [], V.assocS [], ⟨[], true⟩⟩ Tryd.func29 rfl (Eq.mp (by kernel_rfl) h)

theorem berthref03_Find_nf (list_1 : Option Addr) (list_1l : Nat) (list_1c : Nat) (key_2 : ByteArray) (w : World) (R : Ending → World → Prop) (h :
  ∃ I3 : Int → World → Prop, ∃ μ4 : Int → World → Nat, I3 0 w ∧
  ∀ i_5 (j6 : Nat → Value) (w7 : World), I3 i_5 w7 →
  (V.sel (decide (i_5 < ((list_1l : Nat) : Int)))
  (V.when (decide ((0 : Int) ≤ i_5 ∧ (i_5 : Int) < ((list_1l : Nat) : Int))) (V.ptr list_1 fun a8 =>
  ∃ s9, World.cell? w7 (Addr.add (Addr.add a8 ((Int.toNat i_5) * 2)) 0) = some (Value.string s9) ∧
  V.sel (ByteArray.toList s9 == ByteArray.toList key_2)
  (R (Ending.returned (Value.int .i64 i_5)) w7)
  (I3 (IntKind.wrap .i64 (i_5 + 1)) w7 ∧ μ4 (IntKind.wrap .i64 (i_5 + 1)) w7 < μ4 i_5 w7)))
  (R (Ending.returned (Value.int .i64 (-1))) w7))) :
  Calls Tryd.prog 30 #[(Value.slice list_1 list_1l list_1c), (Value.string key_2)] w R :=
  V.calls_of_R ⟨V.assoc [(0, [5])], V.assocP [], V.assocC [], V.assocS [], ⟨[], true⟩⟩ Tryd.func30 rfl (Eq.mp (by kernel_rfl) h)

theorem berthref03_Rise_nf (list_1 : Option Addr) (list_1l : Nat) (list_1c : Nat) (w : World) (R : Ending → World → Prop) (h :
  ∃ I2 : Option Addr → Nat → Nat → World → Prop, ∃ μ3 : Option Addr → Nat → Nat → World → Nat, I2 none 0 0 w ∧
  ∀ out_4 out_4l out_4c (j5 : Nat → Value) (w6 : World), I2 out_4 out_4l out_4c w6 →
  (V.sel (decide (((out_4l : Nat) : Int) < ((list_1l : Nat) : Int)))
  (∃ I7 : Int → Int → World → Prop, ∃ μ8 : Int → Int → World → Nat, I7 (-1) 0 w6 ∧
  ∀ best_9 i_10 (j11 : Nat → Value) (w12 : World), I7 best_9 i_10 w12 →
  (V.sel (decide (i_10 < ((list_1l : Nat) : Int)))
  (V.sel (decide (((out_4l : Nat) : Int) > 0))
  (V.when (decide ((0 : Int) ≤ i_10 ∧ (i_10 : Int) < ((list_1l : Nat) : Int))) (V.ptr list_1 fun a13 =>
  ∃ s14, World.cell? w12 (Addr.add (Addr.add a13 ((Int.toNat i_10) * 2)) 0) = some (Value.string s14) ∧
  V.when (decide ((0 : Int) ≤ (IntKind.wrap .i64 (((out_4l : Nat) : Int) - 1)) ∧ ((IntKind.wrap .i64 (((out_4l : Nat) : Int) - 1)) : Int) < ((out_4l : Nat) : Int))) (V.ptr out_4 fun a15 =>
  ∃ s16, World.cell? w12 (Addr.add (Addr.add a15 ((Int.toNat (IntKind.wrap .i64 (((out_4l : Nat) : Int) - 1))) * 2)) 0) = some (Value.string s16) ∧
  V.sel ((Op.bytesLess (ByteArray.toList s14) (ByteArray.toList s16)) || (ByteArray.toList s14 == ByteArray.toList s16))
  (I7 best_9 (IntKind.wrap .i64 (i_10 + 1)) (World.drew w12) ∧ μ8 best_9 (IntKind.wrap .i64 (i_10 + 1)) (World.drew w12) < μ8 best_9 i_10 w12)
  (V.sel (decide (best_9 < 0))
  (I7 i_10 (IntKind.wrap .i64 (i_10 + 1)) (World.drew (World.drew w12)) ∧ μ8 i_10 (IntKind.wrap .i64 (i_10 + 1)) (World.drew (World.drew w12)) < μ8 best_9 i_10 w12)
  (V.when (decide ((0 : Int) ≤ i_10 ∧ (i_10 : Int) < ((list_1l : Nat) : Int))) (V.ptr list_1 fun a17 =>
  ∃ s18, World.cell? (World.drew w12) (Addr.add (Addr.add a17 ((Int.toNat i_10) * 2)) 0) = some (Value.string s18) ∧
  V.when (decide ((0 : Int) ≤ best_9 ∧ (best_9 : Int) < ((list_1l : Nat) : Int))) (V.ptr list_1 fun a19 =>
  ∃ s20, World.cell? (World.drew w12) (Addr.add (Addr.add a19 ((Int.toNat best_9) * 2)) 0) = some (Value.string s20) ∧
  V.sel (Op.bytesLess (ByteArray.toList s18) (ByteArray.toList s20))
  (I7 i_10 (IntKind.wrap .i64 (i_10 + 1)) (World.drew (World.drew w12)) ∧ μ8 i_10 (IntKind.wrap .i64 (i_10 + 1)) (World.drew (World.drew w12)) < μ8 best_9 i_10 w12)
  (I7 best_9 (IntKind.wrap .i64 (i_10 + 1)) (World.drew (World.drew w12)) ∧ μ8 best_9 (IntKind.wrap .i64 (i_10 + 1)) (World.drew (World.drew w12)) < μ8 best_9 i_10 w12))))))))
  (V.sel (decide (best_9 < 0))
  (I7 i_10 (IntKind.wrap .i64 (i_10 + 1)) (World.drew (World.drew w12)) ∧ μ8 i_10 (IntKind.wrap .i64 (i_10 + 1)) (World.drew (World.drew w12)) < μ8 best_9 i_10 w12)
  (V.when (decide ((0 : Int) ≤ i_10 ∧ (i_10 : Int) < ((list_1l : Nat) : Int))) (V.ptr list_1 fun a21 =>
  ∃ s22, World.cell? (World.drew w12) (Addr.add (Addr.add a21 ((Int.toNat i_10) * 2)) 0) = some (Value.string s22) ∧
  V.when (decide ((0 : Int) ≤ best_9 ∧ (best_9 : Int) < ((list_1l : Nat) : Int))) (V.ptr list_1 fun a23 =>
  ∃ s24, World.cell? (World.drew w12) (Addr.add (Addr.add a23 ((Int.toNat best_9) * 2)) 0) = some (Value.string s24) ∧
  V.sel (Op.bytesLess (ByteArray.toList s22) (ByteArray.toList s24))
  (I7 i_10 (IntKind.wrap .i64 (i_10 + 1)) (World.drew (World.drew w12)) ∧ μ8 i_10 (IntKind.wrap .i64 (i_10 + 1)) (World.drew (World.drew w12)) < μ8 best_9 i_10 w12)
  (I7 best_9 (IntKind.wrap .i64 (i_10 + 1)) (World.drew (World.drew w12)) ∧ μ8 best_9 (IntKind.wrap .i64 (i_10 + 1)) (World.drew (World.drew w12)) < μ8 best_9 i_10 w12))))))
  (V.sel (decide (best_9 < 0))
  (R (Ending.returned (Value.slice out_4 out_4l out_4c)) w12)
  (V.when (decide ((0 : Int) ≤ best_9 ∧ (best_9 : Int) < ((list_1l : Nat) : Int))) (V.ptr list_1 fun a25 =>
  ∃ s26, ∃ s27, V.cellsC (fun a_ x_ => World.cell? w12 a_ = some x_) (Addr.add a25 ((Int.toNat best_9) * 2)) [(Value.string s26), (Value.string s27)] ∧
  ∀ w28, w28 = (World.alloc w12 (.cells #[(Value.string s26), (Value.string s27)] 27)) →
  ∃ A29, ∃ A29l, ∃ A29c, ∃ w30, Sem.run Tryd.prog (Builtin.append_ #[22, 22] 22 #[(Value.slice out_4 out_4l out_4c), (Value.slice (some ⟨Array.size (World.heap w12), 0, none⟩) 1 1)]) w28 = .ok (Value.slice A29 A29l A29c) w30 ∧
  I2 A29 A29l A29c w30 ∧ μ3 A29 A29l A29c w30 < μ3 out_4 out_4l out_4c w6)))))
  (R (Ending.returned (Value.slice out_4 out_4l out_4c)) w6))) :
  Calls Tryd.prog 31 #[(Value.slice list_1 list_1l list_1c)] w R :=
  V.calls_of_R ⟨V.assoc [(0, [3]), (1, [4, 5])], V.assocP [(7, V.line [0, 1, 2, 3, 4, 5, 6, 7, 8, 9, 10, 11, 12, 13, 14, 15, 16, 17]), (8, V.line [0, 1, 2, 3, 4, 5, 6, 7, 8, 9, 10, 11, 12, 13, 14])], V.assocC [], V.assocS [], ⟨[], true⟩⟩ Tryd.func31 rfl (Eq.mp (by kernel_rfl) h)

theorem berthref03_one_nf (was_1 : Option Addr) (was_1l : Nat) (was_1c : Nat) (now_2 : Option Addr) (now_2l : Nat) (now_2c : Nat) (key_3 : ByteArray) (w : World) (R : Ending → World → Prop) (h :
  ∀ w4, w4 = (World.alloc w (.cells #[(Value.string ByteArray.empty), (Value.string ByteArray.empty), (Value.string ByteArray.empty), (Value.bool false), (Value.bool false)] 35)) →
  Calls Tryd.prog 50 #[(Value.slice was_1 was_1l was_1c), (Value.string key_3)] w4 fun e7 w8 =>
  ∃ s5, ∃ b6, e7 = Ending.returned (Value.tuple #[(Value.string s5), (Value.bool b6)]) ∧
  Calls Tryd.prog 50 #[(Value.slice now_2 now_2l now_2c), (Value.string key_3)] w8 fun e11 w12 =>
  ∃ s9, ∃ b10, e11 = Ending.returned (Value.tuple #[(Value.string s9), (Value.bool b10)]) ∧
  ∃ w13, Sem.run Tryd.prog (Instr.storeAt 35 (Value.pointer (some ⟨Array.size (World.heap w), 0, none⟩)) (Value.agg #[(Value.string key_3), (Value.string s5), (Value.string s9), (Value.bool b6), (Value.bool b10)])) w12 = .ok () w13 ∧
  ∃ s14, ∃ s15, ∃ s16, ∃ b17, ∃ b18, V.cellsC (fun a_ x_ => World.cell? w13 a_ = some x_) ⟨Array.size (World.heap w), 0, none⟩ [(Value.string s14), (Value.string s15), (Value.string s16), (Value.bool b17), (Value.bool b18)] ∧
  R (Ending.returned (Value.agg #[(Value.string s14), (Value.string s15), (Value.string s16), (Value.bool b17), (Value.bool b18)])) w13) :
  Calls Tryd.prog 32 #[(Value.slice was_1 was_1l was_1c), (Value.slice now_2 now_2l now_2c), (Value.string key_3)] w R :=
  V.calls_of_R ⟨V.assoc [], V.assocP [], V.assocC [], V.assocS [], ⟨[], true⟩⟩ Tryd.func32 rfl (Eq.mp (by kernel_rfl) h)

end Go.Proofs.YtcohengppaighaaDoor
