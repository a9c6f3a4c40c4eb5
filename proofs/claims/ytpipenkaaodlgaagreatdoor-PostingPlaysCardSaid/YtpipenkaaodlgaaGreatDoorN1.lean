/- Normal forms of the program's functions, printed by a program of mine; the kernel checks each. -/
import Derived.Test.YtpipenkaaodlgaaGreatDoorProg
import Derived.Test.YtpipenkaaodlgaaGreatDoorV2
set_option linter.unusedVariables false
set_option maxRecDepth 100000
namespace Go.Proofs.YtpipenkaaodlgaaGreatDoor
open Go

theorem berthlaw07_apartLabels_nf (ls_1 : Option Addr) (ls_1l : Nat) (ls_1c : Nat) (w : World) (R : Ending → World → Prop) (h :
  V.when (decide ((0 : Int) ≤ ((ls_1l : Nat) : Int) ∧ (((ls_1l : Nat) : Int) : Int) ≤ ((ls_1l : Nat) : Int) ∧ (((ls_1l : Nat) : Int) : Int) ≤ 281474976710656 ∧ (24 : Int) * ((ls_1l : Nat) : Int) ≤ 281474976710656)) (∀ w2, w2 = (World.alloc w (.cells ⟨V.rep (ls_1l : Nat) [(Value.slice none 0 0)]⟩ 22)) →
  ∃ I3 : Int → World → Prop, ∃ μ4 : Int → World → Nat, I3 0 w2 ∧
  ∀ i_5 (j6 : Nat → Value) (w7 : World), I3 i_5 w7 →
  (V.sel (decide (i_5 < ((ls_1l : Nat) : Int)))
  (∃ I8 : Int → World → Prop, ∃ μ9 : Int → World → Nat, I8 0 w7 ∧
  ∀ k_10 (j11 : Nat → Value) (w12 : World), I8 k_10 w12 →
  (V.when (decide ((0 : Int) ≤ i_5 ∧ (i_5 : Int) < ((ls_1l : Nat) : Int))) (V.ptr ls_1 fun a13 =>
  ∃ A14, ∃ A14l, ∃ A14c, World.cell? w12 (Addr.add a13 ((Int.toNat i_5) * 1)) = some (Value.slice A14 A14l A14c) ∧
  V.sel (decide (k_10 < ((A14l : Nat) : Int)))
  (∃ S15 : World → Prop, S15 (World.drew w12) ∧
  V.when (decide ((0 : Int) ≤ i_5 ∧ (i_5 : Int) < ((ls_1l : Nat) : Int))) (V.ptr ls_1 fun a17 =>
  ∃ A18, ∃ A18l, ∃ A18c, (∀ w16, S15 w16 → World.cell? w16 (Addr.add a17 ((Int.toNat i_5) * 1)) = some (Value.slice A18 A18l A18c)) ∧
  Calls Tryz.prog 13 #[(Value.int .i64 i_5), (Value.int .i64 k_10)] (World.drew w12) fun e20 w21 =>
  ∃ s19, e20 = Ending.returned (Value.string s19) ∧
  S15 w21 ∧
  V.when (decide ((0 : Int) ≤ k_10 ∧ (k_10 : Int) < ((A18l : Nat) : Int))) (V.ptr A18 fun a22 =>
  ∃ w23, Sem.run Tryz.prog (Instr.storeAt 33 (Value.pointer (some (Addr.add a22 ((Int.toNat k_10) * 2)))) (Value.agg #[(Value.string s19), (Value.string ⟨#[111, 119, 110]⟩)])) w21 = .ok () w23 ∧
  I8 (IntKind.wrap .i64 (k_10 + 1)) w23 ∧ μ9 (IntKind.wrap .i64 (k_10 + 1)) w23 < μ9 k_10 w12)))
  (I3 (IntKind.wrap .i64 (i_5 + 1)) w12 ∧ μ4 (IntKind.wrap .i64 (i_5 + 1)) w12 < μ4 i_5 w7))))
  (∃ I24 : Int → World → Prop, ∃ μ25 : Int → World → Nat, I24 0 w7 ∧
  ∀ i_26 (j27 : Nat → Value) (w28 : World), I24 i_26 w28 →
  (V.sel (decide (i_26 < ((ls_1l : Nat) : Int)))
  (V.when (decide ((0 : Int) ≤ i_26 ∧ (i_26 : Int) < ((ls_1l : Nat) : Int))) (V.ptr ls_1 fun a29 =>
  ∃ A30, ∃ A30l, ∃ A30c, World.cell? w28 (Addr.add a29 ((Int.toNat i_26) * 1)) = some (Value.slice A30 A30l A30c) ∧
  ∃ I31 : Option Addr → Nat → Nat → Int → World → Prop, ∃ μ32 : Option Addr → Nat → Nat → Int → World → Nat, I31 A30 A30l A30c 0 w28 ∧
  ∀ g_33 g_33l g_33c k_34 (j35 : Nat → Value) (w36 : World), I31 g_33 g_33l g_33c k_34 w36 →
  (V.sel (decide (k_34 < 40))
  (Calls Tryz.prog 13 #[(Value.int .i64 i_26), (Value.int .i64 k_34)] w36 fun e38 w39 =>
  ∃ s37, e38 = Ending.returned (Value.string s37) ∧
  ∀ w40, w40 = (World.alloc w39 (.cells #[(Value.string s37), (Value.string ⟨#[98, 101, 104, 105, 110, 100]⟩)] 33)) →
  ∃ A41, ∃ A41l, ∃ A41c, ∃ w42, Sem.run Tryz.prog (Builtin.append_ #[22, 22] 22 #[(Value.slice g_33 g_33l g_33c), (Value.slice (some ⟨Array.size (World.heap w39), 0, none⟩) 1 1)]) w40 = .ok (Value.slice A41 A41l A41c) w42 ∧
  I31 A41 A41l A41c (IntKind.wrap .i64 (k_34 + 1)) w42 ∧ μ32 A41 A41l A41c (IntKind.wrap .i64 (k_34 + 1)) w42 < μ32 g_33 g_33l g_33c k_34 w36)
  (V.when (decide ((0 : Int) ≤ i_26 ∧ (i_26 : Int) < (((ls_1l : Nat) : Nat) : Int))) (∃ w43, Sem.run Tryz.prog (Instr.storeAt 22 (Value.pointer (some (Addr.add ⟨Array.size (World.heap w), 0, none⟩ ((Int.toNat i_26) * 1)))) (Value.slice g_33 g_33l g_33c)) w36 = .ok () w43 ∧
  I24 (IntKind.wrap .i64 (i_26 + 1)) w43 ∧ μ25 (IntKind.wrap .i64 (i_26 + 1)) w43 < μ25 i_26 w28)))))
  (∃ I44 : Int → World → Prop, ∃ μ45 : Int → World → Nat, I44 0 w28 ∧
  ∀ i_46 (j47 : Nat → Value) (w48 : World), I44 i_46 w48 →
  (V.sel (decide (i_46 < ((ls_1l : Nat) : Int)))
  (∃ I49 : Int → World → Prop, ∃ μ50 : Int → World → Nat, I49 0 w48 ∧
  ∀ k_51 (j52 : Nat → Value) (w53 : World), I49 k_51 w53 →
  (V.when (decide ((0 : Int) ≤ i_46 ∧ (i_46 : Int) < ((ls_1l : Nat) : Int))) (V.ptr ls_1 fun a54 =>
  ∃ A55, ∃ A55l, ∃ A55c, World.cell? w53 (Addr.add a54 ((Int.toNat i_46) * 1)) = some (Value.slice A55 A55l A55c) ∧
  V.sel (decide (k_51 < ((A55l : Nat) : Int)))
  (∃ S56 : World → Prop, S56 (World.drew w53) ∧
  V.when (decide ((0 : Int) ≤ i_46 ∧ (i_46 : Int) < ((ls_1l : Nat) : Int))) (V.ptr ls_1 fun a58 =>
  ∃ A59, ∃ A59l, ∃ A59c, (∀ w57, S56 w57 → World.cell? w57 (Addr.add a58 ((Int.toNat i_46) * 1)) = some (Value.slice A59 A59l A59c)) ∧
  V.when (decide ((0 : Int) ≤ k_51 ∧ (k_51 : Int) < ((A59l : Nat) : Int))) (V.ptr A59 fun a60 =>
  ∃ s61, (∀ w57, S56 w57 → World.cell? w57 (Addr.add (Addr.add a60 ((Int.toNat k_51) * 2)) 0) = some (Value.string s61)) ∧
  Calls Tryz.prog 13 #[(Value.int .i64 i_46), (Value.int .i64 k_51)] (World.drew w53) fun e63 w64 =>
  ∃ s62, e63 = Ending.returned (Value.string s62) ∧
  S56 w64 ∧
  V.sel (!(ByteArray.toList s61 == ByteArray.toList s62))
  (R (Ending.returned (Value.bool false)) w64)
  (V.when (decide ((0 : Int) ≤ i_46 ∧ (i_46 : Int) < ((ls_1l : Nat) : Int))) (V.ptr ls_1 fun a65 =>
  ∃ A66, ∃ A66l, ∃ A66c, (∀ w57, S56 w57 → World.cell? w57 (Addr.add a65 ((Int.toNat i_46) * 1)) = some (Value.slice A66 A66l A66c)) ∧
  V.when (decide ((0 : Int) ≤ k_51 ∧ (k_51 : Int) < ((A66l : Nat) : Int))) (V.ptr A66 fun a67 =>
  ∃ s68, (∀ w57, S56 w57 → World.cell? w57 (Addr.add (Addr.add a67 ((Int.toNat k_51) * 2)) 1) = some (Value.string s68)) ∧
  V.sel (!(ByteArray.toList s68 == ByteArray.toList ⟨#[111, 119, 110]⟩))
  (R (Ending.returned (Value.bool false)) w64)
  (I49 (IntKind.wrap .i64 (k_51 + 1)) w64 ∧ μ50 (IntKind.wrap .i64 (k_51 + 1)) w64 < μ50 k_51 w53)))))))
  (∃ I69 : Int → World → Prop, ∃ μ70 : Int → World → Nat, I69 0 w53 ∧
  ∀ k_71 (j72 : Nat → Value) (w73 : World), I69 k_71 w73 →
  (V.sel (decide (k_71 < 40))
  (∃ S74 : World → Prop, S74 (World.drew w73) ∧
  V.when (decide ((0 : Int) ≤ i_46 ∧ (i_46 : Int) < (((ls_1l : Nat) : Nat) : Int))) (∃ A76, ∃ A76l, ∃ A76c, (∀ w75, S74 w75 → World.cell? w75 (Addr.add ⟨Array.size (World.heap w), 0, none⟩ ((Int.toNat i_46) * 1)) = some (Value.slice A76 A76l A76c)) ∧
  V.when (decide ((0 : Int) ≤ i_46 ∧ (i_46 : Int) < ((ls_1l : Nat) : Int))) (V.ptr ls_1 fun a77 =>
  ∃ A78, ∃ A78l, ∃ A78c, (∀ w75, S74 w75 → World.cell? w75 (Addr.add a77 ((Int.toNat i_46) * 1)) = some (Value.slice A78 A78l A78c)) ∧
  V.when (decide ((0 : Int) ≤ (IntKind.wrap .i64 (((A78l : Nat) : Int) + k_71)) ∧ ((IntKind.wrap .i64 (((A78l : Nat) : Int) + k_71)) : Int) < ((A76l : Nat) : Int))) (V.ptr A76 fun a79 =>
  ∃ s80, ∃ s81, V.cellsC (fun a_ x_ => ∀ w75, S74 w75 → World.cell? w75 a_ = some x_) (Addr.add a79 ((Int.toNat (IntKind.wrap .i64 (((A78l : Nat) : Int) + k_71))) * 2)) [(Value.string s80), (Value.string s81)] ∧
  ∀ w82, w82 = (World.alloc (World.drew w73) (.cells #[(Value.string ByteArray.empty), (Value.string ByteArray.empty)] 33)) →
  S74 w82 ∧
  ∃ w83, Sem.run Tryz.prog (Instr.storeAt 33 (Value.pointer (some ⟨Array.size (World.heap (World.drew w73)), 0, none⟩)) (Value.agg #[(Value.string s80), (Value.string s81)])) w82 = .ok () w83 ∧
  ∃ S84 : World → Prop, S84 (World.drew w83) ∧
  ∃ s86, (∀ w85, S84 w85 → World.cell? w85 (Addr.add ⟨Array.size (World.heap (World.drew w73)), 0, none⟩ 0) = some (Value.string s86)) ∧
  Calls Tryz.prog 13 #[(Value.int .i64 i_46), (Value.int .i64 k_71)] (World.drew w83) fun e88 w89 =>
  ∃ s87, e88 = Ending.returned (Value.string s87) ∧
  S84 w89 ∧
  V.sel (!(ByteArray.toList s86 == ByteArray.toList s87))
  (R (Ending.returned (Value.bool false)) w89)
  (∃ s90, (∀ w85, S84 w85 → World.cell? w85 (Addr.add ⟨Array.size (World.heap (World.drew w73)), 0, none⟩ 1) = some (Value.string s90)) ∧
  V.sel (!(ByteArray.toList s90 == ByteArray.toList ⟨#[98, 101, 104, 105, 110, 100]⟩))
  (R (Ending.returned (Value.bool false)) w89)
  (I69 (IntKind.wrap .i64 (k_71 + 1)) w89 ∧ μ70 (IntKind.wrap .i64 (k_71 + 1)) w89 < μ70 k_71 w73))))))
  (I44 (IntKind.wrap .i64 (i_46 + 1)) w73 ∧ μ45 (IntKind.wrap .i64 (i_46 + 1)) w73 < μ45 i_46 w48))))))
  (R (Ending.returned (Value.bool true)) w48)))))))) :
  Calls Tryz.prog 15 #[(Value.slice ls_1 ls_1l ls_1c)] w R :=
  V.calls_of_R ⟨V.assoc [(0, [4]), (1, [5]), (2, [6]), (3, [7, 8]), (4, [9]), (5, [10]), (6, [11])], V.assocP [(8, V.line [0, 1, 2, 3, 4, 5, 6, 7, 8, 9, 10]), (24, V.line [0, 1, 2, 3, 4, 5, 6, 7, 8, 9, 10, 11, 12, 13, 14, 15, 16, 17, 18, 19, 20, 21, 22]), (29, V.line [0, 1, 2, 3, 4, 5, 6, 7, 8, 9, 10, 11, 12, 13, 14]), (30, V.line [0, 1, 2, 3, 4, 5, 6, 7, 8, 9, 10])], V.assocC [], V.assocS [], ⟨[], true⟩⟩ Tryz.func15 rfl (Eq.mp (by kernel_rfl) h)

theorem posting_Same_nf (a_1 : Option Addr) (b_2 : Option Addr) (w : World) (R : Ending → World → Prop) (h :
  ∀ w3, w3 = (World.alloc w (.cells #[(Value.pointer a_1)] 27)) →
  ∀ w4, w4 = (World.alloc w3 (.cells #[(Value.pointer b_2)] 27)) →
  ∀ w5, w5 = (World.alloc w4 (.cells #[(Value.bool false)] 4)) →
  ∃ S6 : World → Prop, S6 (World.drew w5) ∧
  ∃ p8, (∀ w7, S6 w7 → World.cell? w7 ⟨Array.size (World.heap w), 0, none⟩ = some (Value.pointer p8)) ∧
  ∃ p9, (∀ w7, S6 w7 → World.cell? w7 ⟨Array.size (World.heap w3), 0, none⟩ = some (Value.pointer p9)) ∧
  Calls Tryz.prog 36 #[(Value.pointer p8)] (World.drew w5) fun e11 w12 =>
  ∃ p10, e11 = Ending.returned (Value.pointer p10) ∧
  S6 w12 ∧
  Calls Tryz.prog 36 #[(Value.pointer p9)] w12 fun e14 w15 =>
  ∃ p13, e14 = Ending.returned (Value.pointer p13) ∧
  S6 w15 ∧
  Calls Tryz.prog 35 #[(Value.pointer p10), (Value.pointer p13)] w15 fun e17 w18 =>
  ∃ b16, e17 = Ending.returned (Value.bool b16) ∧
  S6 w18 ∧
  V.sel (!b16)
  (∃ w19, Sem.run Tryz.prog (Instr.storeAt 4 (Value.pointer (some ⟨Array.size (World.heap w4), 0, none⟩)) (Value.bool false)) w18 = .ok () w19 ∧
  ∃ b20, World.cell? w19 ⟨Array.size (World.heap w4), 0, none⟩ = some (Value.bool b20) ∧
  R (Ending.returned (Value.bool b20)) w19)
  (∃ p21, World.cell? w18 ⟨Array.size (World.heap w), 0, none⟩ = some (Value.pointer p21) ∧
  Calls Tryz.prog 36 #[(Value.pointer p21)] w18 fun e23 w24 =>
  ∃ p22, e23 = Ending.returned (Value.pointer p22) ∧
  Calls Tryz.prog 37 #[(Value.pointer p22)] w24 fun e26 w27 =>
  ∃ f25, ∃ f25a, ∃ f25c, e26 = Ending.returned (Value.func (.func f25) f25a f25c) ∧
  V.when (V.hasB Tryz.prog f25 && true) (∀ (Rc28 : Loop) (l29 : Nat) (w30 : World), l29 = Array.size (World.heap w27) + 1 → w30 = World.alloc (World.alloc w27 (.deferred (some []))) (.loop { Rc28 with state := .ready, pending := none }) →
  (∀ y19_33 (W31 : World) (R32 : Ending → World → Prop), V.LoopSt W31 l29 Rc28 .ready none →
  (V.LoopSt W31 l29 Rc28 .ready none ∧
  ∃ p34, World.cell? (V.setLoop W31 l29 Rc28 .busy none) ⟨Array.size (World.heap w), 0, none⟩ = some (Value.pointer p34) ∧
  Calls Tryz.prog 14 #[(Value.pointer p34), (Value.int .i64 y19_33)] (V.setLoop W31 l29 Rc28 .busy none) fun e37 w38 =>
  ∃ A35, ∃ A35l, ∃ A35c, ∃ b36, e37 = Ending.returned (Value.tuple #[(Value.slice A35 A35l A35c), (Value.bool b36)]) ∧
  ∃ p39, World.cell? w38 ⟨Array.size (World.heap w3), 0, none⟩ = some (Value.pointer p39) ∧
  Calls Tryz.prog 14 #[(Value.pointer p39), (Value.int .i64 y19_33)] w38 fun e42 w43 =>
  ∃ A40, ∃ A40l, ∃ A40c, ∃ b41, e42 = Ending.returned (Value.tuple #[(Value.slice A40 A40l A40c), (Value.bool b41)]) ∧
  Calls Tryz.prog 38 #[(Value.slice A35 A35l A35c), (Value.slice A40 A40l A40c)] w43 fun e45 w46 =>
  ∃ b44, e45 = Ending.returned (Value.bool b44) ∧
  V.sel (!b44)
  (∃ w47, Sem.run Tryz.prog (Instr.storeAt 4 (Value.pointer (some ⟨Array.size (World.heap w4), 0, none⟩)) (Value.bool false)) w46 = .ok () w47 ∧
  V.LoopSt w47 l29 Rc28 .busy none ∧ R32 (Ending.returned (Value.bool false)) (V.setLoop w47 l29 Rc28 .done (some Code.ret)))
  (V.LoopSt w46 l29 Rc28 .busy none ∧ R32 (Ending.returned (Value.bool true)) (V.setLoop w46 l29 Rc28 .ready none))) →
  V.Yield Tryz.prog l29 [(Value.int .i64 y19_33)] W31 R32) →
  Calls Tryz.prog f25 ⟨Array.toList f25a ++ [(Value.func (.yield l29) #[] #[])] ++ Array.toList f25c⟩ w30 fun e48 w50 => (∃ v49, e48 = Ending.returned v49) ∧
  ((V.LoopSt w50 l29 Rc28 .ready none ∧
  ∃ w51, Sem.run Tryz.prog (Instr.storeAt 4 (Value.pointer (some ⟨Array.size (World.heap w4), 0, none⟩)) (Value.bool true)) (V.setLoop w50 l29 Rc28 .exhausted none) = .ok () w51 ∧
  V.closeR (Array.size (World.heap w27) :: []) w51 fun w52 =>
  ∃ b53, World.cell? w52 ⟨Array.size (World.heap w4), 0, none⟩ = some (Value.bool b53) ∧
  R (Ending.returned (Value.bool b53)) w52) ∨
  (V.LoopSt w50 l29 Rc28 .done (some Code.ret) ∧
  V.closeR (Array.size (World.heap w27) :: []) (V.setLoop w50 l29 Rc28 .exhausted (some Code.ret)) fun w54 =>
  ∃ b55, World.cell? w54 ⟨Array.size (World.heap w4), 0, none⟩ = some (Value.bool b55) ∧
  R (Ending.returned (Value.bool b55)) w54) ∨
  False)))) :
  Calls Tryz.prog 16 #[(Value.pointer a_1), (Value.pointer b_2)] w R :=
  V.calls_of_R ⟨V.assoc [], V.assocP [(1, V.line [0, 2, 1, 3, 4, 5])], V.assocC [], V.assocS [(0, [V.Sh.one (.int .i64)])], ⟨[], true⟩⟩ Tryz.func16 rfl (Eq.mp (by kernel_rfl) h)

theorem posting_Index_Keys_nf (x_1 : Option Addr) (w : World) (R : Ending → World → Prop) (h :
  ∀ w2, w2 = (World.alloc w (.cells #[] 9)) →
  V.sel (!(Option.isNone x_1))
  (V.ptr x_1 fun a3 =>
  ∃ m4, World.cell? w2 (Addr.add a3 3) = some (Value.map m4) ∧
  ∃ p5, ∃ w6, Sem.run Tryz.prog (Instr.range 71 (Value.map m4)) w2 = .ok (Value.pointer p5) w6 ∧
  ∃ I7 : Option Addr → Nat → Nat → World → Prop, ∃ μ8 : Option Addr → Nat → Nat → World → Nat, I7 (some ⟨Array.size (World.heap w), 0, none⟩) 0 0 w6 ∧
  ∀ out_9 out_9l out_9c (j10 : Nat → Value) (w11 : World), I7 out_9 out_9l out_9c w11 →
  ((∃ w12, Sem.run Tryz.prog (Instr.next (Value.pointer p5) false 0) w11 = .ok (.tuple #[.bool false]) w12 ∧
  Calls Tryz.prog 39 #[(Value.slice out_9 out_9l out_9c)] w12 fun e13 w14 =>
  e13 = Ending.returned undef ∧
  R (Ending.returned (Value.slice out_9 out_9l out_9c)) w14) ∨
  (∃ k15, ∃ v16, ∃ w17, Sem.run Tryz.prog (Instr.next (Value.pointer p5) false 0) w11 = .ok (.tuple #[.bool true, k15, v16]) w17 ∧
  ∃ k18, ∃ v19, ∃ w20, Sem.run Tryz.prog (Instr.entry (Value.pointer p5)) w17 = .ok (.tuple #[.string k18, v19]) w20 ∧
  ∀ w21, w21 = (World.alloc w20 (.cells #[(Value.string k18)] 9)) →
  ∃ A22, ∃ A22l, ∃ A22c, ∃ w23, Sem.run Tryz.prog (Builtin.append_ #[23, 23] 23 #[(Value.slice out_9 out_9l out_9c), (Value.slice (some ⟨Array.size (World.heap w20), 0, none⟩) 1 1)]) w21 = .ok (Value.slice A22 A22l A22c) w23 ∧
  I7 A22 A22l A22c w23 ∧ μ8 A22 A22l A22c w23 < μ8 out_9 out_9l out_9c w11)))
  (Calls Tryz.prog 39 #[(Value.slice (some ⟨Array.size (World.heap w), 0, none⟩) 0 0)] w2 fun e24 w25 =>
  e24 = Ending.returned undef ∧
  R (Ending.returned (Value.slice (some ⟨Array.size (World.heap w), 0, none⟩) 0 0)) w25)) :
  Calls Tryz.prog 17 #[(Value.pointer x_1)] w R :=
  V.calls_of_R ⟨V.assoc [(0, [3])], V.assocP [], V.assocC [], V.assocS [], ⟨[], true⟩⟩ Tryz.func17 rfl (Eq.mp (by kernel_rfl) h)

theorem posting_Index_Values_nf (x_1 : Option Addr) (key_2 : ByteArray) (w : World) (R : Ending → World → Prop) (h :
  ∀ w3, w3 = (World.alloc w (.cells #[] 9)) →
  Calls Tryz.prog 40 #[(Value.pointer x_1), (Value.string key_2)] w3 fun e5 w6 =>
  ∃ m4, e5 = Ending.returned (Value.map m4) ∧
  ∃ p7, ∃ w8, Sem.run Tryz.prog (Instr.range 92 (Value.map m4)) w6 = .ok (Value.pointer p7) w8 ∧
  ∃ I9 : Option Addr → Nat → Nat → World → Prop, ∃ μ10 : Option Addr → Nat → Nat → World → Nat, I9 (some ⟨Array.size (World.heap w), 0, none⟩) 0 0 w8 ∧
  ∀ out_11 out_11l out_11c (j12 : Nat → Value) (w13 : World), I9 out_11 out_11l out_11c w13 →
  ((∃ w14, Sem.run Tryz.prog (Instr.next (Value.pointer p7) false 0) w13 = .ok (.tuple #[.bool false]) w14 ∧
  Calls Tryz.prog 39 #[(Value.slice out_11 out_11l out_11c)] w14 fun e15 w16 =>
  e15 = Ending.returned undef ∧
  R (Ending.returned (Value.slice out_11 out_11l out_11c)) w16) ∨
  (∃ k17, ∃ v18, ∃ w19, Sem.run Tryz.prog (Instr.next (Value.pointer p7) false 0) w13 = .ok (.tuple #[.bool true, k17, v18]) w19 ∧
  ∃ k20, ∃ v21, ∃ w22, Sem.run Tryz.prog (Instr.entry (Value.pointer p7)) w19 = .ok (.tuple #[.string k20, v21]) w22 ∧
  ∀ w23, w23 = (World.alloc w22 (.cells #[(Value.string k20)] 9)) →
  ∃ A24, ∃ A24l, ∃ A24c, ∃ w25, Sem.run Tryz.prog (Builtin.append_ #[23, 23] 23 #[(Value.slice out_11 out_11l out_11c), (Value.slice (some ⟨Array.size (World.heap w22), 0, none⟩) 1 1)]) w23 = .ok (Value.slice A24 A24l A24c) w25 ∧
  I9 A24 A24l A24c w25 ∧ μ10 A24 A24l A24c w25 < μ10 out_11 out_11l out_11c w13))) :
  Calls Tryz.prog 18 #[(Value.pointer x_1), (Value.string key_2)] w R :=
  V.calls_of_R ⟨V.assoc [(0, [5])], V.assocP [], V.assocC [], V.assocS [], ⟨[], true⟩⟩ Tryz.func18 rfl (Eq.mp (by kernel_rfl) h)

theorem berthref07_SameTexts_nf (a_1 : Option Addr) (a_1l : Nat) (a_1c : Nat) (b_2 : Option Addr) (b_2l : Nat) (b_2c : Nat) (w : World) (R : Ending → World → Prop) (h :
  V.sel (((a_1l : Nat) : Int) != ((b_2l : Nat) : Int))
  (R (Ending.returned (Value.bool false)) w)
  (∃ I3 : Int → World → Prop, ∃ μ4 : Int → World → Nat, I3 0 w ∧
  ∀ i_5 (j6 : Nat → Value) (w7 : World), I3 i_5 w7 →
  (V.sel (decide (i_5 < ((a_1l : Nat) : Int)))
  (V.when (decide ((0 : Int) ≤ i_5 ∧ (i_5 : Int) < ((a_1l : Nat) : Int))) (V.ptr a_1 fun a8 =>
  ∃ s9, World.cell? w7 (Addr.add a8 ((Int.toNat i_5) * 1)) = some (Value.string s9) ∧
  V.when (decide ((0 : Int) ≤ i_5 ∧ (i_5 : Int) < ((b_2l : Nat) : Int))) (V.ptr b_2 fun a10 =>
  ∃ s11, World.cell? w7 (Addr.add a10 ((Int.toNat i_5) * 1)) = some (Value.string s11) ∧
  V.sel (!(ByteArray.toList s9 == ByteArray.toList s11))
  (R (Ending.returned (Value.bool false)) (World.drew w7))
  (I3 (IntKind.wrap .i64 (i_5 + 1)) (World.drew w7) ∧ μ4 (IntKind.wrap .i64 (i_5 + 1)) (World.drew w7) < μ4 i_5 w7))))
  (R (Ending.returned (Value.bool true)) w7)))) :
  Calls Tryz.prog 19 #[(Value.slice a_1 a_1l a_1c), (Value.slice b_2 b_2l b_2c)] w R :=
  V.calls_of_R ⟨V.assoc [(0, [5])], V.assocP [(6, V.line [0, 1, 2, 3, 4, 5, 6, 7, 8])], V.assocC [], V.assocS [], ⟨[], true⟩⟩ Tryz.func19 rfl (Eq.mp (by kernel_rfl) h)

theorem berthlaw07_apart_nf (ls_1 : Option Addr) (ls_1l : Nat) (ls_1c : Nat) (w : World) (R : Ending → World → Prop) (h :
  V.when (decide ((0 : Int) ≤ ((ls_1l : Nat) : Int) ∧ (((ls_1l : Nat) : Int) : Int) ≤ ((ls_1l : Nat) : Int) ∧ (((ls_1l : Nat) : Int) : Int) ≤ 281474976710656 ∧ (24 : Int) * ((ls_1l : Nat) : Int) ≤ 281474976710656)) (∀ w2, w2 = (World.alloc w (.cells ⟨V.rep (ls_1l : Nat) [(Value.slice none 0 0)]⟩ 23)) →
  ∃ I3 : Int → World → Prop, ∃ μ4 : Int → World → Nat, I3 0 w2 ∧
  ∀ i_5 (j6 : Nat → Value) (w7 : World), I3 i_5 w7 →
  (V.sel (decide (i_5 < ((ls_1l : Nat) : Int)))
  (∃ I8 : Int → World → Prop, ∃ μ9 : Int → World → Nat, I8 0 w7 ∧
  ∀ k_10 (j11 : Nat → Value) (w12 : World), I8 k_10 w12 →
  (V.when (decide ((0 : Int) ≤ i_5 ∧ (i_5 : Int) < ((ls_1l : Nat) : Int))) (V.ptr ls_1 fun a13 =>
  ∃ A14, ∃ A14l, ∃ A14c, World.cell? w12 (Addr.add a13 ((Int.toNat i_5) * 1)) = some (Value.slice A14 A14l A14c) ∧
  V.sel (decide (k_10 < ((A14l : Nat) : Int)))
  (∃ S15 : World → Prop, S15 (World.drew w12) ∧
  V.when (decide ((0 : Int) ≤ i_5 ∧ (i_5 : Int) < ((ls_1l : Nat) : Int))) (V.ptr ls_1 fun a17 =>
  ∃ A18, ∃ A18l, ∃ A18c, (∀ w16, S15 w16 → World.cell? w16 (Addr.add a17 ((Int.toNat i_5) * 1)) = some (Value.slice A18 A18l A18c)) ∧
  Calls Tryz.prog 13 #[(Value.int .i64 i_5), (Value.int .i64 k_10)] (World.drew w12) fun e20 w21 =>
  ∃ s19, e20 = Ending.returned (Value.string s19) ∧
  S15 w21 ∧
  V.when (decide ((0 : Int) ≤ k_10 ∧ (k_10 : Int) < ((A18l : Nat) : Int))) (V.ptr A18 fun a22 =>
  ∃ w23, Sem.run Tryz.prog (Instr.storeAt 9 (Value.pointer (some (Addr.add a22 ((Int.toNat k_10) * 1)))) (Value.string s19)) w21 = .ok () w23 ∧
  I8 (IntKind.wrap .i64 (k_10 + 1)) w23 ∧ μ9 (IntKind.wrap .i64 (k_10 + 1)) w23 < μ9 k_10 w12)))
  (I3 (IntKind.wrap .i64 (i_5 + 1)) w12 ∧ μ4 (IntKind.wrap .i64 (i_5 + 1)) w12 < μ4 i_5 w7))))
  (∃ I24 : Int → World → Prop, ∃ μ25 : Int → World → Nat, I24 0 w7 ∧
  ∀ i_26 (j27 : Nat → Value) (w28 : World), I24 i_26 w28 →
  (V.sel (decide (i_26 < ((ls_1l : Nat) : Int)))
  (V.when (decide ((0 : Int) ≤ i_26 ∧ (i_26 : Int) < ((ls_1l : Nat) : Int))) (V.ptr ls_1 fun a29 =>
  ∃ A30, ∃ A30l, ∃ A30c, World.cell? w28 (Addr.add a29 ((Int.toNat i_26) * 1)) = some (Value.slice A30 A30l A30c) ∧
  ∃ I31 : Option Addr → Nat → Nat → Int → World → Prop, ∃ μ32 : Option Addr → Nat → Nat → Int → World → Nat, I31 A30 A30l A30c 0 w28 ∧
  ∀ g_33 g_33l g_33c k_34 (j35 : Nat → Value) (w36 : World), I31 g_33 g_33l g_33c k_34 w36 →
  (V.sel (decide (k_34 < 40))
  (Calls Tryz.prog 13 #[(Value.int .i64 i_26), (Value.int .i64 k_34)] w36 fun e38 w39 =>
  ∃ s37, e38 = Ending.returned (Value.string s37) ∧
  V.when (decide (ByteArray.size s37 + ByteArray.size ⟨#[43]⟩ ≤ 9223372036854775807)) (∀ w40, w40 = (World.alloc w39 (.cells #[(Value.string (s37 ++ ⟨#[43]⟩))] 9)) →
  ∃ A41, ∃ A41l, ∃ A41c, ∃ w42, Sem.run Tryz.prog (Builtin.append_ #[23, 23] 23 #[(Value.slice g_33 g_33l g_33c), (Value.slice (some ⟨Array.size (World.heap w39), 0, none⟩) 1 1)]) w40 = .ok (Value.slice A41 A41l A41c) w42 ∧
  I31 A41 A41l A41c (IntKind.wrap .i64 (k_34 + 1)) w42 ∧ μ32 A41 A41l A41c (IntKind.wrap .i64 (k_34 + 1)) w42 < μ32 g_33 g_33l g_33c k_34 w36))
  (V.when (decide ((0 : Int) ≤ i_26 ∧ (i_26 : Int) < (((ls_1l : Nat) : Nat) : Int))) (∃ w43, Sem.run Tryz.prog (Instr.storeAt 23 (Value.pointer (some (Addr.add ⟨Array.size (World.heap w), 0, none⟩ ((Int.toNat i_26) * 1)))) (Value.slice g_33 g_33l g_33c)) w36 = .ok () w43 ∧
  I24 (IntKind.wrap .i64 (i_26 + 1)) w43 ∧ μ25 (IntKind.wrap .i64 (i_26 + 1)) w43 < μ25 i_26 w28)))))
  (∃ I44 : Int → World → Prop, ∃ μ45 : Int → World → Nat, I44 0 w28 ∧
  ∀ i_46 (j47 : Nat → Value) (w48 : World), I44 i_46 w48 →
  (V.sel (decide (i_46 < ((ls_1l : Nat) : Int)))
  (∃ I49 : Int → World → Prop, ∃ μ50 : Int → World → Nat, I49 0 w48 ∧
  ∀ k_51 (j52 : Nat → Value) (w53 : World), I49 k_51 w53 →
  (V.when (decide ((0 : Int) ≤ i_46 ∧ (i_46 : Int) < ((ls_1l : Nat) : Int))) (V.ptr ls_1 fun a54 =>
  ∃ A55, ∃ A55l, ∃ A55c, World.cell? w53 (Addr.add a54 ((Int.toNat i_46) * 1)) = some (Value.slice A55 A55l A55c) ∧
  V.sel (decide (k_51 < ((A55l : Nat) : Int)))
  (∃ S56 : World → Prop, S56 (World.drew w53) ∧
  V.when (decide ((0 : Int) ≤ i_46 ∧ (i_46 : Int) < ((ls_1l : Nat) : Int))) (V.ptr ls_1 fun a58 =>
  ∃ A59, ∃ A59l, ∃ A59c, (∀ w57, S56 w57 → World.cell? w57 (Addr.add a58 ((Int.toNat i_46) * 1)) = some (Value.slice A59 A59l A59c)) ∧
  V.when (decide ((0 : Int) ≤ k_51 ∧ (k_51 : Int) < ((A59l : Nat) : Int))) (V.ptr A59 fun a60 =>
  ∃ s61, (∀ w57, S56 w57 → World.cell? w57 (Addr.add a60 ((Int.toNat k_51) * 1)) = some (Value.string s61)) ∧
  Calls Tryz.prog 13 #[(Value.int .i64 i_46), (Value.int .i64 k_51)] (World.drew w53) fun e63 w64 =>
  ∃ s62, e63 = Ending.returned (Value.string s62) ∧
  S56 w64 ∧
  V.sel (!(ByteArray.toList s61 == ByteArray.toList s62))
  (R (Ending.returned (Value.bool false)) w64)
  (I49 (IntKind.wrap .i64 (k_51 + 1)) w64 ∧ μ50 (IntKind.wrap .i64 (k_51 + 1)) w64 < μ50 k_51 w53))))
  (∃ I65 : Int → World → Prop, ∃ μ66 : Int → World → Nat, I65 0 w53 ∧
  ∀ k_67 (j68 : Nat → Value) (w69 : World), I65 k_67 w69 →
  (V.sel (decide (k_67 < 40))
  (∃ S70 : World → Prop, S70 (World.drew w69) ∧
  V.when (decide ((0 : Int) ≤ i_46 ∧ (i_46 : Int) < (((ls_1l : Nat) : Nat) : Int))) (∃ A72, ∃ A72l, ∃ A72c, (∀ w71, S70 w71 → World.cell? w71 (Addr.add ⟨Array.size (World.heap w), 0, none⟩ ((Int.toNat i_46) * 1)) = some (Value.slice A72 A72l A72c)) ∧
  V.when (decide ((0 : Int) ≤ i_46 ∧ (i_46 : Int) < ((ls_1l : Nat) : Int))) (V.ptr ls_1 fun a73 =>
  ∃ A74, ∃ A74l, ∃ A74c, (∀ w71, S70 w71 → World.cell? w71 (Addr.add a73 ((Int.toNat i_46) * 1)) = some (Value.slice A74 A74l A74c)) ∧
  V.when (decide ((0 : Int) ≤ (IntKind.wrap .i64 (((A74l : Nat) : Int) + k_67)) ∧ ((IntKind.wrap .i64 (((A74l : Nat) : Int) + k_67)) : Int) < ((A72l : Nat) : Int))) (V.ptr A72 fun a75 =>
  ∃ s76, (∀ w71, S70 w71 → World.cell? w71 (Addr.add a75 ((Int.toNat (IntKind.wrap .i64 (((A74l : Nat) : Int) + k_67))) * 1)) = some (Value.string s76)) ∧
  Calls Tryz.prog 13 #[(Value.int .i64 i_46), (Value.int .i64 k_67)] (World.drew w69) fun e78 w79 =>
  ∃ s77, e78 = Ending.returned (Value.string s77) ∧
  S70 w79 ∧
  V.when (decide (ByteArray.size s77 + ByteArray.size ⟨#[43]⟩ ≤ 9223372036854775807)) (V.sel (!(ByteArray.toList s76 == ByteArray.toList (s77 ++ ⟨#[43]⟩)))
  (R (Ending.returned (Value.bool false)) w79)
  (I65 (IntKind.wrap .i64 (k_67 + 1)) w79 ∧ μ66 (IntKind.wrap .i64 (k_67 + 1)) w79 < μ66 k_67 w69))))))
  (I44 (IntKind.wrap .i64 (i_46 + 1)) w69 ∧ μ45 (IntKind.wrap .i64 (i_46 + 1)) w69 < μ45 i_46 w48))))))
  (R (Ending.returned (Value.bool true)) w48)))))))) :
  Calls Tryz.prog 20 #[(Value.slice ls_1 ls_1l ls_1c)] w R :=
  V.calls_of_R ⟨V.assoc [(0, [4]), (1, [5]), (2, [6]), (3, [7, 8]), (4, [9]), (5, [10]), (6, [11])], V.assocP [(8, V.line [0, 1, 2, 3, 4, 5, 6, 7, 8, 9]), (24, V.line [0, 1, 2, 3, 4, 5, 6, 7, 8, 9, 10]), (29, V.line [0, 1, 2, 3, 4, 5, 6, 7, 8, 9, 10, 11, 12, 13, 14, 15, 16, 17])], V.assocC [], V.assocS [], ⟨[], true⟩⟩ Tryz.func20 rfl (Eq.mp (by kernel_rfl) h)

theorem berthlaw07_sets_nf (x_1 : Option Addr) (o_2 : Int) (o_3 : Int) (o_4 : Int) (o_5 : Option Addr) (o_5l : Nat) (o_5c : Nat) (o_6 : ByteArray) (o_7 : ByteArray) (o_8 : Option Addr) (o_8l : Nat) (o_8c : Nat) (w : World) (R : Ending → World → Prop) (h :
  ∀ w9, w9 = (World.alloc w (.cells #[(Value.int .i64 o_2), (Value.int .i64 o_3), (Value.int .i64 o_4), (Value.slice o_5 o_5l o_5c), (Value.string o_6), (Value.string o_7), (Value.slice o_8 o_8l o_8c)] 25)) →
  ∀ w10, w10 = (World.alloc w9 (.cells #[] 9)) →
  ∃ A11, ∃ A11l, ∃ A11c, World.cell? w10 (Addr.add ⟨Array.size (World.heap w), 0, none⟩ 6) = some (Value.slice A11 A11l A11c) ∧
  ∃ A12, ∃ A12l, ∃ A12c, ∃ w13, Sem.run Tryz.prog (Builtin.append_ #[23, 23] 23 #[(Value.slice (some ⟨Array.size (World.heap w9), 0, none⟩) 0 0), (Value.slice A11 A11l A11c)]) w10 = .ok (Value.slice A12 A12l A12c) w13 ∧
  ∃ S14 : World → Prop, S14 (World.drew w13) ∧
  ∃ s16, (∀ w15, S14 w15 → World.cell? w15 (Addr.add ⟨Array.size (World.heap w), 0, none⟩ 4) = some (Value.string s16)) ∧
  ∃ s17, (∀ w15, S14 w15 → World.cell? w15 (Addr.add ⟨Array.size (World.heap w), 0, none⟩ 5) = some (Value.string s17)) ∧
  ∃ s18, (∀ w15, S14 w15 → World.cell? w15 (Addr.add ⟨Array.size (World.heap w), 0, none⟩ 4) = some (Value.string s18)) ∧
  ∃ s19, (∀ w15, S14 w15 → World.cell? w15 (Addr.add ⟨Array.size (World.heap w), 0, none⟩ 4) = some (Value.string s19)) ∧
  Calls Tryz.prog 36 #[(Value.pointer x_1)] (World.drew w13) fun e21 w22 =>
  ∃ p20, e21 = Ending.returned (Value.pointer p20) ∧
  S14 w22 ∧
  Calls Tryz.prog 24 #[(Value.pointer x_1), (Value.string s16), (Value.string s17)] w22 fun e24 w25 =>
  ∃ p23, e24 = Ending.returned (Value.pointer p23) ∧
  S14 w25 ∧
  Calls Tryz.prog 41 #[(Value.pointer x_1), (Value.string s18), (Value.slice A12 A12l A12c)] w25 fun e27 w28 =>
  ∃ p26, e27 = Ending.returned (Value.pointer p26) ∧
  S14 w28 ∧
  Calls Tryz.prog 42 #[(Value.pointer x_1), (Value.string s19)] w28 fun e30 w31 =>
  ∃ p29, e30 = Ending.returned (Value.pointer p29) ∧
  S14 w31 ∧
  ∀ w32, w32 = (World.alloc w31 (.cells #[(Value.pointer p20), (Value.pointer p23), (Value.pointer p26), (Value.pointer p29)] 64)) →
  S14 w32 ∧
  ∃ S33 : World → Prop, S33 (World.drew w32) ∧
  ∃ s35, (∀ w34, S33 w34 → World.cell? w34 (Addr.add ⟨Array.size (World.heap w), 0, none⟩ 4) = some (Value.string s35)) ∧
  ∃ s36, (∀ w34, S33 w34 → World.cell? w34 (Addr.add ⟨Array.size (World.heap w), 0, none⟩ 5) = some (Value.string s36)) ∧
  ∃ s37, (∀ w34, S33 w34 → World.cell? w34 (Addr.add ⟨Array.size (World.heap w), 0, none⟩ 4) = some (Value.string s37)) ∧
  ∃ s38, (∀ w34, S33 w34 → World.cell? w34 (Addr.add ⟨Array.size (World.heap w), 0, none⟩ 4) = some (Value.string s38)) ∧
  Calls Tryz.prog 36 #[(Value.pointer x_1)] (World.drew w32) fun e40 w41 =>
  ∃ p39, e40 = Ending.returned (Value.pointer p39) ∧
  S33 w41 ∧
  Calls Tryz.prog 24 #[(Value.pointer x_1), (Value.string s35), (Value.string s36)] w41 fun e43 w44 =>
  ∃ p42, e43 = Ending.returned (Value.pointer p42) ∧
  S33 w44 ∧
  Calls Tryz.prog 41 #[(Value.pointer x_1), (Value.string s37), (Value.slice A12 A12l A12c)] w44 fun e46 w47 =>
  ∃ p45, e46 = Ending.returned (Value.pointer p45) ∧
  S33 w47 ∧
  Calls Tryz.prog 42 #[(Value.pointer x_1), (Value.string s38)] w47 fun e49 w50 =>
  ∃ p48, e49 = Ending.returned (Value.pointer p48) ∧
  S33 w50 ∧
  ∀ w51, w51 = (World.alloc w50 (.cells #[(Value.pointer p39), (Value.pointer p42), (Value.pointer p45), (Value.pointer p48)] 64)) →
  S33 w51 ∧
  ∃ A52, ∃ A52l, ∃ A52c, World.cell? w51 (Addr.add ⟨Array.size (World.heap w), 0, none⟩ 6) = some (Value.slice A52 A52l A52c) ∧
  Calls Tryz.prog 19 #[(Value.slice A12 A12l A12c), (Value.slice A52 A52l A52c)] w51 fun e54 w55 =>
  ∃ b53, e54 = Ending.returned (Value.bool b53) ∧
  V.sel (!b53)
  (R (Ending.returned (Value.bool false)) w55)
  (∃ I56 : Option Addr → Nat → Nat → Int → World → Prop, ∃ μ57 : Option Addr → Nat → Nat → Int → World → Nat, I56 none 0 0 0 w55 ∧
  ∀ was_58 was_58l was_58c i_59 (j60 : Nat → Value) (w61 : World), I56 was_58 was_58l was_58c i_59 w61 →
  (V.sel (decide (i_59 < 4))
  (∃ S62 : World → Prop, S62 (World.drew w61) ∧
  V.when (decide ((0 : Int) ≤ i_59 ∧ (i_59 : Int) < 4)) (∃ p64, (∀ w63, S62 w63 → World.cell? w63 (Addr.add ⟨Array.size (World.heap w31), 0, none⟩ ((Int.toNat i_59) * 1)) = some (Value.pointer p64)) ∧
  V.sel (Option.isNone p64)
  (R (Ending.returned (Value.bool false)) (World.drew w61))
  (V.when (decide ((0 : Int) ≤ i_59 ∧ (i_59 : Int) < 4)) (∃ p65, (∀ w63, S62 w63 → World.cell? w63 (Addr.add ⟨Array.size (World.heap w50), 0, none⟩ ((Int.toNat i_59) * 1)) = some (Value.pointer p65)) ∧
  V.sel (Option.isNone p65)
  (R (Ending.returned (Value.bool false)) (World.drew w61))
  (V.when (decide ((0 : Int) ≤ i_59 ∧ (i_59 : Int) < 4)) (∃ p66, (∀ w63, S62 w63 → World.cell? w63 (Addr.add ⟨Array.size (World.heap w31), 0, none⟩ ((Int.toNat i_59) * 1)) = some (Value.pointer p66)) ∧
  V.when (decide ((0 : Int) ≤ i_59 ∧ (i_59 : Int) < 4)) (∃ p67, (∀ w63, S62 w63 → World.cell? w63 (Addr.add ⟨Array.size (World.heap w50), 0, none⟩ ((Int.toNat i_59) * 1)) = some (Value.pointer p67)) ∧
  Calls Tryz.prog 35 #[(Value.pointer p66), (Value.pointer p67)] (World.drew w61) fun e69 w70 =>
  ∃ b68, e69 = Ending.returned (Value.bool b68) ∧
  S62 w70 ∧
  V.sel (!b68)
  (R (Ending.returned (Value.bool false)) w70)
  (V.when (decide ((0 : Int) ≤ i_59 ∧ (i_59 : Int) < 4)) (∃ p71, World.cell? w70 (Addr.add ⟨Array.size (World.heap w50), 0, none⟩ ((Int.toNat i_59) * 1)) = some (Value.pointer p71) ∧
  Calls Tryz.prog 43 #[(Value.pointer p71)] w70 fun e73 w74 =>
  ∃ A72, ∃ A72l, ∃ A72c, e73 = Ending.returned (Value.slice A72 A72l A72c) ∧
  ∀ w75, w75 = (World.alloc w74 (.cells #[(Value.slice A72 A72l A72c)] 66)) →
  ∃ A76, ∃ A76l, ∃ A76c, ∃ w77, Sem.run Tryz.prog (Builtin.append_ #[97, 97] 97 #[(Value.slice was_58 was_58l was_58c), (Value.slice (some ⟨Array.size (World.heap w74), 0, none⟩) 1 1)]) w75 = .ok (Value.slice A76 A76l A76c) w77 ∧
  I56 A76 A76l A76c (IntKind.wrap .i64 (i_59 + 1)) w77 ∧ μ57 A76 A76l A76c (IntKind.wrap .i64 (i_59 + 1)) w77 < μ57 was_58 was_58l was_58c i_59 w61)))))))))
  (∃ I78 : Int → World → Prop, ∃ μ79 : Int → World → Nat, I78 0 w61 ∧
  ∀ i_80 (j81 : Nat → Value) (w82 : World), I78 i_80 w82 →
  (V.sel (decide (i_80 < 4))
  (V.when (decide ((0 : Int) ≤ i_80 ∧ (i_80 : Int) < 4)) (∃ p83, World.cell? w82 (Addr.add ⟨Array.size (World.heap w31), 0, none⟩ ((Int.toNat i_80) * 1)) = some (Value.pointer p83) ∧
  Calls Tryz.prog 29 #[(Value.pointer p83), (Value.int .i64 i_80)] w82 fun e85 w86 =>
  ∃ b84, e85 = Ending.returned (Value.bool b84) ∧
  V.when (decide ((0 : Int) ≤ i_80 ∧ (i_80 : Int) < 4)) (∃ p87, World.cell? w86 (Addr.add ⟨Array.size (World.heap w31), 0, none⟩ ((Int.toNat i_80) * 1)) = some (Value.pointer p87) ∧
  Calls Tryz.prog 44 #[(Value.pointer p87), (Value.int .i64 4)] w86 fun e89 w90 =>
  ∃ b88, e89 = Ending.returned (Value.bool b88) ∧
  V.when (decide ((0 : Int) ≤ i_80 ∧ (i_80 : Int) < 4)) (∃ p91, World.cell? w90 (Addr.add ⟨Array.size (World.heap w31), 0, none⟩ ((Int.toNat i_80) * 1)) = some (Value.pointer p91) ∧
  Calls Tryz.prog 44 #[(Value.pointer p91), (Value.int .i64 5)] w90 fun e93 w94 =>
  ∃ b92, e93 = Ending.returned (Value.bool b92) ∧
  I78 (IntKind.wrap .i64 (i_80 + 1)) w94 ∧ μ79 (IntKind.wrap .i64 (i_80 + 1)) w94 < μ79 i_80 w82))))
  (∃ I95 : Int → World → Prop, ∃ μ96 : Int → World → Nat, I95 0 w82 ∧
  ∀ i_97 (j98 : Nat → Value) (w99 : World), I95 i_97 w99 →
  (V.sel (decide (i_97 < 4))
  (∃ S100 : World → Prop, S100 (World.drew w99) ∧
  V.when (decide ((0 : Int) ≤ i_97 ∧ (i_97 : Int) < 4)) (∃ p102, (∀ w101, S100 w101 → World.cell? w101 (Addr.add ⟨Array.size (World.heap w50), 0, none⟩ ((Int.toNat i_97) * 1)) = some (Value.pointer p102)) ∧
  V.when (decide ((0 : Int) ≤ i_97 ∧ (i_97 : Int) < ((was_58l : Nat) : Int))) (V.ptr was_58 fun a103 =>
  ∃ A104, ∃ A104l, ∃ A104c, (∀ w101, S100 w101 → World.cell? w101 (Addr.add a103 ((Int.toNat i_97) * 1)) = some (Value.slice A104 A104l A104c)) ∧
  Calls Tryz.prog 43 #[(Value.pointer p102)] (World.drew w99) fun e106 w107 =>
  ∃ A105, ∃ A105l, ∃ A105c, e106 = Ending.returned (Value.slice A105 A105l A105c) ∧
  S100 w107 ∧
  Calls Tryz.prog 45 #[(Value.slice A105 A105l A105c), (Value.slice A104 A104l A104c)] w107 fun e109 w110 =>
  ∃ b108, e109 = Ending.returned (Value.bool b108) ∧
  S100 w110 ∧
  V.sel (!b108)
  (R (Ending.returned (Value.bool false)) w110)
  (I95 (IntKind.wrap .i64 (i_97 + 1)) w110 ∧ μ96 (IntKind.wrap .i64 (i_97 + 1)) w110 < μ96 i_97 w99))))
  (∃ S111 : World → Prop, S111 (World.drew w99) ∧
  ∃ s113, (∀ w112, S111 w112 → World.cell? w112 (Addr.add ⟨Array.size (World.heap w), 0, none⟩ 4) = some (Value.string s113)) ∧
  ∃ s114, (∀ w112, S111 w112 → World.cell? w112 (Addr.add ⟨Array.size (World.heap w), 0, none⟩ 5) = some (Value.string s114)) ∧
  ∃ s115, (∀ w112, S111 w112 → World.cell? w112 (Addr.add ⟨Array.size (World.heap w), 0, none⟩ 4) = some (Value.string s115)) ∧
  ∃ s116, (∀ w112, S111 w112 → World.cell? w112 (Addr.add ⟨Array.size (World.heap w), 0, none⟩ 4) = some (Value.string s116)) ∧
  Calls Tryz.prog 36 #[(Value.pointer x_1)] (World.drew w99) fun e118 w119 =>
  ∃ p117, e118 = Ending.returned (Value.pointer p117) ∧
  S111 w119 ∧
  Calls Tryz.prog 24 #[(Value.pointer x_1), (Value.string s113), (Value.string s114)] w119 fun e121 w122 =>
  ∃ p120, e121 = Ending.returned (Value.pointer p120) ∧
  S111 w122 ∧
  Calls Tryz.prog 41 #[(Value.pointer x_1), (Value.string s115), (Value.slice A12 A12l A12c)] w122 fun e124 w125 =>
  ∃ p123, e124 = Ending.returned (Value.pointer p123) ∧
  S111 w125 ∧
  Calls Tryz.prog 42 #[(Value.pointer x_1), (Value.string s116)] w125 fun e127 w128 =>
  ∃ p126, e127 = Ending.returned (Value.pointer p126) ∧
  S111 w128 ∧
  ∀ w129, w129 = (World.alloc w128 (.cells #[(Value.pointer p117), (Value.pointer p120), (Value.pointer p123), (Value.pointer p126)] 64)) →
  S111 w129 ∧
  ∃ I130 : Int → World → Prop, ∃ μ131 : Int → World → Nat, I130 0 w129 ∧
  ∀ i_132 (j133 : Nat → Value) (w134 : World), I130 i_132 w134 →
  (V.sel (decide (i_132 < 4))
  (∃ S135 : World → Prop, S135 (World.drew w134) ∧
  V.when (decide ((0 : Int) ≤ i_132 ∧ (i_132 : Int) < 4)) (∃ p137, (∀ w136, S135 w136 → World.cell? w136 (Addr.add ⟨Array.size (World.heap w50), 0, none⟩ ((Int.toNat i_132) * 1)) = some (Value.pointer p137)) ∧
  V.when (decide ((0 : Int) ≤ i_132 ∧ (i_132 : Int) < ((was_58l : Nat) : Int))) (V.ptr was_58 fun a138 =>
  ∃ A139, ∃ A139l, ∃ A139c, (∀ w136, S135 w136 → World.cell? w136 (Addr.add a138 ((Int.toNat i_132) * 1)) = some (Value.slice A139 A139l A139c)) ∧
  Calls Tryz.prog 43 #[(Value.pointer p137)] (World.drew w134) fun e141 w142 =>
  ∃ A140, ∃ A140l, ∃ A140c, e141 = Ending.returned (Value.slice A140 A140l A140c) ∧
  S135 w142 ∧
  Calls Tryz.prog 45 #[(Value.slice A140 A140l A140c), (Value.slice A139 A139l A139c)] w142 fun e144 w145 =>
  ∃ b143, e144 = Ending.returned (Value.bool b143) ∧
  S135 w145 ∧
  V.sel (!b143)
  (R (Ending.returned (Value.bool false)) w145)
  (V.when (decide ((0 : Int) ≤ i_132 ∧ (i_132 : Int) < 4)) (∃ p146, (∀ w136, S135 w136 → World.cell? w136 (Addr.add ⟨Array.size (World.heap w128), 0, none⟩ ((Int.toNat i_132) * 1)) = some (Value.pointer p146)) ∧
  V.when (decide ((0 : Int) ≤ i_132 ∧ (i_132 : Int) < ((was_58l : Nat) : Int))) (V.ptr was_58 fun a147 =>
  ∃ A148, ∃ A148l, ∃ A148c, (∀ w136, S135 w136 → World.cell? w136 (Addr.add a147 ((Int.toNat i_132) * 1)) = some (Value.slice A148 A148l A148c)) ∧
  Calls Tryz.prog 43 #[(Value.pointer p146)] w145 fun e150 w151 =>
  ∃ A149, ∃ A149l, ∃ A149c, e150 = Ending.returned (Value.slice A149 A149l A149c) ∧
  S135 w151 ∧
  Calls Tryz.prog 45 #[(Value.slice A149 A149l A149c), (Value.slice A148 A148l A148c)] w151 fun e153 w154 =>
  ∃ b152, e153 = Ending.returned (Value.bool b152) ∧
  S135 w154 ∧
  V.sel (!b152)
  (R (Ending.returned (Value.bool false)) w154)
  (V.when (decide ((0 : Int) ≤ i_132 ∧ (i_132 : Int) < 4)) (∃ p155, (∀ w136, S135 w136 → World.cell? w136 (Addr.add ⟨Array.size (World.heap w31), 0, none⟩ ((Int.toNat i_132) * 1)) = some (Value.pointer p155)) ∧
  Calls Tryz.prog 46 #[(Value.pointer p155)] w154 fun e157 w158 =>
  ∃ n156, e157 = Ending.returned (Value.int .i64 n156) ∧
  S135 w158 ∧
  V.sel (n156 != 1)
  (R (Ending.returned (Value.bool false)) w158)
  (V.when (decide ((0 : Int) ≤ i_132 ∧ (i_132 : Int) < 4)) (∃ p159, (∀ w136, S135 w136 → World.cell? w136 (Addr.add ⟨Array.size (World.heap w31), 0, none⟩ ((Int.toNat i_132) * 1)) = some (Value.pointer p159)) ∧
  Calls Tryz.prog 27 #[(Value.pointer p159), (Value.int .i64 i_132)] w158 fun e161 w162 =>
  ∃ b160, e161 = Ending.returned (Value.bool b160) ∧
  S135 w162 ∧
  V.sel (!b160)
  (R (Ending.returned (Value.bool false)) w162)
  (I130 (IntKind.wrap .i64 (i_132 + 1)) w162 ∧ μ131 (IntKind.wrap .i64 (i_132 + 1)) w162 < μ131 i_132 w134)))))))))))
  (R (Ending.returned (Value.bool true)) w134)))))))))) :
  Calls Tryz.prog 21 #[(Value.pointer x_1), (Value.agg #[(Value.int .i64 o_2), (Value.int .i64 o_3), (Value.int .i64 o_4), (Value.slice o_5 o_5l o_5c), (Value.string o_6), (Value.string o_7), (Value.slice o_8 o_8l o_8c)])] w R :=
  V.calls_of_R ⟨V.assoc [(0, [8, 9]), (1, [10]), (2, [11]), (3, [13])], V.assocP [(2, V.line [0, 2, 3, 4, 5, 6, 8, 9, 10, 11, 13, 14, 15, 1, 7, 12, 16, 17, 18]), (3, V.line [0, 2, 3, 4, 5, 6, 8, 9, 10, 11, 13, 14, 15, 1, 7, 12, 16, 17, 18]), (10, V.line [0, 1, 2, 3, 4, 5, 6, 7, 8, 9, 10, 11, 12, 13, 14, 15, 16, 17, 18, 19, 20, 21, 22, 23]), (22, V.line [0, 1, 2, 3, 5, 6, 7, 8, 4, 9, 10]), (24, V.line [0, 2, 3, 4, 5, 6, 8, 9, 10, 11, 13, 14, 15, 1, 7, 12, 16, 17, 18]), (28, V.line [0, 1, 2, 3, 5, 6, 7, 8, 4, 9, 10, 11, 12, 13, 14, 15, 17, 18, 19, 20, 16, 21, 22, 23, 24, 25, 26, 27, 28, 29, 30, 31, 32, 33, 34, 35, 36, 37, 38, 39, 40])], V.assocC [], V.assocS [], ⟨[], true⟩⟩ Tryz.func21 rfl (Eq.mp (by kernel_rfl) h)

theorem berthlaw07_Pair_step_nf (g_1 : Option Addr) (o_2 : Int) (o_3 : Int) (o_4 : Int) (o_5 : Option Addr) (o_5l : Nat) (o_5c : Nat) (o_6 : ByteArray) (o_7 : ByteArray) (o_8 : Option Addr) (o_8l : Nat) (o_8c : Nat) (w : World) (R : Ending → World → Prop) (h :
  ∀ w9, w9 = (World.alloc w (.cells #[(Value.int .i64 o_2), (Value.int .i64 o_3), (Value.int .i64 o_4), (Value.slice o_5 o_5l o_5c), (Value.string o_6), (Value.string o_7), (Value.slice o_8 o_8l o_8c)] 25)) →
  ∃ n10, World.cell? w9 (Addr.add ⟨Array.size (World.heap w), 0, none⟩ 1) = some (Value.int .i64 n10) ∧
  V.lt (IntKind.wrap .i64 ((BitVec.toNat (BitVec.ofInt 64 n10 &&& BitVec.ofInt 64 1) : Nat) : Int)) fun x11 =>
  ∃ n12, World.cell? w9 (Addr.add ⟨Array.size (World.heap w), 0, none⟩ 0) = some (Value.int .i64 n12) ∧
  V.sel (n12 == 1)
  (∃ n13, World.cell? w9 (Addr.add ⟨Array.size (World.heap w), 0, none⟩ 2) = some (Value.int .i64 n13) ∧
  Calls Tryz.prog 6 #[(Value.int .i64 n13)] w9 fun e16 w17 =>
  ∃ p14, ∃ n15, e16 = Ending.returned (Value.tuple #[(Value.pointer p14), (Value.int .i64 n15)]) ∧
  ∃ n18, World.cell? w17 (Addr.add ⟨Array.size (World.heap w), 0, none⟩ 2) = some (Value.int .i64 n18) ∧
  Calls Tryz.prog 47 #[(Value.int .i64 n18)] w17 fun e22 w23 =>
  ∃ n19, ∃ A20, ∃ A20l, ∃ A20c, ∃ n21, e22 = Ending.returned (Value.tuple #[(Value.agg #[(Value.int .i64 n19), (Value.slice A20 A20l A20c)]), (Value.int .i64 n21)]) ∧
  ∀ w24, w24 = (World.alloc w23 (.cells #[(Value.int .i64 0), (Value.slice none 0 0)] 37)) →
  ∃ w25, Sem.run Tryz.prog (Instr.storeAt 37 (Value.pointer (some ⟨Array.size (World.heap w23), 0, none⟩)) (Value.agg #[(Value.int .i64 n19), (Value.slice A20 A20l A20c)])) w24 = .ok () w25 ∧
  ∃ J26 : Bool → World → Prop, (∃ J27 : Bool → World → Prop, (Calls Tryz.prog 11 #[(Value.int .i64 n15)] w25 fun e29 w30 =>
  ∃ n28, e29 = Ending.returned (Value.int .i64 n28) ∧
  V.sel (n28 != n21)
  (J27 true w30)
  (J27 (!((Option.isNone p14) == (n21 != 0))) w30)) ∧
  ∀ t39_31 (j32 : Nat → Value) (w33 : World), J27 t39_31 w33 →
  V.sel t39_31
  (R (Ending.returned (Value.bool false)) w33)
  (J26 false w33)) ∧
  ∀ t4_34 (j35 : Nat → Value) (w36 : World), J26 t4_34 w36 →
  V.sel (n21 == 0)
  (∃ S37 : World → Prop, S37 (World.drew w36) ∧
  ∃ n39, ∃ A40, ∃ A40l, ∃ A40c, V.cellsC (fun a_ x_ => ∀ w38, S37 w38 → World.cell? w38 a_ = some x_) ⟨Array.size (World.heap w23), 0, none⟩ [(Value.int .i64 n39), (Value.slice A40 A40l A40c)] ∧
  V.ptr g_1 fun a41 =>
  V.when (decide ((0 : Int) ≤ x11 ∧ (x11 : Int) < 2)) (V.ptr g_1 fun a42 =>
  V.ptr g_1 fun a43 =>
  ∃ w44, Sem.run Tryz.prog (Instr.storeAt 27 (Value.pointer (some (Addr.add (Addr.add a41 0) ((Int.toNat x11) * 1)))) (Value.pointer p14)) (World.drew w36) = .ok () w44 ∧
  S37 w44 ∧
  V.when (decide ((0 : Int) ≤ x11 ∧ (x11 : Int) < 2)) (∃ w45, Sem.run Tryz.prog (Instr.storeAt 37 (Value.pointer (some (Addr.add (Addr.add a42 2) ((Int.toNat x11) * 2)))) (Value.agg #[(Value.int .i64 n39), (Value.slice A40 A40l A40c)])) w44 = .ok () w45 ∧
  S37 w45 ∧
  V.when (decide ((0 : Int) ≤ x11 ∧ (x11 : Int) < 2)) (∃ w46, Sem.run Tryz.prog (Instr.storeAt 4 (Value.pointer (some (Addr.add (Addr.add a43 6) ((Int.toNat x11) * 1)))) (Value.bool false)) w45 = .ok () w46 ∧
  S37 w46 ∧
  R (Ending.returned (Value.bool true)) w46))))
  (R (Ending.returned (Value.bool true)) w36))
  (∃ n47, World.cell? w9 (Addr.add ⟨Array.size (World.heap w), 0, none⟩ 0) = some (Value.int .i64 n47) ∧
  V.sel (n47 == 13)
  (∃ S48 : World → Prop, S48 (World.drew w9) ∧
  V.ptr g_1 fun a50 =>
  V.when (decide ((0 : Int) ≤ x11 ∧ (x11 : Int) < 2)) (V.ptr g_1 fun a51 =>
  V.ptr g_1 fun a52 =>
  ∃ w53, Sem.run Tryz.prog (Instr.storeAt 27 (Value.pointer (some (Addr.add (Addr.add a50 0) ((Int.toNat x11) * 1)))) (Value.pointer none)) (World.drew w9) = .ok () w53 ∧
  S48 w53 ∧
  V.when (decide ((0 : Int) ≤ x11 ∧ (x11 : Int) < 2)) (∃ w54, Sem.run Tryz.prog (Instr.storeAt 37 (Value.pointer (some (Addr.add (Addr.add a51 2) ((Int.toNat x11) * 2)))) (Value.agg #[(Value.int .i64 0), (Value.slice none 0 0)])) w53 = .ok () w54 ∧
  S48 w54 ∧
  V.when (decide ((0 : Int) ≤ x11 ∧ (x11 : Int) < 2)) (∃ w55, Sem.run Tryz.prog (Instr.storeAt 4 (Value.pointer (some (Addr.add (Addr.add a52 6) ((Int.toNat x11) * 1)))) (Value.bool true)) w54 = .ok () w55 ∧
  S48 w55 ∧
  R (Ending.returned (Value.bool true)) w55))))
  (∃ J56 : Bool → World → Prop, (∃ n57, World.cell? w9 (Addr.add ⟨Array.size (World.heap w), 0, none⟩ 0) = some (Value.int .i64 n57) ∧
  V.sel (decide (n57 ≥ 2))
  (∃ n58, World.cell? w9 (Addr.add ⟨Array.size (World.heap w), 0, none⟩ 0) = some (Value.int .i64 n58) ∧
  J56 (decide (n58 ≤ 4)) w9)
  (J56 false w9)) ∧
  ∀ t79_59 (j60 : Nat → Value) (w61 : World), J56 t79_59 w61 →
  V.sel t79_59
  (∃ n62, ∃ n63, ∃ n64, ∃ A65, ∃ A65l, ∃ A65c, ∃ s66, ∃ s67, ∃ A68, ∃ A68l, ∃ A68c, V.cellsC (fun a_ x_ => World.cell? w61 a_ = some x_) ⟨Array.size (World.heap w), 0, none⟩ [(Value.int .i64 n62), (Value.int .i64 n63), (Value.int .i64 n64), (Value.slice A65 A65l A65c), (Value.string s66), (Value.string s67), (Value.slice A68 A68l A68c)] ∧
  Calls Tryz.prog 48 #[(Value.pointer g_1), (Value.agg #[(Value.int .i64 n62), (Value.int .i64 n63), (Value.int .i64 n64), (Value.slice A65 A65l A65c), (Value.string s66), (Value.string s67), (Value.slice A68 A68l A68c)])] w61 fun e70 w71 =>
  ∃ b69, e70 = Ending.returned (Value.bool b69) ∧
  R (Ending.returned (Value.bool b69)) w71)
  (∃ J72 : Bool → World → Prop, (∃ n73, World.cell? w61 (Addr.add ⟨Array.size (World.heap w), 0, none⟩ 0) = some (Value.int .i64 n73) ∧
  V.sel (decide (n73 ≥ 5))
  (∃ n74, World.cell? w61 (Addr.add ⟨Array.size (World.heap w), 0, none⟩ 0) = some (Value.int .i64 n74) ∧
  J72 (decide (n74 ≤ 12)) w61)
  (J72 false w61)) ∧
  ∀ t91_75 (j76 : Nat → Value) (w77 : World), J72 t91_75 w77 →
  V.sel t91_75
  (∃ J78 : Bool → World → Prop, (V.ptr g_1 fun a79 =>
  V.when (decide ((0 : Int) ≤ x11 ∧ (x11 : Int) < 2)) (∃ b80, World.cell? w77 (Addr.add (Addr.add a79 6) ((Int.toNat x11) * 1)) = some (Value.bool b80) ∧
  V.sel b80
  (∃ n81, World.cell? w77 (Addr.add ⟨Array.size (World.heap w), 0, none⟩ 0) = some (Value.int .i64 n81) ∧
  V.sel (n81 != 12)
  (∃ n82, World.cell? w77 (Addr.add ⟨Array.size (World.heap w), 0, none⟩ 0) = some (Value.int .i64 n82) ∧
  V.sel (n82 != 10)
  (∃ n83, World.cell? w77 (Addr.add ⟨Array.size (World.heap w), 0, none⟩ 0) = some (Value.int .i64 n83) ∧
  V.sel (n83 != 11)
  (∃ n84, World.cell? w77 (Addr.add ⟨Array.size (World.heap w), 0, none⟩ 0) = some (Value.int .i64 n84) ∧
  J78 (n84 != 6) w77)
  (J78 false w77))
  (J78 false w77))
  (J78 false w77))
  (J78 false w77))) ∧
  ∀ t125_85 (j86 : Nat → Value) (w87 : World), J78 t125_85 w87 →
  V.sel t125_85
  (∃ n88, ∃ n89, ∃ n90, ∃ A91, ∃ A91l, ∃ A91c, ∃ s92, ∃ s93, ∃ A94, ∃ A94l, ∃ A94c, V.cellsC (fun a_ x_ => World.cell? w87 a_ = some x_) ⟨Array.size (World.heap w), 0, none⟩ [(Value.int .i64 n88), (Value.int .i64 n89), (Value.int .i64 n90), (Value.slice A91 A91l A91c), (Value.string s92), (Value.string s93), (Value.slice A94 A94l A94c)] ∧
  Calls Tryz.prog 49 #[(Value.pointer g_1), (Value.agg #[(Value.int .i64 n88), (Value.int .i64 n89), (Value.int .i64 n90), (Value.slice A91 A91l A91c), (Value.string s92), (Value.string s93), (Value.slice A94 A94l A94c)])] w87 fun e96 w97 =>
  ∃ b95, e96 = Ending.returned (Value.bool b95) ∧
  R (Ending.returned (Value.bool b95)) w97)
  (∃ n98, ∃ n99, ∃ n100, ∃ A101, ∃ A101l, ∃ A101c, ∃ s102, ∃ s103, ∃ A104, ∃ A104l, ∃ A104c, V.cellsC (fun a_ x_ => World.cell? w87 a_ = some x_) ⟨Array.size (World.heap w), 0, none⟩ [(Value.int .i64 n98), (Value.int .i64 n99), (Value.int .i64 n100), (Value.slice A101 A101l A101c), (Value.string s102), (Value.string s103), (Value.slice A104 A104l A104c)] ∧
  Calls Tryz.prog 50 #[(Value.pointer g_1), (Value.agg #[(Value.int .i64 n98), (Value.int .i64 n99), (Value.int .i64 n100), (Value.slice A101 A101l A101c), (Value.string s102), (Value.string s103), (Value.slice A104 A104l A104c)])] w87 fun e106 w107 =>
  ∃ b105, e106 = Ending.returned (Value.bool b105) ∧
  R (Ending.returned (Value.bool b105)) w107))
  (R (Ending.returned (Value.bool true)) w77))))) :
  Calls Tryz.prog 22 #[(Value.pointer g_1), (Value.agg #[(Value.int .i64 o_2), (Value.int .i64 o_3), (Value.int .i64 o_4), (Value.slice o_5 o_5l o_5c), (Value.string o_6), (Value.string o_7), (Value.slice o_8 o_8l o_8c)])] w R :=
  V.calls_of_R ⟨V.assoc [], V.assocP [(8, V.line [0, 1, 2, 3, 4, 5, 6, 7, 8, 9, 10, 12, 13, 16, 17, 11, 14, 15, 18, 19]), (10, V.line [0, 1, 2, 3, 4, 5, 6, 7, 8, 9, 11, 12, 15, 16, 10, 13, 14, 17, 18])], V.assocC [(1000007, ([39], [V.Sh.one .bool])), (1000008, ([4], [V.Sh.one .bool])), (1000013, ([79], [V.Sh.one .bool])), (1000015, ([91], [V.Sh.one .bool])), (1000016, ([125], [V.Sh.one .bool]))], V.assocS [], ⟨[], true⟩⟩ Tryz.func22 rfl (Eq.mp (by kernel_rfl) h)

theorem berthlaw07_is_nf (s_1 : Option Addr) (size_2 : Int) (l_3 : Option Addr) (l_3l : Nat) (l_3c : Nat) (w : World) (R : Ending → World → Prop) (h :
  V.sel (!(Option.isNone s_1))
  (Calls Tryz.prog 51 #[(Value.pointer s_1)] w fun e5 w6 =>
  ∃ n4, e5 = Ending.returned (Value.int .i64 n4) ∧
  V.sel (n4 == size_2)
  (Calls Tryz.prog 43 #[(Value.pointer s_1)] w6 fun e8 w9 =>
  ∃ A7, ∃ A7l, ∃ A7c, e8 = Ending.returned (Value.slice A7 A7l A7c) ∧
  Calls Tryz.prog 45 #[(Value.slice A7 A7l A7c), (Value.slice l_3 l_3l l_3c)] w9 fun e11 w12 =>
  ∃ b10, e11 = Ending.returned (Value.bool b10) ∧
  R (Ending.returned (Value.bool b10)) w12)
  (R (Ending.returned (Value.bool false)) w6))
  (R (Ending.returned (Value.bool false)) w)) :
  Calls Tryz.prog 23 #[(Value.pointer s_1), (Value.int .i64 size_2), (Value.slice l_3 l_3l l_3c)] w R :=
  V.calls_of_R ⟨V.assoc [], V.assocP [], V.assocC [], V.assocS [], ⟨[], true⟩⟩ Tryz.func23 rfl (Eq.mp (by kernel_rfl) h)

theorem posting_Index_With_nf (x_1 : Option Addr) (key_2 : ByteArray) (value_3 : ByteArray) (w : World) (R : Ending → World → Prop) (h :
  Calls Tryz.prog 52 #[(Value.pointer x_1)] w fun e5 w6 =>
  ∃ p4, e5 = Ending.returned (Value.pointer p4) ∧
  Calls Tryz.prog 40 #[(Value.pointer x_1), (Value.string key_2)] w6 fun e8 w9 =>
  ∃ m7, e8 = Ending.returned (Value.map m7) ∧
  ∃ p10, ∃ w11, Sem.run Tryz.prog (Instr.lookup 92 (Value.map m7) (Value.string value_3) false) w9 = .ok (Value.pointer p10) w11 ∧
  Calls Tryz.prog 53 #[(Value.pointer p4), (Value.pointer p10)] w11 fun e12 w13 =>
  e12 = Ending.returned undef ∧
  R (Ending.returned (Value.pointer p4)) w13) :
  Calls Tryz.prog 24 #[(Value.pointer x_1), (Value.string key_2), (Value.string value_3)] w R :=
  V.calls_of_R ⟨V.assoc [], V.assocP [], V.assocC [], V.assocS [], ⟨[], true⟩⟩ Tryz.func24 rfl (Eq.mp (by kernel_rfl) h)

theorem posting_Index_Count_nf (x_1 : Option Addr) (key_2 : ByteArray) (value_3 : ByteArray) (w : World) (R : Ending → World → Prop) (h :
  Calls Tryz.prog 40 #[(Value.pointer x_1), (Value.string key_2)] w fun e5 w6 =>
  ∃ m4, e5 = Ending.returned (Value.map m4) ∧
  ∃ p7, ∃ w8, Sem.run Tryz.prog (Instr.lookup 92 (Value.map m4) (Value.string value_3) false) w6 = .ok (Value.pointer p7) w8 ∧
  Calls Tryz.prog 46 #[(Value.pointer p7)] w8 fun e10 w11 =>
  ∃ n9, e10 = Ending.returned (Value.int .i64 n9) ∧
  R (Ending.returned (Value.int .i64 n9)) w11) :
  Calls Tryz.prog 25 #[(Value.pointer x_1), (Value.string key_2), (Value.string value_3)] w R :=
  V.calls_of_R ⟨V.assoc [], V.assocP [], V.assocC [], V.assocS [], ⟨[], true⟩⟩ Tryz.func25 rfl (Eq.mp (by kernel_rfl) h)

theorem posting_listError_nf (list_1 : Option Addr) (list_1l : Nat) (list_1c : Nat) (w : World) (R : Ending → World → Prop) (h :
  Calls Tryz.prog 56 #[(Value.slice list_1 list_1l list_1c)] w fun e4 w5 =>
  ∃ n2, ∃ n3, e4 = Ending.returned (Value.tuple #[(Value.int .i64 n2), (Value.int .i64 n3)]) ∧
  R (Ending.returned (Value.int .i64 n3)) w5) :
  Calls Tryz.prog 28 #[(Value.slice list_1 list_1l list_1c)] w R :=
  V.calls_of_R ⟨V.assoc [], V.assocP [], V.assocC [], V.assocS [], ⟨[], true⟩⟩ Tryz.func28 rfl (Eq.mp (by kernel_rfl) h)

theorem posting_Index_enter_nf (x_1 : Option Addr) (slot_2 : Int) (list_3 : Option Addr) (list_3l : Nat) (list_3c : Nat) (w : World) (R : Ending → World → Prop) (h :
  ∃ S4 : World → Prop, S4 (World.drew w) ∧
  V.ptr x_1 fun a6 =>
  ∃ m7, (∀ w5, S4 w5 → World.cell? w5 (Addr.add a6 2) = some (Value.map m7)) ∧
  ∀ w8, w8 = (World.alloc (World.drew w) (.cells #[] 33)) →
  S4 w8 ∧
  ∃ A9, ∃ A9l, ∃ A9c, ∃ w10, Sem.run Tryz.prog (Builtin.append_ #[22, 22] 22 #[(Value.slice (some ⟨Array.size (World.heap (World.drew w)), 0, none⟩) 0 0), (Value.slice list_3 list_3l list_3c)]) w8 = .ok (Value.slice A9 A9l A9c) w10 ∧
  S4 w10 ∧
  ∃ w11, Sem.run Tryz.prog (Instr.mapUpdate 70 (Value.map m7) (Value.int .i64 slot_2) (Value.slice A9 A9l A9c)) w10 = .ok () w11 ∧
  ∃ I12 : Int → World → Prop, ∃ μ13 : Int → World → Nat, I12 0 w11 ∧
  ∀ t18_14 (j15 : Nat → Value) (w16 : World), I12 t18_14 w16 →
  (V.sel (decide (t18_14 < ((list_3l : Nat) : Int)))
  (V.when (decide ((0 : Int) ≤ t18_14 ∧ (t18_14 : Int) < ((list_3l : Nat) : Int))) (V.ptr list_3 fun a17 =>
  ∃ s18, ∃ s19, V.cellsC (fun a_ x_ => World.cell? w16 a_ = some x_) (Addr.add a17 ((Int.toNat t18_14) * 2)) [(Value.string s18), (Value.string s19)] ∧
  ∀ w20, w20 = (World.alloc w16 (.cells #[(Value.string ByteArray.empty), (Value.string ByteArray.empty)] 33)) →
  ∃ w21, Sem.run Tryz.prog (Instr.storeAt 33 (Value.pointer (some ⟨Array.size (World.heap w16), 0, none⟩)) (Value.agg #[(Value.string s18), (Value.string s19)])) w20 = .ok () w21 ∧
  ∃ J22 : World → Prop, (∃ S23 : World → Prop, S23 (World.drew w21) ∧
  V.ptr x_1 fun a25 =>
  ∃ m26, (∀ w24, S23 w24 → World.cell? w24 (Addr.add a25 3) = some (Value.map m26)) ∧
  ∃ s27, (∀ w24, S23 w24 → World.cell? w24 (Addr.add ⟨Array.size (World.heap w16), 0, none⟩ 0) = some (Value.string s27)) ∧
  ∃ m28, ∃ w29, Sem.run Tryz.prog (Instr.lookup 71 (Value.map m26) (Value.string s27) false) (World.drew w21) = .ok (Value.map m28) w29 ∧
  S23 w29 ∧
  V.sel (Option.isNone m28)
  (∃ S30 : World → Prop, S30 (World.drew w29) ∧
  V.ptr x_1 fun a32 =>
  ∃ m33, (∀ w31, S30 w31 → World.cell? w31 (Addr.add a32 3) = some (Value.map m33)) ∧
  ∃ s34, (∀ w31, S30 w31 → World.cell? w31 (Addr.add ⟨Array.size (World.heap w16), 0, none⟩ 0) = some (Value.string s34)) ∧
  ∀ w35, w35 = (World.alloc (World.drew w29) (.map #[] 0)) →
  S30 w35 ∧
  ∃ w36, Sem.run Tryz.prog (Instr.mapUpdate 71 (Value.map m33) (Value.string s34) (Value.map (some (Array.size (World.heap (World.drew w29)))))) w35 = .ok () w36 ∧
  J22  w36)
  (J22  w29)) ∧
  ∀ (j37 : Nat → Value) (w38 : World), J22  w38 →
  ∃ S39 : World → Prop, S39 (World.drew w38) ∧
  V.ptr x_1 fun a41 =>
  ∃ m42, (∀ w40, S39 w40 → World.cell? w40 (Addr.add a41 3) = some (Value.map m42)) ∧
  ∃ s43, (∀ w40, S39 w40 → World.cell? w40 (Addr.add ⟨Array.size (World.heap w16), 0, none⟩ 0) = some (Value.string s43)) ∧
  ∃ s44, (∀ w40, S39 w40 → World.cell? w40 (Addr.add ⟨Array.size (World.heap w16), 0, none⟩ 1) = some (Value.string s44)) ∧
  ∃ m45, ∃ w46, Sem.run Tryz.prog (Instr.lookup 71 (Value.map m42) (Value.string s43) false) (World.drew w38) = .ok (Value.map m45) w46 ∧
  S39 w46 ∧
  ∃ p47, ∃ w48, Sem.run Tryz.prog (Instr.lookup 92 (Value.map m45) (Value.string s44) false) w46 = .ok (Value.pointer p47) w48 ∧
  S39 w48 ∧
  V.sel (Option.isNone p47)
  (∃ J49 : World → Prop, (∃ S50 : World → Prop, S50 (World.drew w48) ∧
  V.ptr x_1 fun a52 =>
  ∃ m53, (∀ w51, S50 w51 → World.cell? w51 (Addr.add a52 3) = some (Value.map m53)) ∧
  ∃ s54, (∀ w51, S50 w51 → World.cell? w51 (Addr.add ⟨Array.size (World.heap w16), 0, none⟩ 0) = some (Value.string s54)) ∧
  ∃ s55, (∀ w51, S50 w51 → World.cell? w51 (Addr.add ⟨Array.size (World.heap w16), 0, none⟩ 1) = some (Value.string s55)) ∧
  (∃ m56, ∃ w57, Sem.run Tryz.prog (Instr.lookup 71 (Value.map m53) (Value.string s54) false) (World.drew w48) = .ok (Value.map m56) w57 ∧
  S50 w57 ∧
  Calls Tryz.prog 52 #[(Value.pointer x_1)] w57 fun e59 w60 =>
  ∃ p58, e59 = Ending.returned (Value.pointer p58) ∧
  S50 w60 ∧
  ∃ w61, Sem.run Tryz.prog (Instr.mapUpdate 92 (Value.map m56) (Value.string s55) (Value.pointer p58)) w60 = .ok () w61 ∧
  J49  w61) ∧
  (Calls Tryz.prog 52 #[(Value.pointer x_1)] (World.drew w48) fun e63 w64 =>
  ∃ p62, e63 = Ending.returned (Value.pointer p62) ∧
  S50 w64 ∧
  ∃ m65, ∃ w66, Sem.run Tryz.prog (Instr.lookup 71 (Value.map m53) (Value.string s54) false) w64 = .ok (Value.map m65) w66 ∧
  S50 w66 ∧
  ∃ w67, Sem.run Tryz.prog (Instr.mapUpdate 92 (Value.map m65) (Value.string s55) (Value.pointer p62)) w66 = .ok () w67 ∧
  J49  w67) ∧ True) ∧
  ∀ (j68 : Nat → Value) (w69 : World), J49  w69 →
  ∃ S70 : World → Prop, S70 (World.drew w69) ∧
  V.ptr x_1 fun a72 =>
  ∃ m73, (∀ w71, S70 w71 → World.cell? w71 (Addr.add a72 3) = some (Value.map m73)) ∧
  ∃ s74, (∀ w71, S70 w71 → World.cell? w71 (Addr.add ⟨Array.size (World.heap w16), 0, none⟩ 0) = some (Value.string s74)) ∧
  ∃ s75, (∀ w71, S70 w71 → World.cell? w71 (Addr.add ⟨Array.size (World.heap w16), 0, none⟩ 1) = some (Value.string s75)) ∧
  ∃ m76, ∃ w77, Sem.run Tryz.prog (Instr.lookup 71 (Value.map m73) (Value.string s74) false) (World.drew w69) = .ok (Value.map m76) w77 ∧
  S70 w77 ∧
  ∃ p78, ∃ w79, Sem.run Tryz.prog (Instr.lookup 92 (Value.map m76) (Value.string s75) false) w77 = .ok (Value.pointer p78) w79 ∧
  S70 w79 ∧
  Calls Tryz.prog 29 #[(Value.pointer p78), (Value.int .i64 slot_2)] w79 fun e81 w82 =>
  ∃ b80, e81 = Ending.returned (Value.bool b80) ∧
  S70 w82 ∧
  I12 (IntKind.wrap .i64 (t18_14 + 1)) w82 ∧ μ13 (IntKind.wrap .i64 (t18_14 + 1)) w82 < μ13 t18_14 w16)
  (∃ S83 : World → Prop, S83 (World.drew w48) ∧
  V.ptr x_1 fun a85 =>
  ∃ m86, (∀ w84, S83 w84 → World.cell? w84 (Addr.add a85 3) = some (Value.map m86)) ∧
  ∃ s87, (∀ w84, S83 w84 → World.cell? w84 (Addr.add ⟨Array.size (World.heap w16), 0, none⟩ 0) = some (Value.string s87)) ∧
  ∃ s88, (∀ w84, S83 w84 → World.cell? w84 (Addr.add ⟨Array.size (World.heap w16), 0, none⟩ 1) = some (Value.string s88)) ∧
  ∃ m89, ∃ w90, Sem.run Tryz.prog (Instr.lookup 71 (Value.map m86) (Value.string s87) false) (World.drew w48) = .ok (Value.map m89) w90 ∧
  S83 w90 ∧
  ∃ p91, ∃ w92, Sem.run Tryz.prog (Instr.lookup 92 (Value.map m89) (Value.string s88) false) w90 = .ok (Value.pointer p91) w92 ∧
  S83 w92 ∧
  Calls Tryz.prog 29 #[(Value.pointer p91), (Value.int .i64 slot_2)] w92 fun e94 w95 =>
  ∃ b93, e94 = Ending.returned (Value.bool b93) ∧
  S83 w95 ∧
  I12 (IntKind.wrap .i64 (t18_14 + 1)) w95 ∧ μ13 (IntKind.wrap .i64 (t18_14 + 1)) w95 < μ13 t18_14 w16)))
  (R (Ending.returned undef) w16))) :
  Calls Tryz.prog 30 #[(Value.pointer x_1), (Value.int .i64 slot_2), (Value.slice list_3 list_3l list_3c)] w R :=
  V.calls_of_R ⟨V.assoc [(0, [18])], V.assocP [(0, V.line [0, 1, 2, 3, 4, 6, 5, 7, 8]), (4, V.line [0, 1, 2, 3, 4, 5, 6, 7]), (5, V.line [0, 1, 2, 3, 4, 5, 6, 7]), (6, V.line [0, 1, 2, 3, 4, 5, 7, 8, 6, 9, 10]), (7, (V.Plan.one 0 (V.Plan.one 1 (V.Plan.one 2 (V.Plan.one 3 (V.Plan.one 4 (V.Plan.one 5 (V.Plan.one 7 (V.Plan.one 8 (V.Plan.one 9 (V.Plan.alt 6 (V.Plan.one 10 (V.Plan.one 11 V.Plan.done)) (V.Plan.alt 10 (V.Plan.one 6 (V.Plan.one 11 V.Plan.done)) V.Plan.stop)))))))))))), (8, V.line [0, 1, 2, 3, 4, 5, 7, 8, 10, 6, 9, 11])], V.assocC [(1000007, ([], [])), (7, ([], []))], V.assocS [], ⟨[], true⟩⟩ Tryz.func30 rfl (Eq.mp (by kernel_rfl) h)

end Go.Proofs.YtpipenkaaodlgaaGreatDoor
