/- Normal forms of the program's functions, printed by a program of mine; the kernel checks each. -/
import Derived.Test.YtpipenkaaodlgaaDoorProg
import Derived.Test.YtpipenkaaodlgaaDoorV2
set_option linter.unusedVariables false
set_option maxRecDepth 100000
namespace Go.Proofs.YtpipenkaaodlgaaDoor
open Go

theorem berthlaw07_awake_nf  (w : World) (R : Ending → World → Prop) (h :
  Calls Tryd.prog 23 #[(Value.int .i64 3)] w fun e3 w4 =>
  ∃ p1, ∃ n2, e3 = Ending.returned (Value.tuple #[(Value.pointer p1), (Value.int .i64 n2)]) ∧
  V.sel (Option.isNone p1)
  (R (Ending.returned (Value.bool false)) w4)
  (Calls Tryd.prog 8 #[(Value.int .i64 n2)] w4 fun e6 w7 =>
  ∃ n5, e6 = Ending.returned (Value.int .i64 n5) ∧
  V.sel (n5 != 0)
  (R (Ending.returned (Value.bool false)) w7)
  (∀ w8, w8 = (World.alloc w7 (.cells #[(Value.string ⟨#[122, 111, 110, 101]⟩), (Value.string ⟨#[97]⟩)] 36)) →
  Calls Tryd.prog 9 #[(Value.pointer p1), (Value.int .i64 2), (Value.slice (some ⟨Array.size (World.heap w7), 0, none⟩) 1 1)] w8 fun e10 w11 =>
  ∃ n9, e10 = Ending.returned (Value.int .i64 n9) ∧
  Calls Tryd.prog 8 #[(Value.int .i64 n9)] w11 fun e13 w14 =>
  ∃ n12, e13 = Ending.returned (Value.int .i64 n12) ∧
  V.sel (n12 == 0)
  (Calls Tryd.prog 21 #[(Value.pointer p1), (Value.string ⟨#[122, 111, 110, 101]⟩), (Value.string ⟨#[97]⟩)] w14 fun e16 w17 =>
  ∃ p15, e16 = Ending.returned (Value.pointer p15) ∧
  ∀ w18, w18 = (World.alloc w17 (.cells #[(Value.int .i64 2)] 3)) →
  Calls Tryd.prog 28 #[(Value.pointer p15), (Value.int .i64 3), (Value.slice (some ⟨Array.size (World.heap w17), 0, none⟩) 1 1)] w18 fun e20 w21 =>
  ∃ b19, e20 = Ending.returned (Value.bool b19) ∧
  V.sel b19
  (Calls Tryd.prog 29 #[(Value.pointer p1), (Value.string ⟨#[122, 111, 110, 101]⟩), (Value.string ⟨#[97]⟩)] w21 fun e23 w24 =>
  ∃ n22, e23 = Ending.returned (Value.int .i64 n22) ∧
  R (Ending.returned (Value.bool (n22 == 1))) w24)
  (R (Ending.returned (Value.bool false)) w21))
  (R (Ending.returned (Value.bool false)) w14)))) :
  Calls Tryd.prog 6 #[] w R :=
  V.calls_of_R ⟨V.assoc [], V.assocP [], V.assocC [], V.assocS [], ⟨[], true⟩⟩ Tryd.func6 rfl (Eq.mp (by kernel_rfl) h)

theorem berthlaw07_play_nf (script_1 : Option Addr) (script_1l : Nat) (script_1c : Nat) (w : World) (R : Ending → World → Prop) (h :
  Calls Tryd.prog 23 #[(Value.int .i64 100)] w fun e4 w5 =>
  ∃ p2, ∃ n3, e4 = Ending.returned (Value.tuple #[(Value.pointer p2), (Value.int .i64 n3)]) ∧
  V.sel (Option.isNone p2)
  (R (Ending.returned (Value.pointer none)) w5)
  (∃ I6 : Int → World → Prop, ∃ μ7 : Int → World → Nat, I6 0 w5 ∧
  ∀ i_8 (j9 : Nat → Value) (w10 : World), I6 i_8 w10 →
  (V.sel (decide (i_8 < ((script_1l : Nat) : Int)))
  (V.when (decide ((0 : Int) ≤ i_8 ∧ (i_8 : Int) < ((script_1l : Nat) : Int))) (V.ptr script_1 fun a11 =>
  ∃ n12, World.cell? w10 (Addr.add (Addr.add a11 ((Int.toNat i_8) * 7)) 2) = some (Value.int .i64 n12) ∧
  V.lt (Int.tmod (IntKind.wrap .i64 ((Int.tmod n12 100) + 100)) 100) fun x13 =>
  V.when (decide ((0 : Int) ≤ i_8 ∧ (i_8 : Int) < ((script_1l : Nat) : Int))) (V.ptr script_1 fun a14 =>
  ∃ n15, World.cell? w10 (Addr.add (Addr.add a14 ((Int.toNat i_8) * 7)) 0) = some (Value.int .i64 n15) ∧
  V.sel (n15 == 2)
  (V.when (decide ((0 : Int) ≤ i_8 ∧ (i_8 : Int) < ((script_1l : Nat) : Int))) (V.ptr script_1 fun a16 =>
  ∃ A17, ∃ A17l, ∃ A17c, World.cell? w10 (Addr.add (Addr.add a16 ((Int.toNat i_8) * 7)) 3) = some (Value.slice A17 A17l A17c) ∧
  Calls Tryd.prog 10 #[(Value.slice A17 A17l A17c)] w10 fun e19 w20 =>
  ∃ A18, ∃ A18l, ∃ A18c, e19 = Ending.returned (Value.slice A18 A18l A18c) ∧
  Calls Tryd.prog 9 #[(Value.pointer p2), (Value.int .i64 x13), (Value.slice A18 A18l A18c)] w20 fun e22 w23 =>
  ∃ n21, e22 = Ending.returned (Value.int .i64 n21) ∧
  I6 (IntKind.wrap .i64 (i_8 + 1)) w23 ∧ μ7 (IntKind.wrap .i64 (i_8 + 1)) w23 < μ7 i_8 w10))
  (V.sel (n15 == 3)
  (V.when (decide ((0 : Int) ≤ i_8 ∧ (i_8 : Int) < ((script_1l : Nat) : Int))) (V.ptr script_1 fun a24 =>
  ∃ A25, ∃ A25l, ∃ A25c, World.cell? w10 (Addr.add (Addr.add a24 ((Int.toNat i_8) * 7)) 3) = some (Value.slice A25 A25l A25c) ∧
  Calls Tryd.prog 10 #[(Value.slice A25 A25l A25c)] w10 fun e27 w28 =>
  ∃ A26, ∃ A26l, ∃ A26c, e27 = Ending.returned (Value.slice A26 A26l A26c) ∧
  Calls Tryd.prog 11 #[(Value.pointer p2), (Value.int .i64 x13), (Value.slice A26 A26l A26c)] w28 fun e30 w31 =>
  ∃ n29, e30 = Ending.returned (Value.int .i64 n29) ∧
  I6 (IntKind.wrap .i64 (i_8 + 1)) w31 ∧ μ7 (IntKind.wrap .i64 (i_8 + 1)) w31 < μ7 i_8 w10))
  (V.sel (n15 == 4)
  (Calls Tryd.prog 12 #[(Value.pointer p2), (Value.int .i64 x13)] w10 fun e33 w34 =>
  ∃ n32, e33 = Ending.returned (Value.int .i64 n32) ∧
  I6 (IntKind.wrap .i64 (i_8 + 1)) w34 ∧ μ7 (IntKind.wrap .i64 (i_8 + 1)) w34 < μ7 i_8 w10)
  (I6 (IntKind.wrap .i64 (i_8 + 1)) w10 ∧ μ7 (IntKind.wrap .i64 (i_8 + 1)) w10 < μ7 i_8 w10))))))
  (R (Ending.returned (Value.pointer p2)) w10)))) :
  Calls Tryd.prog 7 #[(Value.slice script_1 script_1l script_1c)] w R :=
  V.calls_of_R ⟨V.assoc [(0, [5])], V.assocP [], V.assocC [], V.assocS [], ⟨[], true⟩⟩ Tryd.func7 rfl (Eq.mp (by kernel_rfl) h)

theorem berthlaw07_num_nf (e_1 : Int) (w : World) (R : Ending → World → Prop) (h :
  R (Ending.returned (Value.int .i64 e_1)) w) :
  Calls Tryd.prog 8 #[(Value.int .i64 e_1)] w R :=
  V.calls_of_R ⟨V.assoc [], V.assocP [], V.assocC [], V.assocS [], ⟨[], true⟩⟩ Tryd.func8 rfl (Eq.mp (by kernel_rfl) h)

theorem posting_Index_Put_nf (x_1 : Option Addr) (slot_2 : Int) (list_3 : Option Addr) (list_3l : Nat) (list_3c : Nat) (w : World) (R : Ending → World → Prop) (h :
  V.sel (Option.isNone x_1)
  (R (Ending.returned (Value.int .i64 1)) w)
  (V.sel (decide (slot_2 < 0))
  (R (Ending.returned (Value.int .i64 72)) w)
  (V.ptr x_1 fun a4 =>
  ∃ n5, World.cell? w (Addr.add a4 0) = some (Value.int .i64 n5) ∧
  V.sel (decide (slot_2 ≥ n5))
  (R (Ending.returned (Value.int .i64 72)) w)
  (V.ptr x_1 fun a6 =>
  ∃ p7, World.cell? w (Addr.add a6 1) = some (Value.pointer p7) ∧
  Calls Tryd.prog 20 #[(Value.pointer p7), (Value.int .i64 slot_2)] w fun e9 w10 =>
  ∃ b8, e9 = Ending.returned (Value.bool b8) ∧
  V.sel b8
  (R (Ending.returned (Value.int .i64 70)) w10)
  (Calls Tryd.prog 30 #[(Value.slice list_3 list_3l list_3c)] w10 fun e12 w13 =>
  ∃ n11, e12 = Ending.returned (Value.int .i64 n11) ∧
  V.sel (n11 != 0)
  (R (Ending.returned (Value.int .i64 n11)) w13)
  (V.ptr x_1 fun a14 =>
  ∃ p15, World.cell? w13 (Addr.add a14 1) = some (Value.pointer p15) ∧
  Calls Tryd.prog 31 #[(Value.pointer p15), (Value.int .i64 slot_2)] w13 fun e17 w18 =>
  ∃ b16, e17 = Ending.returned (Value.bool b16) ∧
  Calls Tryd.prog 32 #[(Value.pointer x_1), (Value.int .i64 slot_2), (Value.slice list_3 list_3l list_3c)] w18 fun e19 w20 =>
  e19 = Ending.returned undef ∧
  R (Ending.returned (Value.int .i64 0)) w20)))))) :
  Calls Tryd.prog 9 #[(Value.pointer x_1), (Value.int .i64 slot_2), (Value.slice list_3 list_3l list_3c)] w R :=
  V.calls_of_R ⟨V.assoc [], V.assocP [], V.assocC [], V.assocS [], ⟨[], true⟩⟩ Tryd.func9 rfl (Eq.mp (by kernel_rfl) h)

theorem berthlaw07_labels_nf (l_1 : Option Addr) (l_1l : Nat) (l_1c : Nat) (w : World) (R : Ending → World → Prop) (h :
  ∀ w2, w2 = (World.alloc w (.cells #[] 36)) →
  ∃ A3, ∃ A3l, ∃ A3c, ∃ w4, Sem.run Tryd.prog (Builtin.append_ #[26, 26] 26 #[(Value.slice (some ⟨Array.size (World.heap w), 0, none⟩) 0 0), (Value.slice l_1 l_1l l_1c)]) w2 = .ok (Value.slice A3 A3l A3c) w4 ∧
  R (Ending.returned (Value.slice A3 A3l A3c)) w4) :
  Calls Tryd.prog 10 #[(Value.slice l_1 l_1l l_1c)] w R :=
  V.calls_of_R ⟨V.assoc [], V.assocP [], V.assocC [], V.assocS [], ⟨[], true⟩⟩ Tryd.func10 rfl (Eq.mp (by kernel_rfl) h)

theorem posting_Index_Set_nf (x_1 : Option Addr) (slot_2 : Int) (list_3 : Option Addr) (list_3l : Nat) (list_3c : Nat) (w : World) (R : Ending → World → Prop) (h :
  V.sel (Option.isNone x_1)
  (R (Ending.returned (Value.int .i64 1)) w)
  (V.sel (decide (slot_2 < 0))
  (R (Ending.returned (Value.int .i64 72)) w)
  (V.ptr x_1 fun a4 =>
  ∃ n5, World.cell? w (Addr.add a4 0) = some (Value.int .i64 n5) ∧
  V.sel (decide (slot_2 ≥ n5))
  (R (Ending.returned (Value.int .i64 72)) w)
  (V.ptr x_1 fun a6 =>
  ∃ p7, World.cell? w (Addr.add a6 1) = some (Value.pointer p7) ∧
  Calls Tryd.prog 20 #[(Value.pointer p7), (Value.int .i64 slot_2)] w fun e9 w10 =>
  ∃ b8, e9 = Ending.returned (Value.bool b8) ∧
  V.sel (!b8)
  (R (Ending.returned (Value.int .i64 71)) w10)
  (Calls Tryd.prog 30 #[(Value.slice list_3 list_3l list_3c)] w10 fun e12 w13 =>
  ∃ n11, e12 = Ending.returned (Value.int .i64 n11) ∧
  V.sel (n11 != 0)
  (R (Ending.returned (Value.int .i64 n11)) w13)
  (Calls Tryd.prog 33 #[(Value.pointer x_1), (Value.int .i64 slot_2)] w13 fun e14 w15 =>
  e14 = Ending.returned undef ∧
  Calls Tryd.prog 32 #[(Value.pointer x_1), (Value.int .i64 slot_2), (Value.slice list_3 list_3l list_3c)] w15 fun e16 w17 =>
  e16 = Ending.returned undef ∧
  R (Ending.returned (Value.int .i64 0)) w17)))))) :
  Calls Tryd.prog 11 #[(Value.pointer x_1), (Value.int .i64 slot_2), (Value.slice list_3 list_3l list_3c)] w R :=
  V.calls_of_R ⟨V.assoc [], V.assocP [], V.assocC [], V.assocS [], ⟨[], true⟩⟩ Tryd.func11 rfl (Eq.mp (by kernel_rfl) h)

theorem posting_Index_Drop_nf (x_1 : Option Addr) (slot_2 : Int) (w : World) (R : Ending → World → Prop) (h :
  V.sel (Option.isNone x_1)
  (R (Ending.returned (Value.int .i64 1)) w)
  (V.sel (decide (slot_2 < 0))
  (R (Ending.returned (Value.int .i64 72)) w)
  (V.ptr x_1 fun a3 =>
  ∃ n4, World.cell? w (Addr.add a3 0) = some (Value.int .i64 n4) ∧
  V.sel (decide (slot_2 ≥ n4))
  (R (Ending.returned (Value.int .i64 72)) w)
  (V.ptr x_1 fun a5 =>
  ∃ p6, World.cell? w (Addr.add a5 1) = some (Value.pointer p6) ∧
  Calls Tryd.prog 20 #[(Value.pointer p6), (Value.int .i64 slot_2)] w fun e8 w9 =>
  ∃ b7, e8 = Ending.returned (Value.bool b7) ∧
  V.sel (!b7)
  (R (Ending.returned (Value.int .i64 71)) w9)
  (Calls Tryd.prog 33 #[(Value.pointer x_1), (Value.int .i64 slot_2)] w9 fun e10 w11 =>
  e10 = Ending.returned undef ∧
  V.ptr x_1 fun a12 =>
  ∃ p13, World.cell? w11 (Addr.add a12 1) = some (Value.pointer p13) ∧
  Calls Tryd.prog 34 #[(Value.pointer p13), (Value.int .i64 slot_2)] w11 fun e15 w16 =>
  ∃ b14, e15 = Ending.returned (Value.bool b14) ∧
  R (Ending.returned (Value.int .i64 0)) w16))))) :
  Calls Tryd.prog 12 #[(Value.pointer x_1), (Value.int .i64 slot_2)] w R :=
  V.calls_of_R ⟨V.assoc [], V.assocP [], V.assocC [], V.assocS [], ⟨[], true⟩⟩ Tryd.func12 rfl (Eq.mp (by kernel_rfl) h)

theorem posting_Index_Of_nf (x_1 : Option Addr) (slot_2 : Int) (w : World) (R : Ending → World → Prop) (h :
  V.sel (Option.isNone x_1)
  (R (Ending.returned (Value.tuple #[(Value.slice none 0 0), (Value.bool false)])) w)
  (V.ptr x_1 fun a3 =>
  ∃ p4, World.cell? w (Addr.add a3 1) = some (Value.pointer p4) ∧
  Calls Tryd.prog 20 #[(Value.pointer p4), (Value.int .i64 slot_2)] w fun e6 w7 =>
  ∃ b5, e6 = Ending.returned (Value.bool b5) ∧
  V.sel (!b5)
  (R (Ending.returned (Value.tuple #[(Value.slice none 0 0), (Value.bool false)])) w7)
  (∀ w8, w8 = (World.alloc w7 (.cells #[] 36)) →
  V.ptr x_1 fun a9 =>
  ∃ m10, World.cell? w8 (Addr.add a9 2) = some (Value.map m10) ∧
  ∃ A11, ∃ A11l, ∃ A11c, ∃ w12, Sem.run Tryd.prog (Instr.lookup 59 (Value.map m10) (Value.int .i64 slot_2) false) w8 = .ok (Value.slice A11 A11l A11c) w12 ∧
  ∃ A13, ∃ A13l, ∃ A13c, ∃ w14, Sem.run Tryd.prog (Builtin.append_ #[26, 26] 26 #[(Value.slice (some ⟨Array.size (World.heap w7), 0, none⟩) 0 0), (Value.slice A11 A11l A11c)]) w12 = .ok (Value.slice A13 A13l A13c) w14 ∧
  R (Ending.returned (Value.tuple #[(Value.slice A13 A13l A13c), (Value.bool true)])) w14))) :
  Calls Tryd.prog 13 #[(Value.pointer x_1), (Value.int .i64 slot_2)] w R :=
  V.calls_of_R ⟨V.assoc [], V.assocP [], V.assocC [], V.assocS [], ⟨[], true⟩⟩ Tryd.func13 rfl (Eq.mp (by kernel_rfl) h)

theorem posting_Same_nf (a_1 : Option Addr) (b_2 : Option Addr) (w : World) (R : Ending → World → Prop) (h :
  ∀ w3, w3 = (World.alloc w (.cells #[(Value.pointer a_1)] 24)) →
  ∀ w4, w4 = (World.alloc w3 (.cells #[(Value.pointer b_2)] 24)) →
  ∀ w5, w5 = (World.alloc w4 (.cells #[(Value.bool false)] 4)) →
  ∃ S6 : World → Prop, S6 (World.drew w5) ∧
  ∃ p8, (∀ w7, S6 w7 → World.cell? w7 ⟨Array.size (World.heap w), 0, none⟩ = some (Value.pointer p8)) ∧
  ∃ p9, (∀ w7, S6 w7 → World.cell? w7 ⟨Array.size (World.heap w3), 0, none⟩ = some (Value.pointer p9)) ∧
  Calls Tryd.prog 19 #[(Value.pointer p8)] (World.drew w5) fun e11 w12 =>
  ∃ p10, e11 = Ending.returned (Value.pointer p10) ∧
  S6 w12 ∧
  Calls Tryd.prog 19 #[(Value.pointer p9)] w12 fun e14 w15 =>
  ∃ p13, e14 = Ending.returned (Value.pointer p13) ∧
  S6 w15 ∧
  Calls Tryd.prog 17 #[(Value.pointer p10), (Value.pointer p13)] w15 fun e17 w18 =>
  ∃ b16, e17 = Ending.returned (Value.bool b16) ∧
  S6 w18 ∧
  V.sel (!b16)
  (∃ w19, Sem.run Tryd.prog (Instr.storeAt 4 (Value.pointer (some ⟨Array.size (World.heap w4), 0, none⟩)) (Value.bool false)) w18 = .ok () w19 ∧
  ∃ b20, World.cell? w19 ⟨Array.size (World.heap w4), 0, none⟩ = some (Value.bool b20) ∧
  R (Ending.returned (Value.bool b20)) w19)
  (∃ p21, World.cell? w18 ⟨Array.size (World.heap w), 0, none⟩ = some (Value.pointer p21) ∧
  Calls Tryd.prog 19 #[(Value.pointer p21)] w18 fun e23 w24 =>
  ∃ p22, e23 = Ending.returned (Value.pointer p22) ∧
  Calls Tryd.prog 35 #[(Value.pointer p22)] w24 fun e26 w27 =>
  ∃ f25, ∃ f25a, ∃ f25c, e26 = Ending.returned (Value.func (.func f25) f25a f25c) ∧
  V.when (V.hasB Tryd.prog f25 && true) (∀ (Rc28 : Loop) (l29 : Nat) (w30 : World), l29 = Array.size (World.heap w27) + 1 → w30 = World.alloc (World.alloc w27 (.deferred (some []))) (.loop { Rc28 with state := .ready, pending := none }) →
  (∀ y19_33 (W31 : World) (R32 : Ending → World → Prop), V.LoopSt W31 l29 Rc28 .ready none →
  (V.LoopSt W31 l29 Rc28 .ready none ∧
  ∃ p34, World.cell? (V.setLoop W31 l29 Rc28 .busy none) ⟨Array.size (World.heap w), 0, none⟩ = some (Value.pointer p34) ∧
  Calls Tryd.prog 13 #[(Value.pointer p34), (Value.int .i64 y19_33)] (V.setLoop W31 l29 Rc28 .busy none) fun e37 w38 =>
  ∃ A35, ∃ A35l, ∃ A35c, ∃ b36, e37 = Ending.returned (Value.tuple #[(Value.slice A35 A35l A35c), (Value.bool b36)]) ∧
  ∃ p39, World.cell? w38 ⟨Array.size (World.heap w3), 0, none⟩ = some (Value.pointer p39) ∧
  Calls Tryd.prog 13 #[(Value.pointer p39), (Value.int .i64 y19_33)] w38 fun e42 w43 =>
  ∃ A40, ∃ A40l, ∃ A40c, ∃ b41, e42 = Ending.returned (Value.tuple #[(Value.slice A40 A40l A40c), (Value.bool b41)]) ∧
  Calls Tryd.prog 36 #[(Value.slice A35 A35l A35c), (Value.slice A40 A40l A40c)] w43 fun e45 w46 =>
  ∃ b44, e45 = Ending.returned (Value.bool b44) ∧
  V.sel (!b44)
  (∃ w47, Sem.run Tryd.prog (Instr.storeAt 4 (Value.pointer (some ⟨Array.size (World.heap w4), 0, none⟩)) (Value.bool false)) w46 = .ok () w47 ∧
  V.LoopSt w47 l29 Rc28 .busy none ∧ R32 (Ending.returned (Value.bool false)) (V.setLoop w47 l29 Rc28 .done (some Code.ret)))
  (V.LoopSt w46 l29 Rc28 .busy none ∧ R32 (Ending.returned (Value.bool true)) (V.setLoop w46 l29 Rc28 .ready none))) →
  V.Yield Tryd.prog l29 [(Value.int .i64 y19_33)] W31 R32) →
  Calls Tryd.prog f25 ⟨Array.toList f25a ++ [(Value.func (.yield l29) #[] #[])] ++ Array.toList f25c⟩ w30 fun e48 w50 => (∃ v49, e48 = Ending.returned v49) ∧
  ((V.LoopSt w50 l29 Rc28 .ready none ∧
  ∃ w51, Sem.run Tryd.prog (Instr.storeAt 4 (Value.pointer (some ⟨Array.size (World.heap w4), 0, none⟩)) (Value.bool true)) (V.setLoop w50 l29 Rc28 .exhausted none) = .ok () w51 ∧
  V.closeR (Array.size (World.heap w27) :: []) w51 fun w52 =>
  ∃ b53, World.cell? w52 ⟨Array.size (World.heap w4), 0, none⟩ = some (Value.bool b53) ∧
  R (Ending.returned (Value.bool b53)) w52) ∨
  (V.LoopSt w50 l29 Rc28 .done (some Code.ret) ∧
  V.closeR (Array.size (World.heap w27) :: []) (V.setLoop w50 l29 Rc28 .exhausted (some Code.ret)) fun w54 =>
  ∃ b55, World.cell? w54 ⟨Array.size (World.heap w4), 0, none⟩ = some (Value.bool b55) ∧
  R (Ending.returned (Value.bool b55)) w54) ∨
  False)))) :
  Calls Tryd.prog 14 #[(Value.pointer a_1), (Value.pointer b_2)] w R :=
  V.calls_of_R ⟨V.assoc [], V.assocP [(1, V.line [0, 2, 1, 3, 4, 5])], V.assocC [], V.assocS [(0, [V.Sh.one (.int .i64)])], ⟨[], true⟩⟩ Tryd.func14 rfl (Eq.mp (by kernel_rfl) h)

theorem berthref07_SameTexts_nf (a_1 : Option Addr) (a_1l : Nat) (a_1c : Nat) (b_2 : Option Addr) (b_2l : Nat) (b_2c : Nat) (w : World) (R : Ending → World → Prop) (h :
  V.sel (((a_1l : Nat) : Int) != ((b_2l : Nat) : Int))
  (R (Ending.returned (Value.bool false)) w)
  (∃ I3 : Int → World → Prop, ∃ μ4 : Int → World → Nat, I3 0 w ∧
  ∀ i_5 (j6 : Nat → Value) (w7 : World), I3 i_5 w7 →
  (V.sel (decide (i_5 < ((a_1l : Nat) : Int)))
  (V.when (decide ((0 : Int) ≤ i_5 ∧ (i_5 : Int) < ((a_1l : Nat) : Int))) (V.ptr a_1 fun a8 =>
  ∃ s9, World.cell? w7 (Addr.add a8 ((Int.toNat i_5) * 1)) = some (Value.string s9) ∧
  V.when (decide ((0 : Int) ≤ i_5 ∧ (i_5 : Int) < ((b_2l : Nat) : Int))) (V.ptr b_2 fun a10 =>
  ∃ s11, World.cell? w7 (Addr.add a10 ((Int.toNat i_5) * 1)) = some (Value.string s11) ∧
  V.sel (!(ByteArray.toList s9 == ByteArray.toList s11))
  (R (Ending.returned (Value.bool false)) (World.drew w7))
  (I3 (IntKind.wrap .i64 (i_5 + 1)) (World.drew w7) ∧ μ4 (IntKind.wrap .i64 (i_5 + 1)) (World.drew w7) < μ4 i_5 w7))))
  (R (Ending.returned (Value.bool true)) w7)))) :
  Calls Tryd.prog 15 #[(Value.slice a_1 a_1l a_1c), (Value.slice b_2 b_2l b_2c)] w R :=
  V.calls_of_R ⟨V.assoc [(0, [5])], V.assocP [(6, V.line [0, 1, 2, 3, 4, 5, 6, 7, 8])], V.assocC [], V.assocS [], ⟨[], true⟩⟩ Tryd.func15 rfl (Eq.mp (by kernel_rfl) h)

theorem posting_Index_Keys_nf (x_1 : Option Addr) (w : World) (R : Ending → World → Prop) (h :
  ∀ w2, w2 = (World.alloc w (.cells #[] 9)) →
  V.sel (!(Option.isNone x_1))
  (V.ptr x_1 fun a3 =>
  ∃ m4, World.cell? w2 (Addr.add a3 3) = some (Value.map m4) ∧
  ∃ p5, ∃ w6, Sem.run Tryd.prog (Instr.range 60 (Value.map m4)) w2 = .ok (Value.pointer p5) w6 ∧
  ∃ I7 : Option Addr → Nat → Nat → World → Prop, ∃ μ8 : Option Addr → Nat → Nat → World → Nat, I7 (some ⟨Array.size (World.heap w), 0, none⟩) 0 0 w6 ∧
  ∀ out_9 out_9l out_9c (j10 : Nat → Value) (w11 : World), I7 out_9 out_9l out_9c w11 →
  ((∃ w12, Sem.run Tryd.prog (Instr.next (Value.pointer p5) false 0) w11 = .ok (.tuple #[.bool false]) w12 ∧
  Calls Tryd.prog 37 #[(Value.slice out_9 out_9l out_9c)] w12 fun e13 w14 =>
  e13 = Ending.returned undef ∧
  R (Ending.returned (Value.slice out_9 out_9l out_9c)) w14) ∨
  (∃ k15, ∃ v16, ∃ w17, Sem.run Tryd.prog (Instr.next (Value.pointer p5) false 0) w11 = .ok (.tuple #[.bool true, k15, v16]) w17 ∧
  ∃ k18, ∃ v19, ∃ w20, Sem.run Tryd.prog (Instr.entry (Value.pointer p5)) w17 = .ok (.tuple #[.string k18, v19]) w20 ∧
  ∀ w21, w21 = (World.alloc w20 (.cells #[(Value.string k18)] 9)) →
  ∃ A22, ∃ A22l, ∃ A22c, ∃ w23, Sem.run Tryd.prog (Builtin.append_ #[27, 27] 27 #[(Value.slice out_9 out_9l out_9c), (Value.slice (some ⟨Array.size (World.heap w20), 0, none⟩) 1 1)]) w21 = .ok (Value.slice A22 A22l A22c) w23 ∧
  I7 A22 A22l A22c w23 ∧ μ8 A22 A22l A22c w23 < μ8 out_9 out_9l out_9c w11)))
  (Calls Tryd.prog 37 #[(Value.slice (some ⟨Array.size (World.heap w), 0, none⟩) 0 0)] w2 fun e24 w25 =>
  e24 = Ending.returned undef ∧
  R (Ending.returned (Value.slice (some ⟨Array.size (World.heap w), 0, none⟩) 0 0)) w25)) :
  Calls Tryd.prog 16 #[(Value.pointer x_1)] w R :=
  V.calls_of_R ⟨V.assoc [(0, [3])], V.assocP [], V.assocC [], V.assocS [], ⟨[], true⟩⟩ Tryd.func16 rfl (Eq.mp (by kernel_rfl) h)

theorem posting_Index_Has_nf (x_1 : Option Addr) (key_2 : ByteArray) (w : World) (R : Ending → World → Prop) (h :
  Calls Tryd.prog 40 #[(Value.pointer x_1)] w fun e4 w5 =>
  ∃ p3, e4 = Ending.returned (Value.pointer p3) ∧
  Calls Tryd.prog 41 #[(Value.pointer x_1), (Value.string key_2)] w5 fun e7 w8 =>
  ∃ m6, e7 = Ending.returned (Value.map m6) ∧
  ∃ p9, ∃ w10, Sem.run Tryd.prog (Instr.range 74 (Value.map m6)) w8 = .ok (Value.pointer p9) w10 ∧
  ∃ I11 : World → Prop, ∃ μ12 : World → Nat, I11 w10 ∧
  ∀ (j13 : Nat → Value) (w14 : World), I11 w14 →
  ((∃ w15, Sem.run Tryd.prog (Instr.next (Value.pointer p9) false 0) w14 = .ok (.tuple #[.bool false]) w15 ∧
  R (Ending.returned (Value.pointer p3)) w15) ∨
  (∃ k16, ∃ v17, ∃ w18, Sem.run Tryd.prog (Instr.next (Value.pointer p9) false 0) w14 = .ok (.tuple #[.bool true, k16, v17]) w18 ∧
  ∃ k19, ∃ v20, ∃ w21, Sem.run Tryd.prog (Instr.entry (Value.pointer p9)) w18 = .ok (.tuple #[.string k19, v20]) w21 ∧
  Calls Tryd.prog 42 #[(Value.pointer p3), v20] w21 fun e22 w23 =>
  e22 = Ending.returned undef ∧
  I11 w23 ∧ μ12 w23 < μ12 w14))) :
  Calls Tryd.prog 18 #[(Value.pointer x_1), (Value.string key_2)] w R :=
  V.calls_of_R ⟨V.assoc [(0, [])], V.assocP [], V.assocC [], V.assocS [], ⟨[], true⟩⟩ Tryd.func18 rfl (Eq.mp (by kernel_rfl) h)

theorem posting_Index_Live_nf (x_1 : Option Addr) (w : World) (R : Ending → World → Prop) (h :
  V.sel (Option.isNone x_1)
  (Calls Tryd.prog 40 #[(Value.pointer x_1)] w fun e3 w4 =>
  ∃ p2, e3 = Ending.returned (Value.pointer p2) ∧
  R (Ending.returned (Value.pointer p2)) w4)
  (V.ptr x_1 fun a5 =>
  ∃ p6, World.cell? w (Addr.add a5 1) = some (Value.pointer p6) ∧
  Calls Tryd.prog 43 #[(Value.pointer p6)] w fun e8 w9 =>
  ∃ p7, e8 = Ending.returned (Value.pointer p7) ∧
  R (Ending.returned (Value.pointer p7)) w9)) :
  Calls Tryd.prog 19 #[(Value.pointer x_1)] w R :=
  V.calls_of_R ⟨V.assoc [], V.assocP [], V.assocC [], V.assocS [], ⟨[], true⟩⟩ Tryd.func19 rfl (Eq.mp (by kernel_rfl) h)

theorem posting_Index_With_nf (x_1 : Option Addr) (key_2 : ByteArray) (value_3 : ByteArray) (w : World) (R : Ending → World → Prop) (h :
  Calls Tryd.prog 40 #[(Value.pointer x_1)] w fun e5 w6 =>
  ∃ p4, e5 = Ending.returned (Value.pointer p4) ∧
  Calls Tryd.prog 41 #[(Value.pointer x_1), (Value.string key_2)] w6 fun e8 w9 =>
  ∃ m7, e8 = Ending.returned (Value.map m7) ∧
  ∃ p10, ∃ w11, Sem.run Tryd.prog (Instr.lookup 74 (Value.map m7) (Value.string value_3) false) w9 = .ok (Value.pointer p10) w11 ∧
  Calls Tryd.prog 42 #[(Value.pointer p4), (Value.pointer p10)] w11 fun e12 w13 =>
  e12 = Ending.returned undef ∧
  R (Ending.returned (Value.pointer p4)) w13) :
  Calls Tryd.prog 21 #[(Value.pointer x_1), (Value.string key_2), (Value.string value_3)] w R :=
  V.calls_of_R ⟨V.assoc [], V.assocP [], V.assocC [], V.assocS [], ⟨[], true⟩⟩ Tryd.func21 rfl (Eq.mp (by kernel_rfl) h)

theorem berthlaw07_parts_nf (x_1 : Option Addr) (key_2 : ByteArray) (live_3 : Option Addr) (w : World) (R : Ending → World → Prop) (h :
  Calls Tryd.prog 25 #[(Value.pointer x_1), (Value.string key_2)] w fun e5 w6 =>
  ∃ A4, ∃ A4l, ∃ A4c, e5 = Ending.returned (Value.slice A4 A4l A4c) ∧
  Calls Tryd.prog 45 #[(Value.int .i64 100)] w6 fun e9 w10 =>
  ∃ p7, ∃ n8, e9 = Ending.returned (Value.tuple #[(Value.pointer p7), (Value.int .i64 n8)]) ∧
  Calls Tryd.prog 18 #[(Value.pointer x_1), (Value.string key_2)] w10 fun e12 w13 =>
  ∃ p11, e12 = Ending.returned (Value.pointer p11) ∧
  ∃ J14 : Value → Option Addr → World → Prop, (∃ I15 : Option Addr → Int → World → Prop, ∃ μ16 : Option Addr → Int → World → Nat, I15 p7 0 w13 ∧
  ∀ all_17 i_18 (j19 : Nat → Value) (w20 : World), I15 all_17 i_18 w20 →
  (V.sel (decide (i_18 < ((A4l : Nat) : Int)))
  (V.when (decide ((0 : Int) ≤ i_18 ∧ (i_18 : Int) < ((A4l : Nat) : Int))) (V.ptr A4 fun a21 =>
  ∃ s22, World.cell? w20 (Addr.add a21 ((Int.toNat i_18) * 1)) = some (Value.string s22) ∧
  Calls Tryd.prog 21 #[(Value.pointer x_1), (Value.string key_2), (Value.string s22)] w20 fun e24 w25 =>
  ∃ p23, e24 = Ending.returned (Value.pointer p23) ∧
  ∃ J26 : Value → World → Prop, (∃ J27 : Bool → World → Prop, (∃ S28 : World → Prop, S28 (World.drew w25) ∧
  V.sel (decide (i_18 > 0))
  (V.when (decide ((0 : Int) ≤ i_18 ∧ (i_18 : Int) < ((A4l : Nat) : Int))) (V.ptr A4 fun a30 =>
  ∃ s31, (∀ w29, S28 w29 → World.cell? w29 (Addr.add a30 ((Int.toNat i_18) * 1)) = some (Value.string s31)) ∧
  V.when (decide ((0 : Int) ≤ (IntKind.wrap .i64 (i_18 - 1)) ∧ ((IntKind.wrap .i64 (i_18 - 1)) : Int) < ((A4l : Nat) : Int))) (V.ptr A4 fun a32 =>
  ∃ s33, (∀ w29, S28 w29 → World.cell? w29 (Addr.add a32 ((Int.toNat (IntKind.wrap .i64 (i_18 - 1))) * 1)) = some (Value.string s33)) ∧
  V.sel ((Op.bytesLess (ByteArray.toList s31) (ByteArray.toList s33)) || (ByteArray.toList s31 == ByteArray.toList s33))
  (J27 true (World.drew w25))
  (V.sel (Option.isNone p23)
  (J27 true (World.drew w25))
  (Calls Tryd.prog 26 #[(Value.pointer p23)] (World.drew w25) fun e35 w36 =>
  ∃ n34, e35 = Ending.returned (Value.int .i64 n34) ∧
  S28 w36 ∧
  V.sel (decide (n34 < 1))
  (J27 true w36)
  (V.when (decide ((0 : Int) ≤ i_18 ∧ (i_18 : Int) < ((A4l : Nat) : Int))) (V.ptr A4 fun a37 =>
  ∃ s38, (∀ w29, S28 w29 → World.cell? w29 (Addr.add a37 ((Int.toNat i_18) * 1)) = some (Value.string s38)) ∧
  Calls Tryd.prog 26 #[(Value.pointer p23)] w36 fun e40 w41 =>
  ∃ n39, e40 = Ending.returned (Value.int .i64 n39) ∧
  S28 w41 ∧
  Calls Tryd.prog 29 #[(Value.pointer x_1), (Value.string key_2), (Value.string s38)] w41 fun e43 w44 =>
  ∃ n42, e43 = Ending.returned (Value.int .i64 n42) ∧
  S28 w44 ∧
  V.sel (n39 != n42)
  (J27 true w44)
  (Calls Tryd.prog 46 #[(Value.pointer all_17), (Value.pointer p23)] w44 fun e46 w47 =>
  ∃ b45, e46 = Ending.returned (Value.bool b45) ∧
  S28 w47 ∧
  J27 b45 w47))))))))
  (V.sel (Option.isNone p23)
  (J27 true (World.drew w25))
  (Calls Tryd.prog 26 #[(Value.pointer p23)] (World.drew w25) fun e49 w50 =>
  ∃ n48, e49 = Ending.returned (Value.int .i64 n48) ∧
  S28 w50 ∧
  V.sel (decide (n48 < 1))
  (J27 true w50)
  (V.when (decide ((0 : Int) ≤ i_18 ∧ (i_18 : Int) < ((A4l : Nat) : Int))) (V.ptr A4 fun a51 =>
  ∃ s52, (∀ w29, S28 w29 → World.cell? w29 (Addr.add a51 ((Int.toNat i_18) * 1)) = some (Value.string s52)) ∧
  Calls Tryd.prog 26 #[(Value.pointer p23)] w50 fun e54 w55 =>
  ∃ n53, e54 = Ending.returned (Value.int .i64 n53) ∧
  S28 w55 ∧
  Calls Tryd.prog 29 #[(Value.pointer x_1), (Value.string key_2), (Value.string s52)] w55 fun e57 w58 =>
  ∃ n56, e57 = Ending.returned (Value.int .i64 n56) ∧
  S28 w58 ∧
  V.sel (n53 != n56)
  (J27 true w58)
  (Calls Tryd.prog 46 #[(Value.pointer all_17), (Value.pointer p23)] w58 fun e60 w61 =>
  ∃ b59, e60 = Ending.returned (Value.bool b59) ∧
  S28 w61 ∧
  J27 b59 w61)))))) ∧
  ∀ t81_62 (j63 : Nat → Value) (w64 : World), J27 t81_62 w64 →
  V.sel t81_62
  (R (Ending.returned (Value.int .i64 0)) w64)
  (J26 (j19 6) w64)) ∧
  ∀ t6_65 (j66 : Nat → Value) (w67 : World), J26 t6_65 w67 →
  Calls Tryd.prog 24 #[(Value.pointer p23)] w67 fun e69 w70 =>
  ∃ A68, ∃ A68l, ∃ A68c, e69 = Ending.returned (Value.slice A68 A68l A68c) ∧
  ∃ I71 : Int → World → Prop, ∃ μ72 : Int → World → Nat, I71 0 w70 ∧
  ∀ j_73 (j74 : Nat → Value) (w75 : World), I71 j_73 w75 →
  (V.sel (decide (j_73 < ((A68l : Nat) : Int)))
  (V.when (decide ((0 : Int) ≤ j_73 ∧ (j_73 : Int) < ((A68l : Nat) : Int))) (V.ptr A68 fun a76 =>
  ∃ n77, World.cell? w75 (Addr.add a76 ((Int.toNat j_73) * 1)) = some (Value.int .i64 n77) ∧
  Calls Tryd.prog 13 #[(Value.pointer x_1), (Value.int .i64 n77)] w75 fun e80 w81 =>
  ∃ A78, ∃ A78l, ∃ A78c, ∃ b79, e80 = Ending.returned (Value.tuple #[(Value.slice A78 A78l A78c), (Value.bool b79)]) ∧
  Calls Tryd.prog 47 #[(Value.slice A78 A78l A78c), (Value.string key_2)] w81 fun e84 w85 =>
  ∃ s82, ∃ b83, e84 = Ending.returned (Value.tuple #[(Value.string s82), (Value.bool b83)]) ∧
  ∃ J86 : Bool → World → Prop, (V.sel (!b83)
  (J86 true w85)
  (V.when (decide ((0 : Int) ≤ i_18 ∧ (i_18 : Int) < ((A4l : Nat) : Int))) (V.ptr A4 fun a87 =>
  ∃ s88, World.cell? w85 (Addr.add a87 ((Int.toNat i_18) * 1)) = some (Value.string s88) ∧
  J86 (!(ByteArray.toList s82 == ByteArray.toList s88)) w85))) ∧
  ∀ t114_89 (j90 : Nat → Value) (w91 : World), J86 t114_89 w91 →
  V.sel t114_89
  (R (Ending.returned (Value.int .i64 0)) w91)
  (I71 (IntKind.wrap .i64 (j_73 + 1)) w91 ∧ μ72 (IntKind.wrap .i64 (j_73 + 1)) w91 < μ72 j_73 w75)))
  (Calls Tryd.prog 48 #[(Value.pointer all_17), (Value.pointer p23)] w75 fun e93 w94 =>
  ∃ p92, e93 = Ending.returned (Value.pointer p92) ∧
  I15 p92 (IntKind.wrap .i64 (i_18 + 1)) w94 ∧ μ16 p92 (IntKind.wrap .i64 (i_18 + 1)) w94 < μ16 all_17 i_18 w20))))
  (J14 (j19 6) all_17 w20))) ∧
  ∀ t6_95 all_96 (j97 : Nat → Value) (w98 : World), J14 t6_95 all_96 w98 →
  ∃ J99 : Bool → World → Prop, (Calls Tryd.prog 17 #[(Value.pointer all_96), (Value.pointer p11)] w98 fun e101 w102 =>
  ∃ b100, e101 = Ending.returned (Value.bool b100) ∧
  V.sel (!b100)
  (J99 true w102)
  (Calls Tryd.prog 49 #[(Value.pointer x_1), (Value.string key_2), (Value.slice A4 A4l A4c)] w102 fun e104 w105 =>
  ∃ p103, e104 = Ending.returned (Value.pointer p103) ∧
  Calls Tryd.prog 17 #[(Value.pointer p103), (Value.pointer p11)] w105 fun e107 w108 =>
  ∃ b106, e107 = Ending.returned (Value.bool b106) ∧
  V.sel (!b106)
  (J99 true w108)
  (Calls Tryd.prog 50 #[(Value.pointer p11), (Value.pointer live_3)] w108 fun e110 w111 =>
  ∃ b109, e110 = Ending.returned (Value.bool b109) ∧
  J99 (!b109) w111))) ∧
  ∀ t136_112 (j113 : Nat → Value) (w114 : World), J99 t136_112 w114 →
  V.sel t136_112
  (R (Ending.returned (Value.int .i64 0)) w114)
  (Calls Tryd.prog 26 #[(Value.pointer p11)] w114 fun e116 w117 =>
  ∃ n115, e116 = Ending.returned (Value.int .i64 n115) ∧
  R (Ending.returned (Value.int .i64 n115)) w117)) :
  Calls Tryd.prog 22 #[(Value.pointer x_1), (Value.string key_2), (Value.pointer live_3)] w R :=
  V.calls_of_R ⟨V.assoc [(0, [8, 11]), (1, [14])], V.assocP [(8, V.line [0, 1, 2, 3, 4, 5, 6, 7, 8, 9, 10, 11, 12, 13, 14, 15, 16, 17, 18, 19, 20, 21, 22, 23, 24, 26, 27, 28, 29, 30, 31, 25, 32, 33, 34, 35, 36, 37, 38, 39])], V.assocC [(1000010, ([81], [V.Sh.one .bool])), (1000011, ([6], [V.Sh.one .any])), (1000018, ([114], [V.Sh.one .bool])), (1000020, ([6, 8], [V.Sh.one .any, V.Sh.one .ptr])), (1000021, ([136], [V.Sh.one .bool]))], V.assocS [], ⟨[], true⟩⟩ Tryd.func22 rfl (Eq.mp (by kernel_rfl) h)

theorem posting_New_nf (size_1 : Int) (w : World) (R : Ending → World → Prop) (h :
  Calls Tryd.prog 45 #[(Value.int .i64 size_1)] w fun e4 w5 =>
  ∃ p2, ∃ n3, e4 = Ending.returned (Value.tuple #[(Value.pointer p2), (Value.int .i64 n3)]) ∧
  V.sel (n3 != 0)
  (R (Ending.returned (Value.tuple #[(Value.pointer none), (Value.int .i64 n3)])) w5)
  (∀ w6, w6 = (World.alloc w5 (.map #[] 0)) →
  ∀ w7, w7 = (World.alloc w6 (.map #[] 0)) →
  ∀ w8, w8 = (World.alloc w7 (.cells #[(Value.int .i64 size_1), (Value.pointer p2), (Value.map (some (Array.size (World.heap w5)))), (Value.map (some (Array.size (World.heap w6))))] 62)) →
  R (Ending.returned (Value.tuple #[(Value.pointer (some ⟨Array.size (World.heap w7), 0, none⟩)), (Value.int .i64 0)])) w8)) :
  Calls Tryd.prog 23 #[(Value.int .i64 size_1)] w R :=
  V.calls_of_R ⟨V.assoc [], V.assocP [], V.assocC [], V.assocS [], ⟨[], true⟩⟩ Tryd.func23 rfl (Eq.mp (by kernel_rfl) h)

theorem posting_Index_Values_nf (x_1 : Option Addr) (key_2 : ByteArray) (w : World) (R : Ending → World → Prop) (h :
  ∀ w3, w3 = (World.alloc w (.cells #[] 9)) →
  Calls Tryd.prog 41 #[(Value.pointer x_1), (Value.string key_2)] w3 fun e5 w6 =>
  ∃ m4, e5 = Ending.returned (Value.map m4) ∧
  ∃ p7, ∃ w8, Sem.run Tryd.prog (Instr.range 74 (Value.map m4)) w6 = .ok (Value.pointer p7) w8 ∧
  ∃ I9 : Option Addr → Nat → Nat → World → Prop, ∃ μ10 : Option Addr → Nat → Nat → World → Nat, I9 (some ⟨Array.size (World.heap w), 0, none⟩) 0 0 w8 ∧
  ∀ out_11 out_11l out_11c (j12 : Nat → Value) (w13 : World), I9 out_11 out_11l out_11c w13 →
  ((∃ w14, Sem.run Tryd.prog (Instr.next (Value.pointer p7) false 0) w13 = .ok (.tuple #[.bool false]) w14 ∧
  Calls Tryd.prog 37 #[(Value.slice out_11 out_11l out_11c)] w14 fun e15 w16 =>
  e15 = Ending.returned undef ∧
  R (Ending.returned (Value.slice out_11 out_11l out_11c)) w16) ∨
  (∃ k17, ∃ v18, ∃ w19, Sem.run Tryd.prog (Instr.next (Value.pointer p7) false 0) w13 = .ok (.tuple #[.bool true, k17, v18]) w19 ∧
  ∃ k20, ∃ v21, ∃ w22, Sem.run Tryd.prog (Instr.entry (Value.pointer p7)) w19 = .ok (.tuple #[.string k20, v21]) w22 ∧
  ∀ w23, w23 = (World.alloc w22 (.cells #[(Value.string k20)] 9)) →
  ∃ A24, ∃ A24l, ∃ A24c, ∃ w25, Sem.run Tryd.prog (Builtin.append_ #[27, 27] 27 #[(Value.slice out_11 out_11l out_11c), (Value.slice (some ⟨Array.size (World.heap w22), 0, none⟩) 1 1)]) w23 = .ok (Value.slice A24 A24l A24c) w25 ∧
  I9 A24 A24l A24c w25 ∧ μ10 A24 A24l A24c w25 < μ10 out_11 out_11l out_11c w13))) :
  Calls Tryd.prog 25 #[(Value.pointer x_1), (Value.string key_2)] w R :=
  V.calls_of_R ⟨V.assoc [(0, [5])], V.assocP [], V.assocC [], V.assocS [], ⟨[], true⟩⟩ Tryd.func25 rfl (Eq.mp (by kernel_rfl) h)

theorem berthlaw07_sole_nf (l_1 : Option Addr) (l_1l : Nat) (l_1c : Nat) (w : World) (R : Ending → World → Prop) (h :
  V.sel (((l_1l : Nat) : Int) == 1)
  (V.when (decide ((0 : Int) ≤ 0 ∧ (0 : Int) < ((l_1l : Nat) : Int))) (V.ptr l_1 fun a2 =>
  ∃ s3, World.cell? w (Addr.add (Addr.add a2 0) 0) = some (Value.string s3) ∧
  V.sel (ByteArray.toList s3 == ByteArray.toList ⟨#[111, 110, 108, 121, 46, 104, 101, 114, 101]⟩)
  (V.when (decide ((0 : Int) ≤ 0 ∧ (0 : Int) < ((l_1l : Nat) : Int))) (V.ptr l_1 fun a4 =>
  ∃ s5, World.cell? w (Addr.add (Addr.add a4 0) 1) = some (Value.string s5) ∧
  R (Ending.returned (Value.bool (ByteArray.toList s5 == ByteArray.toList ⟨#[120]⟩))) w))
  (R (Ending.returned (Value.bool false)) w)))
  (R (Ending.returned (Value.bool false)) w)) :
  Calls Tryd.prog 27 #[(Value.slice l_1 l_1l l_1c)] w R :=
  V.calls_of_R ⟨V.assoc [], V.assocP [], V.assocC [], V.assocS [], ⟨[], true⟩⟩ Tryd.func27 rfl (Eq.mp (by kernel_rfl) h)

theorem berthlaw07_is_nf (s_1 : Option Addr) (size_2 : Int) (l_3 : Option Addr) (l_3l : Nat) (l_3c : Nat) (w : World) (R : Ending → World → Prop) (h :
  V.sel (!(Option.isNone s_1))
  (Calls Tryd.prog 51 #[(Value.pointer s_1)] w fun e5 w6 =>
  ∃ n4, e5 = Ending.returned (Value.int .i64 n4) ∧
  V.sel (n4 == size_2)
  (Calls Tryd.prog 24 #[(Value.pointer s_1)] w6 fun e8 w9 =>
  ∃ A7, ∃ A7l, ∃ A7c, e8 = Ending.returned (Value.slice A7 A7l A7c) ∧
  Calls Tryd.prog 53 #[(Value.slice A7 A7l A7c), (Value.slice l_3 l_3l l_3c)] w9 fun e11 w12 =>
  ∃ b10, e11 = Ending.returned (Value.bool b10) ∧
  R (Ending.returned (Value.bool b10)) w12)
  (R (Ending.returned (Value.bool false)) w6))
  (R (Ending.returned (Value.bool false)) w)) :
  Calls Tryd.prog 28 #[(Value.pointer s_1), (Value.int .i64 size_2), (Value.slice l_3 l_3l l_3c)] w R :=
  V.calls_of_R ⟨V.assoc [], V.assocP [], V.assocC [], V.assocS [], ⟨[], true⟩⟩ Tryd.func28 rfl (Eq.mp (by kernel_rfl) h)

theorem posting_Index_Count_nf (x_1 : Option Addr) (key_2 : ByteArray) (value_3 : ByteArray) (w : World) (R : Ending → World → Prop) (h :
  Calls Tryd.prog 41 #[(Value.pointer x_1), (Value.string key_2)] w fun e5 w6 =>
  ∃ m4, e5 = Ending.returned (Value.map m4) ∧
  ∃ p7, ∃ w8, Sem.run Tryd.prog (Instr.lookup 74 (Value.map m4) (Value.string value_3) false) w6 = .ok (Value.pointer p7) w8 ∧
  Calls Tryd.prog 26 #[(Value.pointer p7)] w8 fun e10 w11 =>
  ∃ n9, e10 = Ending.returned (Value.int .i64 n9) ∧
  R (Ending.returned (Value.int .i64 n9)) w11) :
  Calls Tryd.prog 29 #[(Value.pointer x_1), (Value.string key_2), (Value.string value_3)] w R :=
  V.calls_of_R ⟨V.assoc [], V.assocP [], V.assocC [], V.assocS [], ⟨[], true⟩⟩ Tryd.func29 rfl (Eq.mp (by kernel_rfl) h)

theorem posting_listError_nf (list_1 : Option Addr) (list_1l : Nat) (list_1c : Nat) (w : World) (R : Ending → World → Prop) (h :
  Calls Tryd.prog 54 #[(Value.slice list_1 list_1l list_1c)] w fun e4 w5 =>
  ∃ n2, ∃ n3, e4 = Ending.returned (Value.tuple #[(Value.int .i64 n2), (Value.int .i64 n3)]) ∧
  R (Ending.returned (Value.int .i64 n3)) w5) :
  Calls Tryd.prog 30 #[(Value.slice list_1 list_1l list_1c)] w R :=
  V.calls_of_R ⟨V.assoc [], V.assocP [], V.assocC [], V.assocS [], ⟨[], true⟩⟩ Tryd.func30 rfl (Eq.mp (by kernel_rfl) h)

theorem posting_Index_enter_nf (x_1 : Option Addr) (slot_2 : Int) (list_3 : Option Addr) (list_3l : Nat) (list_3c : Nat) (w : World) (R : Ending → World → Prop) (h :
  ∃ S4 : World → Prop, S4 (World.drew w) ∧
  V.ptr x_1 fun a6 =>
  ∃ m7, (∀ w5, S4 w5 → World.cell? w5 (Addr.add a6 2) = some (Value.map m7)) ∧
  ∀ w8, w8 = (World.alloc (World.drew w) (.cells #[] 36)) →
  S4 w8 ∧
  ∃ A9, ∃ A9l, ∃ A9c, ∃ w10, Sem.run Tryd.prog (Builtin.append_ #[26, 26] 26 #[(Value.slice (some ⟨Array.size (World.heap (World.drew w)), 0, none⟩) 0 0), (Value.slice list_3 list_3l list_3c)]) w8 = .ok (Value.slice A9 A9l A9c) w10 ∧
  S4 w10 ∧
  ∃ w11, Sem.run Tryd.prog (Instr.mapUpdate 59 (Value.map m7) (Value.int .i64 slot_2) (Value.slice A9 A9l A9c)) w10 = .ok () w11 ∧
  ∃ I12 : Int → World → Prop, ∃ μ13 : Int → World → Nat, I12 0 w11 ∧
  ∀ t18_14 (j15 : Nat → Value) (w16 : World), I12 t18_14 w16 →
  (V.sel (decide (t18_14 < ((list_3l : Nat) : Int)))
  (V.when (decide ((0 : Int) ≤ t18_14 ∧ (t18_14 : Int) < ((list_3l : Nat) : Int))) (V.ptr list_3 fun a17 =>
  ∃ s18, ∃ s19, V.cellsC (fun a_ x_ => World.cell? w16 a_ = some x_) (Addr.add a17 ((Int.toNat t18_14) * 2)) [(Value.string s18), (Value.string s19)] ∧
  ∀ w20, w20 = (World.alloc w16 (.cells #[(Value.string ByteArray.empty), (Value.string ByteArray.empty)] 36)) →
  ∃ w21, Sem.run Tryd.prog (Instr.storeAt 36 (Value.pointer (some ⟨Array.size (World.heap w16), 0, none⟩)) (Value.agg #[(Value.string s18), (Value.string s19)])) w20 = .ok () w21 ∧
  ∃ J22 : World → Prop, (∃ S23 : World → Prop, S23 (World.drew w21) ∧
  V.ptr x_1 fun a25 =>
  ∃ m26, (∀ w24, S23 w24 → World.cell? w24 (Addr.add a25 3) = some (Value.map m26)) ∧
  ∃ s27, (∀ w24, S23 w24 → World.cell? w24 (Addr.add ⟨Array.size (World.heap w16), 0, none⟩ 0) = some (Value.string s27)) ∧
  ∃ m28, ∃ w29, Sem.run Tryd.prog (Instr.lookup 60 (Value.map m26) (Value.string s27) false) (World.drew w21) = .ok (Value.map m28) w29 ∧
  S23 w29 ∧
  V.sel (Option.isNone m28)
  (∃ S30 : World → Prop, S30 (World.drew w29) ∧
  V.ptr x_1 fun a32 =>
  ∃ m33, (∀ w31, S30 w31 → World.cell? w31 (Addr.add a32 3) = some (Value.map m33)) ∧
  ∃ s34, (∀ w31, S30 w31 → World.cell? w31 (Addr.add ⟨Array.size (World.heap w16), 0, none⟩ 0) = some (Value.string s34)) ∧
  ∀ w35, w35 = (World.alloc (World.drew w29) (.map #[] 0)) →
  S30 w35 ∧
  ∃ w36, Sem.run Tryd.prog (Instr.mapUpdate 60 (Value.map m33) (Value.string s34) (Value.map (some (Array.size (World.heap (World.drew w29)))))) w35 = .ok () w36 ∧
  J22  w36)
  (J22  w29)) ∧
  ∀ (j37 : Nat → Value) (w38 : World), J22  w38 →
  ∃ S39 : World → Prop, S39 (World.drew w38) ∧
  V.ptr x_1 fun a41 =>
  ∃ m42, (∀ w40, S39 w40 → World.cell? w40 (Addr.add a41 3) = some (Value.map m42)) ∧
  ∃ s43, (∀ w40, S39 w40 → World.cell? w40 (Addr.add ⟨Array.size (World.heap w16), 0, none⟩ 0) = some (Value.string s43)) ∧
  ∃ s44, (∀ w40, S39 w40 → World.cell? w40 (Addr.add ⟨Array.size (World.heap w16), 0, none⟩ 1) = some (Value.string s44)) ∧
  ∃ m45, ∃ w46, Sem.run Tryd.prog (Instr.lookup 60 (Value.map m42) (Value.string s43) false) (World.drew w38) = .ok (Value.map m45) w46 ∧
  S39 w46 ∧
  ∃ p47, ∃ w48, Sem.run Tryd.prog (Instr.lookup 74 (Value.map m45) (Value.string s44) false) w46 = .ok (Value.pointer p47) w48 ∧
  S39 w48 ∧
  V.sel (Option.isNone p47)
  (∃ J49 : World → Prop, (∃ S50 : World → Prop, S50 (World.drew w48) ∧
  V.ptr x_1 fun a52 =>
  ∃ m53, (∀ w51, S50 w51 → World.cell? w51 (Addr.add a52 3) = some (Value.map m53)) ∧
  ∃ s54, (∀ w51, S50 w51 → World.cell? w51 (Addr.add ⟨Array.size (World.heap w16), 0, none⟩ 0) = some (Value.string s54)) ∧
  ∃ s55, (∀ w51, S50 w51 → World.cell? w51 (Addr.add ⟨Array.size (World.heap w16), 0, none⟩ 1) = some (Value.string s55)) ∧
  (∃ m56, ∃ w57, Sem.run Tryd.prog (Instr.lookup 60 (Value.map m53) (Value.string s54) false) (World.drew w48) = .ok (Value.map m56) w57 ∧
  S50 w57 ∧
  Calls Tryd.prog 40 #[(Value.pointer x_1)] w57 fun e59 w60 =>
  ∃ p58, e59 = Ending.returned (Value.pointer p58) ∧
  S50 w60 ∧
  ∃ w61, Sem.run Tryd.prog (Instr.mapUpdate 74 (Value.map m56) (Value.string s55) (Value.pointer p58)) w60 = .ok () w61 ∧
  J49  w61) ∧
  (Calls Tryd.prog 40 #[(Value.pointer x_1)] (World.drew w48) fun e63 w64 =>
  ∃ p62, e63 = Ending.returned (Value.pointer p62) ∧
  S50 w64 ∧
  ∃ m65, ∃ w66, Sem.run Tryd.prog (Instr.lookup 60 (Value.map m53) (Value.string s54) false) w64 = .ok (Value.map m65) w66 ∧
  S50 w66 ∧
  ∃ w67, Sem.run Tryd.prog (Instr.mapUpdate 74 (Value.map m65) (Value.string s55) (Value.pointer p62)) w66 = .ok () w67 ∧
  J49  w67) ∧ True) ∧
  ∀ (j68 : Nat → Value) (w69 : World), J49  w69 →
  ∃ S70 : World → Prop, S70 (World.drew w69) ∧
  V.ptr x_1 fun a72 =>
  ∃ m73, (∀ w71, S70 w71 → World.cell? w71 (Addr.add a72 3) = some (Value.map m73)) ∧
  ∃ s74, (∀ w71, S70 w71 → World.cell? w71 (Addr.add ⟨Array.size (World.heap w16), 0, none⟩ 0) = some (Value.string s74)) ∧
  ∃ s75, (∀ w71, S70 w71 → World.cell? w71 (Addr.add ⟨Array.size (World.heap w16), 0, none⟩ 1) = some (Value.string s75)) ∧
  ∃ m76, ∃ w77, Sem.run Tryd.prog (Instr.lookup 60 (Value.map m73) (Value.string s74) false) (World.drew w69) = .ok (Value.map m76) w77 ∧
  S70 w77 ∧
  ∃ p78, ∃ w79, Sem.run Tryd.prog (Instr.lookup 74 (Value.map m76) (Value.string s75) false) w77 = .ok (Value.pointer p78) w79 ∧
  S70 w79 ∧
  Calls Tryd.prog 31 #[(Value.pointer p78), (Value.int .i64 slot_2)] w79 fun e81 w82 =>
  ∃ b80, e81 = Ending.returned (Value.bool b80) ∧
  S70 w82 ∧
  I12 (IntKind.wrap .i64 (t18_14 + 1)) w82 ∧ μ13 (IntKind.wrap .i64 (t18_14 + 1)) w82 < μ13 t18_14 w16)
  (∃ S83 : World → Prop, S83 (World.drew w48) ∧
  V.ptr x_1 fun a85 =>
  ∃ m86, (∀ w84, S83 w84 → World.cell? w84 (Addr.add a85 3) = some (Value.map m86)) ∧
  ∃ s87, (∀ w84, S83 w84 → World.cell? w84 (Addr.add ⟨Array.size (World.heap w16), 0, none⟩ 0) = some (Value.string s87)) ∧
  ∃ s88, (∀ w84, S83 w84 → World.cell? w84 (Addr.add ⟨Array.size (World.heap w16), 0, none⟩ 1) = some (Value.string s88)) ∧
  ∃ m89, ∃ w90, Sem.run Tryd.prog (Instr.lookup 60 (Value.map m86) (Value.string s87) false) (World.drew w48) = .ok (Value.map m89) w90 ∧
  S83 w90 ∧
  ∃ p91, ∃ w92, Sem.run Tryd.prog (Instr.lookup 74 (Value.map m89) (Value.string s88) false) w90 = .ok (Value.pointer p91) w92 ∧
  S83 w92 ∧
  Calls Tryd.prog 31 #[(Value.pointer p91), (Value.int .i64 slot_2)] w92 fun e94 w95 =>
  ∃ b93, e94 = Ending.returned (Value.bool b93) ∧
  S83 w95 ∧
  I12 (IntKind.wrap .i64 (t18_14 + 1)) w95 ∧ μ13 (IntKind.wrap .i64 (t18_14 + 1)) w95 < μ13 t18_14 w16)))
  (R (Ending.returned undef) w16))) :
  Calls Tryd.prog 32 #[(Value.pointer x_1), (Value.int .i64 slot_2), (Value.slice list_3 list_3l list_3c)] w R :=
  V.calls_of_R ⟨V.assoc [(0, [18])], V.assocP [(0, V.line [0, 1, 2, 3, 4, 6, 5, 7, 8]), (4, V.line [0, 1, 2, 3, 4, 5, 6, 7]), (5, V.line [0, 1, 2, 3, 4, 5, 6, 7]), (6, V.line [0, 1, 2, 3, 4, 5, 7, 8, 6, 9, 10]), (7, (V.Plan.one 0 (V.Plan.one 1 (V.Plan.one 2 (V.Plan.one 3 (V.Plan.one 4 (V.Plan.one 5 (V.Plan.one 7 (V.Plan.one 8 (V.Plan.one 9 (V.Plan.alt 6 (V.Plan.one 10 (V.Plan.one 11 V.Plan.done)) (V.Plan.alt 10 (V.Plan.one 6 (V.Plan.one 11 V.Plan.done)) V.Plan.stop)))))))))))), (8, V.line [0, 1, 2, 3, 4, 5, 7, 8, 10, 6, 9, 11])], V.assocC [(1000007, ([], [])), (7, ([], []))], V.assocS [], ⟨[], true⟩⟩ Tryd.func32 rfl (Eq.mp (by kernel_rfl) h)

theorem posting_Index_leave_nf (x_1 : Option Addr) (slot_2 : Int) (w : World) (R : Ending → World → Prop) (h :
  V.ptr x_1 fun a3 =>
  ∃ m4, World.cell? w (Addr.add a3 2) = some (Value.map m4) ∧
  ∃ A5, ∃ A5l, ∃ A5c, ∃ w6, Sem.run Tryd.prog (Instr.lookup 59 (Value.map m4) (Value.int .i64 slot_2) false) w = .ok (Value.slice A5 A5l A5c) w6 ∧
  ∃ I7 : Int → World → Prop, ∃ μ8 : Int → World → Nat, I7 0 w6 ∧
  ∀ t14_9 (j10 : Nat → Value) (w11 : World), I7 t14_9 w11 →
  (V.sel (decide (t14_9 < ((A5l : Nat) : Int)))
  (V.when (decide ((0 : Int) ≤ t14_9 ∧ (t14_9 : Int) < ((A5l : Nat) : Int))) (V.ptr A5 fun a12 =>
  ∃ s13, ∃ s14, V.cellsC (fun a_ x_ => World.cell? w11 a_ = some x_) (Addr.add a12 ((Int.toNat t14_9) * 2)) [(Value.string s13), (Value.string s14)] ∧
  ∀ w15, w15 = (World.alloc w11 (.cells #[(Value.string ByteArray.empty), (Value.string ByteArray.empty)] 36)) →
  ∃ w16, Sem.run Tryd.prog (Instr.storeAt 36 (Value.pointer (some ⟨Array.size (World.heap w11), 0, none⟩)) (Value.agg #[(Value.string s13), (Value.string s14)])) w15 = .ok () w16 ∧
  ∃ S17 : World → Prop, S17 (World.drew w16) ∧
  V.ptr x_1 fun a19 =>
  ∃ m20, (∀ w18, S17 w18 → World.cell? w18 (Addr.add a19 3) = some (Value.map m20)) ∧
  ∃ s21, (∀ w18, S17 w18 → World.cell? w18 (Addr.add ⟨Array.size (World.heap w11), 0, none⟩ 0) = some (Value.string s21)) ∧
  ∃ m22, ∃ w23, Sem.run Tryd.prog (Instr.lookup 60 (Value.map m20) (Value.string s21) false) (World.drew w16) = .ok (Value.map m22) w23 ∧
  S17 w23 ∧
  ∃ s24, World.cell? w23 (Addr.add ⟨Array.size (World.heap w11), 0, none⟩ 1) = some (Value.string s24) ∧
  ∃ p25, ∃ w26, Sem.run Tryd.prog (Instr.lookup 74 (Value.map m22) (Value.string s24) false) w23 = .ok (Value.pointer p25) w26 ∧
  Calls Tryd.prog 34 #[(Value.pointer p25), (Value.int .i64 slot_2)] w26 fun e28 w29 =>
  ∃ b27, e28 = Ending.returned (Value.bool b27) ∧
  ∃ J30 : World → Prop, (∃ s31, World.cell? w29 (Addr.add ⟨Array.size (World.heap w11), 0, none⟩ 1) = some (Value.string s31) ∧
  ∃ p32, ∃ w33, Sem.run Tryd.prog (Instr.lookup 74 (Value.map m22) (Value.string s31) false) w29 = .ok (Value.pointer p32) w33 ∧
  Calls Tryd.prog 26 #[(Value.pointer p32)] w33 fun e35 w36 =>
  ∃ n34, e35 = Ending.returned (Value.int .i64 n34) ∧
  V.sel (n34 == 0)
  (∃ s37, World.cell? w36 (Addr.add ⟨Array.size (World.heap w11), 0, none⟩ 1) = some (Value.string s37) ∧
  ∃ w38, Sem.run Tryd.prog (Builtin.delete_ #[74, 9] 0 #[(Value.map m22), (Value.string s37)]) w36 = .ok undef w38 ∧
  J30  w38)
  (J30  w36)) ∧
  ∀ (j39 : Nat → Value) (w40 : World), J30  w40 →
  ∃ n41, ∃ w42, Sem.run Tryd.prog (Builtin.len_ #[74] 3 #[(Value.map m22)]) w40 = .ok (Value.int .i64 n41) w42 ∧
  V.sel (n41 == 0)
  (∃ S43 : World → Prop, S43 (World.drew w42) ∧
  V.ptr x_1 fun a45 =>
  ∃ m46, (∀ w44, S43 w44 → World.cell? w44 (Addr.add a45 3) = some (Value.map m46)) ∧
  ∃ s47, (∀ w44, S43 w44 → World.cell? w44 (Addr.add ⟨Array.size (World.heap w11), 0, none⟩ 0) = some (Value.string s47)) ∧
  ∃ w48, Sem.run Tryd.prog (Builtin.delete_ #[60, 9] 0 #[(Value.map m46), (Value.string s47)]) (World.drew w42) = .ok undef w48 ∧
  S43 w48 ∧
  I7 (IntKind.wrap .i64 (t14_9 + 1)) w48 ∧ μ8 (IntKind.wrap .i64 (t14_9 + 1)) w48 < μ8 t14_9 w11)
  (I7 (IntKind.wrap .i64 (t14_9 + 1)) w42 ∧ μ8 (IntKind.wrap .i64 (t14_9 + 1)) w42 < μ8 t14_9 w11)))
  (V.ptr x_1 fun a49 =>
  ∃ m50, World.cell? w11 (Addr.add a49 2) = some (Value.map m50) ∧
  ∃ w51, Sem.run Tryd.prog (Builtin.delete_ #[59, 3] 0 #[(Value.map m50), (Value.int .i64 slot_2)]) w11 = .ok undef w51 ∧
  R (Ending.returned undef) w51))) :
  Calls Tryd.prog 33 #[(Value.pointer x_1), (Value.int .i64 slot_2)] w R :=
  V.calls_of_R ⟨V.assoc [(0, [14])], V.assocP [(3, V.line [0, 1, 2, 3, 4, 5, 6, 7]), (8, V.line [0, 1, 2, 3, 4, 5, 6])], V.assocC [(1000008, ([], []))], V.assocS [], ⟨[], true⟩⟩ Tryd.func33 rfl (Eq.mp (by kernel_rfl) h)

theorem bitset_Set_All_nf (s_1 : Option Addr) (w : World) (R : Ending → World → Prop) (h :
  Calls Tryd.prog 24 #[(Value.pointer s_1)] w fun e3 w4 =>
  ∃ A2, ∃ A2l, ∃ A2c, e3 = Ending.returned (Value.slice A2 A2l A2c) ∧
  ∀ w5, w5 = (World.alloc w4 (.cells #[(Value.slice none 0 0)] 52)) →
  ∃ w6, Sem.run Tryd.prog (Instr.storeAt 52 (Value.pointer (some ⟨Array.size (World.heap w4), 0, none⟩)) (Value.slice A2 A2l A2c)) w5 = .ok () w6 ∧
  R (Ending.returned (Value.func (.func 55) #[] #[(Value.pointer (some ⟨Array.size (World.heap w4), 0, none⟩))])) w6) :
  Calls Tryd.prog 35 #[(Value.pointer s_1)] w R :=
  V.calls_of_R ⟨V.assoc [], V.assocP [], V.assocC [], V.assocS [], ⟨[], true⟩⟩ Tryd.func35 rfl (Eq.mp (by kernel_rfl) h)

theorem slices_Equal___api_Label_api_Label__nf (s1_1 : Option Addr) (s1_1l : Nat) (s1_1c : Nat) (s2_2 : Option Addr) (s2_2l : Nat) (s2_2c : Nat) (w : World) (R : Ending → World → Prop) (h :
  V.sel (((s1_1l : Nat) : Int) != ((s2_2l : Nat) : Int))
  (R (Ending.returned (Value.bool false)) w)
  (∃ I3 : Int → World → Prop, ∃ μ4 : Int → World → Nat, I3 0 w ∧
  ∀ t13_5 (j6 : Nat → Value) (w7 : World), I3 t13_5 w7 →
  (V.sel (decide (t13_5 < ((s1_1l : Nat) : Int)))
  (V.when (decide ((0 : Int) ≤ t13_5 ∧ (t13_5 : Int) < ((s1_1l : Nat) : Int))) (V.ptr s1_1 fun a8 =>
  ∃ s9, ∃ s10, V.cellsC (fun a_ x_ => World.cell? w7 a_ = some x_) (Addr.add a8 ((Int.toNat t13_5) * 2)) [(Value.string s9), (Value.string s10)] ∧
  V.when (decide ((0 : Int) ≤ t13_5 ∧ (t13_5 : Int) < ((s2_2l : Nat) : Int))) (V.ptr s2_2 fun a11 =>
  ∃ s12, ∃ s13, V.cellsC (fun a_ x_ => World.cell? w7 a_ = some x_) (Addr.add a11 ((Int.toNat t13_5) * 2)) [(Value.string s12), (Value.string s13)] ∧
  V.sel (!((ByteArray.toList s9 == ByteArray.toList s12) && ((ByteArray.toList s10 == ByteArray.toList s13) && true)))
  (R (Ending.returned (Value.bool false)) (World.drew w7))
  (I3 (IntKind.wrap .i64 (t13_5 + 1)) (World.drew w7) ∧ μ4 (IntKind.wrap .i64 (t13_5 + 1)) (World.drew w7) < μ4 t13_5 w7))))
  (R (Ending.returned (Value.bool true)) w7)))) :
  Calls Tryd.prog 36 #[(Value.slice s1_1 s1_1l s1_1c), (Value.slice s2_2 s2_2l s2_2c)] w R :=
  V.calls_of_R ⟨V.assoc [(0, [13])], V.assocP [(6, V.line [0, 1, 2, 3, 4, 5, 6, 7, 8])], V.assocC [], V.assocS [], ⟨[], true⟩⟩ Tryd.func36 rfl (Eq.mp (by kernel_rfl) h)

theorem posting_Index_none_nf (x_1 : Option Addr) (w : World) (R : Ending → World → Prop) (h :
  V.sel (!(Option.isNone x_1))
  (V.ptr x_1 fun a2 =>
  ∃ n3, World.cell? w (Addr.add a2 0) = some (Value.int .i64 n3) ∧
  Calls Tryd.prog 45 #[(Value.int .i64 n3)] w fun e6 w7 =>
  ∃ p4, ∃ n5, e6 = Ending.returned (Value.tuple #[(Value.pointer p4), (Value.int .i64 n5)]) ∧
  R (Ending.returned (Value.pointer p4)) w7)
  (Calls Tryd.prog 45 #[(Value.int .i64 0)] w fun e10 w11 =>
  ∃ p8, ∃ n9, e10 = Ending.returned (Value.tuple #[(Value.pointer p8), (Value.int .i64 n9)]) ∧
  R (Ending.returned (Value.pointer p8)) w11)) :
  Calls Tryd.prog 40 #[(Value.pointer x_1)] w R :=
  V.calls_of_R ⟨V.assoc [], V.assocP [], V.assocC [], V.assocS [], ⟨[], true⟩⟩ Tryd.func40 rfl (Eq.mp (by kernel_rfl) h)

theorem posting_Index_values_nf (x_1 : Option Addr) (key_2 : ByteArray) (w : World) (R : Ending → World → Prop) (h :
  V.sel (Option.isNone x_1)
  (R (Ending.returned (Value.map none)) w)
  (V.ptr x_1 fun a3 =>
  ∃ m4, World.cell? w (Addr.add a3 3) = some (Value.map m4) ∧
  ∃ m5, ∃ w6, Sem.run Tryd.prog (Instr.lookup 60 (Value.map m4) (Value.string key_2) false) w = .ok (Value.map m5) w6 ∧
  R (Ending.returned (Value.map m5)) w6)) :
  Calls Tryd.prog 41 #[(Value.pointer x_1), (Value.string key_2)] w R :=
  V.calls_of_R ⟨V.assoc [], V.assocP [], V.assocC [], V.assocS [], ⟨[], true⟩⟩ Tryd.func41 rfl (Eq.mp (by kernel_rfl) h)

theorem berthlaw07_value_nf (l_1 : Option Addr) (l_1l : Nat) (l_1c : Nat) (key_2 : ByteArray) (w : World) (R : Ending → World → Prop) (h :
  ∃ I3 : Int → World → Prop, ∃ μ4 : Int → World → Nat, I3 0 w ∧
  ∀ i_5 (j6 : Nat → Value) (w7 : World), I3 i_5 w7 →
  (V.sel (decide (i_5 < ((l_1l : Nat) : Int)))
  (V.when (decide ((0 : Int) ≤ i_5 ∧ (i_5 : Int) < ((l_1l : Nat) : Int))) (V.ptr l_1 fun a8 =>
  ∃ s9, World.cell? w7 (Addr.add (Addr.add a8 ((Int.toNat i_5) * 2)) 0) = some (Value.string s9) ∧
  V.sel (ByteArray.toList s9 == ByteArray.toList key_2)
  (V.when (decide ((0 : Int) ≤ i_5 ∧ (i_5 : Int) < ((l_1l : Nat) : Int))) (V.ptr l_1 fun a10 =>
  ∃ s11, World.cell? w7 (Addr.add (Addr.add a10 ((Int.toNat i_5) * 2)) 1) = some (Value.string s11) ∧
  R (Ending.returned (Value.tuple #[(Value.string s11), (Value.bool true)])) w7))
  (I3 (IntKind.wrap .i64 (i_5 + 1)) w7 ∧ μ4 (IntKind.wrap .i64 (i_5 + 1)) w7 < μ4 i_5 w7)))
  (R (Ending.returned (Value.tuple #[(Value.string ByteArray.empty), (Value.bool false)])) w7))) :
  Calls Tryd.prog 47 #[(Value.slice l_1 l_1l l_1c), (Value.string key_2)] w R :=
  V.calls_of_R ⟨V.assoc [(0, [6])], V.assocP [], V.assocC [], V.assocS [], ⟨[], true⟩⟩ Tryd.func47 rfl (Eq.mp (by kernel_rfl) h)

theorem posting_Index_In_nf (x_1 : Option Addr) (key_2 : ByteArray) (values_3 : Option Addr) (values_3l : Nat) (values_3c : Nat) (w : World) (R : Ending → World → Prop) (h :
  Calls Tryd.prog 40 #[(Value.pointer x_1)] w fun e5 w6 =>
  ∃ p4, e5 = Ending.returned (Value.pointer p4) ∧
  ∃ I7 : Int → World → Prop, ∃ μ8 : Int → World → Nat, I7 0 w6 ∧
  ∀ t14_9 (j10 : Nat → Value) (w11 : World), I7 t14_9 w11 →
  (V.sel (decide (t14_9 < ((values_3l : Nat) : Int)))
  (V.when (decide ((0 : Int) ≤ t14_9 ∧ (t14_9 : Int) < ((values_3l : Nat) : Int))) (V.ptr values_3 fun a12 =>
  ∃ s13, World.cell? w11 (Addr.add a12 ((Int.toNat t14_9) * 1)) = some (Value.string s13) ∧
  Calls Tryd.prog 41 #[(Value.pointer x_1), (Value.string key_2)] w11 fun e15 w16 =>
  ∃ m14, e15 = Ending.returned (Value.map m14) ∧
  ∃ p17, ∃ w18, Sem.run Tryd.prog (Instr.lookup 74 (Value.map m14) (Value.string s13) false) w16 = .ok (Value.pointer p17) w18 ∧
  Calls Tryd.prog 42 #[(Value.pointer p4), (Value.pointer p17)] w18 fun e19 w20 =>
  e19 = Ending.returned undef ∧
  I7 (IntKind.wrap .i64 (t14_9 + 1)) w20 ∧ μ8 (IntKind.wrap .i64 (t14_9 + 1)) w20 < μ8 t14_9 w11))
  (R (Ending.returned (Value.pointer p4)) w11))) :
  Calls Tryd.prog 49 #[(Value.pointer x_1), (Value.string key_2), (Value.slice values_3 values_3l values_3c)] w R :=
  V.calls_of_R ⟨V.assoc [(0, [14])], V.assocP [], V.assocC [], V.assocS [], ⟨[], true⟩⟩ Tryd.func49 rfl (Eq.mp (by kernel_rfl) h)

theorem berthref01_SameInts_nf (a_1 : Option Addr) (a_1l : Nat) (a_1c : Nat) (b_2 : Option Addr) (b_2l : Nat) (b_2c : Nat) (w : World) (R : Ending → World → Prop) (h :
  V.sel (((a_1l : Nat) : Int) != ((b_2l : Nat) : Int))
  (R (Ending.returned (Value.bool false)) w)
  (∃ I3 : Int → World → Prop, ∃ μ4 : Int → World → Nat, I3 0 w ∧
  ∀ i_5 (j6 : Nat → Value) (w7 : World), I3 i_5 w7 →
  (V.sel (decide (i_5 < ((a_1l : Nat) : Int)))
  (V.when (decide ((0 : Int) ≤ i_5 ∧ (i_5 : Int) < ((a_1l : Nat) : Int))) (V.ptr a_1 fun a8 =>
  ∃ n9, World.cell? w7 (Addr.add a8 ((Int.toNat i_5) * 1)) = some (Value.int .i64 n9) ∧
  V.when (decide ((0 : Int) ≤ i_5 ∧ (i_5 : Int) < ((b_2l : Nat) : Int))) (V.ptr b_2 fun a10 =>
  ∃ n11, World.cell? w7 (Addr.add a10 ((Int.toNat i_5) * 1)) = some (Value.int .i64 n11) ∧
  V.sel (n9 != n11)
  (R (Ending.returned (Value.bool false)) (World.drew w7))
  (I3 (IntKind.wrap .i64 (i_5 + 1)) (World.drew w7) ∧ μ4 (IntKind.wrap .i64 (i_5 + 1)) (World.drew w7) < μ4 i_5 w7))))
  (R (Ending.returned (Value.bool true)) w7)))) :
  Calls Tryd.prog 53 #[(Value.slice a_1 a_1l a_1c), (Value.slice b_2 b_2l b_2c)] w R :=
  V.calls_of_R ⟨V.assoc [(0, [5])], V.assocP [(6, V.line [0, 1, 2, 3, 4, 5, 6, 7, 8])], V.assocC [], V.assocS [], ⟨[], true⟩⟩ Tryd.func53 rfl (Eq.mp (by kernel_rfl) h)

theorem labels_Check_nf (list_1 : Option Addr) (list_1l : Nat) (list_1c : Nat) (w : World) (R : Ending → World → Prop) (h :
  V.sel (decide (((list_1l : Nat) : Int) > 32))
  (R (Ending.returned (Value.tuple #[(Value.int .i64 32), (Value.int .i64 34)])) w)
  (∃ I2 : Int → World → Prop, ∃ μ3 : Int → World → Nat, I2 0 w ∧
  ∀ t11_4 (j5 : Nat → Value) (w6 : World), I2 t11_4 w6 →
  (V.sel (decide (t11_4 < ((list_1l : Nat) : Int)))
  (V.when (decide ((0 : Int) ≤ t11_4 ∧ (t11_4 : Int) < ((list_1l : Nat) : Int))) (V.ptr list_1 fun a7 =>
  ∃ s8, ∃ s9, V.cellsC (fun a_ x_ => World.cell? w6 a_ = some x_) (Addr.add a7 ((Int.toNat t11_4) * 2)) [(Value.string s8), (Value.string s9)] ∧
  ∀ w10, w10 = (World.alloc w6 (.cells #[(Value.string ByteArray.empty), (Value.string ByteArray.empty)] 36)) →
  ∃ w11, Sem.run Tryd.prog (Instr.storeAt 36 (Value.pointer (some ⟨Array.size (World.heap w6), 0, none⟩)) (Value.agg #[(Value.string s8), (Value.string s9)])) w10 = .ok () w11 ∧
  ∃ s12, World.cell? w11 (Addr.add ⟨Array.size (World.heap w6), 0, none⟩ 0) = some (Value.string s12) ∧
  Calls Tryd.prog 63 #[(Value.string s12)] w11 fun e14 w15 =>
  ∃ b13, e14 = Ending.returned (Value.bool b13) ∧
  V.sel (!b13)
  (R (Ending.returned (Value.tuple #[(Value.int .i64 t11_4), (Value.int .i64 31)])) w15)
  (∃ s16, World.cell? w15 (Addr.add ⟨Array.size (World.heap w6), 0, none⟩ 1) = some (Value.string s16) ∧
  Calls Tryd.prog 64 #[(Value.string s16)] w15 fun e18 w19 =>
  ∃ b17, e18 = Ending.returned (Value.bool b17) ∧
  V.sel (!b17)
  (R (Ending.returned (Value.tuple #[(Value.int .i64 t11_4), (Value.int .i64 32)])) w19)
  (V.sel (decide (t11_4 > 0))
  (∃ s20, World.cell? w19 (Addr.add ⟨Array.size (World.heap w6), 0, none⟩ 0) = some (Value.string s20) ∧
  V.when (decide ((0 : Int) ≤ (IntKind.wrap .i64 (t11_4 - 1)) ∧ ((IntKind.wrap .i64 (t11_4 - 1)) : Int) < ((list_1l : Nat) : Int))) (V.ptr list_1 fun a21 =>
  ∃ s22, World.cell? w19 (Addr.add (Addr.add a21 ((Int.toNat (IntKind.wrap .i64 (t11_4 - 1))) * 2)) 0) = some (Value.string s22) ∧
  V.sel (ByteArray.toList s20 == ByteArray.toList s22)
  (R (Ending.returned (Value.tuple #[(Value.int .i64 t11_4), (Value.int .i64 33)])) (World.drew w19))
  (V.sel (decide (t11_4 > 0))
  (∃ s23, World.cell? (World.drew w19) (Addr.add ⟨Array.size (World.heap w6), 0, none⟩ 0) = some (Value.string s23) ∧
  V.when (decide ((0 : Int) ≤ (IntKind.wrap .i64 (t11_4 - 1)) ∧ ((IntKind.wrap .i64 (t11_4 - 1)) : Int) < ((list_1l : Nat) : Int))) (V.ptr list_1 fun a24 =>
  ∃ s25, World.cell? (World.drew w19) (Addr.add (Addr.add a24 ((Int.toNat (IntKind.wrap .i64 (t11_4 - 1))) * 2)) 0) = some (Value.string s25) ∧
  V.sel (Op.bytesLess (ByteArray.toList s23) (ByteArray.toList s25))
  (R (Ending.returned (Value.tuple #[(Value.int .i64 t11_4), (Value.int .i64 36)])) (World.drew (World.drew w19)))
  (I2 (IntKind.wrap .i64 (t11_4 + 1)) (World.drew (World.drew w19)) ∧ μ3 (IntKind.wrap .i64 (t11_4 + 1)) (World.drew (World.drew w19)) < μ3 t11_4 w6)))
  (I2 (IntKind.wrap .i64 (t11_4 + 1)) (World.drew (World.drew w19)) ∧ μ3 (IntKind.wrap .i64 (t11_4 + 1)) (World.drew (World.drew w19)) < μ3 t11_4 w6))))
  (V.sel (decide (t11_4 > 0))
  (∃ s26, World.cell? (World.drew w19) (Addr.add ⟨Array.size (World.heap w6), 0, none⟩ 0) = some (Value.string s26) ∧
  V.when (decide ((0 : Int) ≤ (IntKind.wrap .i64 (t11_4 - 1)) ∧ ((IntKind.wrap .i64 (t11_4 - 1)) : Int) < ((list_1l : Nat) : Int))) (V.ptr list_1 fun a27 =>
  ∃ s28, World.cell? (World.drew w19) (Addr.add (Addr.add a27 ((Int.toNat (IntKind.wrap .i64 (t11_4 - 1))) * 2)) 0) = some (Value.string s28) ∧
  V.sel (Op.bytesLess (ByteArray.toList s26) (ByteArray.toList s28))
  (R (Ending.returned (Value.tuple #[(Value.int .i64 t11_4), (Value.int .i64 36)])) (World.drew (World.drew w19)))
  (I2 (IntKind.wrap .i64 (t11_4 + 1)) (World.drew (World.drew w19)) ∧ μ3 (IntKind.wrap .i64 (t11_4 + 1)) (World.drew (World.drew w19)) < μ3 t11_4 w6)))
  (I2 (IntKind.wrap .i64 (t11_4 + 1)) (World.drew (World.drew w19)) ∧ μ3 (IntKind.wrap .i64 (t11_4 + 1)) (World.drew (World.drew w19)) < μ3 t11_4 w6))))))
  (R (Ending.returned (Value.tuple #[(Value.int .i64 0), (Value.int .i64 0)])) w6)))) :
  Calls Tryd.prog 54 #[(Value.slice list_1 list_1l list_1c)] w R :=
  V.calls_of_R ⟨V.assoc [(0, [11])], V.assocP [(10, V.line [0, 1, 2, 3, 4, 5, 6, 7, 8, 9, 10, 11, 12, 13]), (12, V.line [0, 1, 2, 3, 4, 5, 6, 7, 8, 9, 10, 11, 12, 13])], V.assocC [], V.assocS [], ⟨[], true⟩⟩ Tryd.func54 rfl (Eq.mp (by kernel_rfl) h)

theorem bitset_Set_All_l1_nf (yl : Nat) (free0_1 : Option Addr) (w : World) (R : Ending → World → Prop) (h :
  V.ptr free0_1 fun a2 =>
  ∃ A3, ∃ A3l, ∃ A3c, World.cell? w a2 = some (Value.slice A3 A3l A3c) ∧
  ∃ I4 : Int → World → Prop, ∃ μ5 : Int → World → Nat, I4 0 w ∧
  ∀ t7_6 (j7 : Nat → Value) (w8 : World), I4 t7_6 w8 →
  (V.sel (decide (t7_6 < ((A3l : Nat) : Int)))
  (V.when (decide ((0 : Int) ≤ t7_6 ∧ (t7_6 : Int) < ((A3l : Nat) : Int))) (V.ptr A3 fun a9 =>
  ∃ n10, World.cell? w8 (Addr.add a9 ((Int.toNat t7_6) * 1)) = some (Value.int .i64 n10) ∧
  V.Yield Tryd.prog yl [(Value.int .i64 n10)] w8 fun e12 w13 =>
  ∃ b11, e12 = Ending.returned (Value.bool b11) ∧
  V.sel (!b11)
  (R (Ending.returned undef) w13)
  (I4 (IntKind.wrap .i64 (t7_6 + 1)) w13 ∧ μ5 (IntKind.wrap .i64 (t7_6 + 1)) w13 < μ5 t7_6 w8)))
  (R (Ending.returned undef) w8))) :
  Calls Tryd.prog 55 #[(Value.func (.yield yl) #[] #[]), (Value.pointer free0_1)] w R :=
  V.calls_of_R ⟨V.assoc [(0, [7])], V.assocP [], V.assocC [], V.assocS [], ⟨[], true⟩⟩ Tryd.func55 rfl (Eq.mp (by kernel_rfl) h)

end Go.Proofs.YtpipenkaaodlgaaDoor
