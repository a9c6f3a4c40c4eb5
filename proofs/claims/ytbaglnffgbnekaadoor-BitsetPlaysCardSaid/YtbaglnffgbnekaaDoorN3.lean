/- Normal forms of the program's functions, printed by a program of mine; the kernel checks each. -/
import Derived.Test.YtbaglnffgbnekaaDoorProg
import Derived.Test.YtbaglnffgbnekaaDoorV2
set_option linter.unusedVariables false
set_option maxRecDepth 100000
namespace Go.Proofs.YtbaglnffgbnekaaDoor
open Go

theorem berthlaw01_Regs_asking_nf (g_1 : Option Addr) (o_2 : Int) (o_3 : Int) (o_4 : Int) (o_5 : Int) (o_6 : Int) (o_7 : Option Addr) (o_7l : Nat) (o_7c : Nat) (o_8 : Option Addr) (o_8l : Nat) (o_8c : Nat) (w : World) (R : Ending → World → Prop) (h :
  ∀ w9, w9 = (World.alloc w (.cells #[(Value.int .i64 o_2), (Value.int .i64 o_3), (Value.int .i64 o_4), (Value.int .i64 o_5), (Value.int .i64 o_6), (Value.slice o_7 o_7l o_7c), (Value.slice o_8 o_8l o_8c)] 56)) →
  ∃ S10 : World → Prop, S10 (World.drew w9) ∧
  ∃ n12, (∀ w11, S10 w11 → World.cell? w11 (Addr.add ⟨Array.size (World.heap w), 0, none⟩ 1) = some (Value.int .i64 n12)) ∧
  V.ptr g_1 fun a13 =>
  V.when (decide ((0 : Int) ≤ (IntKind.wrap .i64 ((BitVec.toNat (BitVec.ofInt 64 n12 &&& BitVec.ofInt 64 3) : Nat) : Int)) ∧ ((IntKind.wrap .i64 ((BitVec.toNat (BitVec.ofInt 64 n12 &&& BitVec.ofInt 64 3) : Nat) : Int)) : Int) < 4)) (∃ p14, (∀ w11, S10 w11 → World.cell? w11 (Addr.add (Addr.add a13 0) ((Int.toNat (IntKind.wrap .i64 ((BitVec.toNat (BitVec.ofInt 64 n12 &&& BitVec.ofInt 64 3) : Nat) : Int))) * 1)) = some (Value.pointer p14)) ∧
  ∃ n15, (∀ w11, S10 w11 → World.cell? w11 (Addr.add ⟨Array.size (World.heap w), 0, none⟩ 1) = some (Value.int .i64 n15)) ∧
  V.ptr g_1 fun a16 =>
  V.when (decide ((0 : Int) ≤ (IntKind.wrap .i64 ((BitVec.toNat (BitVec.ofInt 64 n15 &&& BitVec.ofInt 64 3) : Nat) : Int)) ∧ ((IntKind.wrap .i64 ((BitVec.toNat (BitVec.ofInt 64 n15 &&& BitVec.ofInt 64 3) : Nat) : Int)) : Int) < 4)) (∃ n17, ∃ A18, ∃ A18l, ∃ A18c, V.cellsC (fun a_ x_ => ∀ w11, S10 w11 → World.cell? w11 a_ = some x_) (Addr.add (Addr.add a16 4) ((Int.toNat (IntKind.wrap .i64 ((BitVec.toNat (BitVec.ofInt 64 n15 &&& BitVec.ofInt 64 3) : Nat) : Int))) * 2)) [(Value.int .i64 n17), (Value.slice A18 A18l A18c)] ∧
  ∀ w19, w19 = (World.alloc (World.drew w9) (.cells #[(Value.int .i64 0), (Value.slice none 0 0)] 50)) →
  S10 w19 ∧
  ∃ w20, Sem.run Tryd.prog (Instr.storeAt 50 (Value.pointer (some ⟨Array.size (World.heap (World.drew w9)), 0, none⟩)) (Value.agg #[(Value.int .i64 n17), (Value.slice A18 A18l A18c)])) w19 = .ok () w20 ∧
  ∃ n21, World.cell? w20 (Addr.add ⟨Array.size (World.heap w), 0, none⟩ 0) = some (Value.int .i64 n21) ∧
  V.sel (n21 == 17)
  (∃ S22 : World → Prop, S22 (World.drew w20) ∧
  ∃ n24, (∀ w23, S22 w23 → World.cell? w23 (Addr.add ⟨Array.size (World.heap (World.drew w9)), 0, none⟩ 0) = some (Value.int .i64 n24)) ∧
  Calls Tryd.prog 9 #[(Value.pointer p14)] (World.drew w20) fun e26 w27 =>
  ∃ n25, e26 = Ending.returned (Value.int .i64 n25) ∧
  S22 w27 ∧
  V.sel (n25 == n24)
  (∃ A28, ∃ A28l, ∃ A28c, (∀ w23, S22 w23 → World.cell? w23 (Addr.add ⟨Array.size (World.heap (World.drew w9)), 0, none⟩ 1) = some (Value.slice A28 A28l A28c)) ∧
  Calls Tryd.prog 11 #[(Value.pointer p14)] w27 fun e30 w31 =>
  ∃ n29, e30 = Ending.returned (Value.int .i64 n29) ∧
  S22 w31 ∧
  R (Ending.returned (Value.bool (n29 == ((A28l : Nat) : Int)))) w31)
  (R (Ending.returned (Value.bool false)) w27))
  (V.sel (n21 == 18)
  (∃ S32 : World → Prop, S32 (World.drew w20) ∧
  ∃ n34, (∀ w33, S32 w33 → World.cell? w33 (Addr.add ⟨Array.size (World.heap w), 0, none⟩ 4) = some (Value.int .i64 n34)) ∧
  ∃ n35, ∃ A36, ∃ A36l, ∃ A36c, V.cellsC (fun a_ x_ => ∀ w33, S32 w33 → World.cell? w33 a_ = some x_) ⟨Array.size (World.heap (World.drew w9)), 0, none⟩ [(Value.int .i64 n35), (Value.slice A36 A36l A36c)] ∧
  ∃ n37, (∀ w33, S32 w33 → World.cell? w33 (Addr.add ⟨Array.size (World.heap w), 0, none⟩ 4) = some (Value.int .i64 n37)) ∧
  Calls Tryd.prog 14 #[(Value.pointer p14), (Value.int .i64 n34)] (World.drew w20) fun e39 w40 =>
  ∃ b38, e39 = Ending.returned (Value.bool b38) ∧
  S32 w40 ∧
  Calls Tryd.prog 79 #[(Value.agg #[(Value.int .i64 n35), (Value.slice A36 A36l A36c)]), (Value.int .i64 n37)] w40 fun e42 w43 =>
  ∃ b41, e42 = Ending.returned (Value.bool b41) ∧
  S32 w43 ∧
  R (Ending.returned (Value.bool (b38 == b41))) w43)
  (V.sel (n21 == 19)
  (∃ S44 : World → Prop, S44 (World.drew w20) ∧
  ∃ n46, (∀ w45, S44 w45 → World.cell? w45 (Addr.add ⟨Array.size (World.heap w), 0, none⟩ 4) = some (Value.int .i64 n46)) ∧
  ∃ n47, ∃ A48, ∃ A48l, ∃ A48c, V.cellsC (fun a_ x_ => ∀ w45, S44 w45 → World.cell? w45 a_ = some x_) ⟨Array.size (World.heap (World.drew w9)), 0, none⟩ [(Value.int .i64 n47), (Value.slice A48 A48l A48c)] ∧
  ∃ n49, (∀ w45, S44 w45 → World.cell? w45 (Addr.add ⟨Array.size (World.heap w), 0, none⟩ 4) = some (Value.int .i64 n49)) ∧
  Calls Tryd.prog 15 #[(Value.pointer p14), (Value.int .i64 n46)] (World.drew w20) fun e51 w52 =>
  ∃ n50, e51 = Ending.returned (Value.int .i64 n50) ∧
  S44 w52 ∧
  Calls Tryd.prog 80 #[(Value.agg #[(Value.int .i64 n47), (Value.slice A48 A48l A48c)]), (Value.int .i64 n49)] w52 fun e54 w55 =>
  ∃ n53, e54 = Ending.returned (Value.int .i64 n53) ∧
  S44 w55 ∧
  R (Ending.returned (Value.bool (n50 == n53))) w55)
  (V.sel (n21 == 20)
  (∃ S56 : World → Prop, S56 (World.drew w20) ∧
  ∃ n58, (∀ w57, S56 w57 → World.cell? w57 (Addr.add ⟨Array.size (World.heap w), 0, none⟩ 4) = some (Value.int .i64 n58)) ∧
  ∃ n59, ∃ A60, ∃ A60l, ∃ A60c, V.cellsC (fun a_ x_ => ∀ w57, S56 w57 → World.cell? w57 a_ = some x_) ⟨Array.size (World.heap (World.drew w9)), 0, none⟩ [(Value.int .i64 n59), (Value.slice A60 A60l A60c)] ∧
  ∃ n61, (∀ w57, S56 w57 → World.cell? w57 (Addr.add ⟨Array.size (World.heap w), 0, none⟩ 4) = some (Value.int .i64 n61)) ∧
  Calls Tryd.prog 16 #[(Value.pointer p14), (Value.int .i64 n58)] (World.drew w20) fun e63 w64 =>
  ∃ n62, e63 = Ending.returned (Value.int .i64 n62) ∧
  S56 w64 ∧
  Calls Tryd.prog 81 #[(Value.agg #[(Value.int .i64 n59), (Value.slice A60 A60l A60c)]), (Value.int .i64 n61)] w64 fun e66 w67 =>
  ∃ n65, e66 = Ending.returned (Value.int .i64 n65) ∧
  S56 w67 ∧
  R (Ending.returned (Value.bool (n62 == n65))) w67)
  (V.sel (n21 == 21)
  (∃ S68 : World → Prop, S68 (World.drew w20) ∧
  ∃ n70, (∀ w69, S68 w69 → World.cell? w69 (Addr.add ⟨Array.size (World.heap w), 0, none⟩ 4) = some (Value.int .i64 n70)) ∧
  ∃ n71, ∃ A72, ∃ A72l, ∃ A72c, V.cellsC (fun a_ x_ => ∀ w69, S68 w69 → World.cell? w69 a_ = some x_) ⟨Array.size (World.heap (World.drew w9)), 0, none⟩ [(Value.int .i64 n71), (Value.slice A72 A72l A72c)] ∧
  ∃ n73, (∀ w69, S68 w69 → World.cell? w69 (Addr.add ⟨Array.size (World.heap w), 0, none⟩ 4) = some (Value.int .i64 n73)) ∧
  Calls Tryd.prog 12 #[(Value.pointer p14), (Value.int .i64 n70)] (World.drew w20) fun e75 w76 =>
  ∃ n74, e75 = Ending.returned (Value.int .i64 n74) ∧
  S68 w76 ∧
  Calls Tryd.prog 82 #[(Value.agg #[(Value.int .i64 n71), (Value.slice A72 A72l A72c)]), (Value.int .i64 n73)] w76 fun e78 w79 =>
  ∃ n77, e78 = Ending.returned (Value.int .i64 n77) ∧
  S68 w79 ∧
  R (Ending.returned (Value.bool (n74 == n77))) w79)
  (V.sel (n21 == 22)
  (∃ S80 : World → Prop, S80 (World.drew w20) ∧
  ∃ n82, (∀ w81, S80 w81 → World.cell? w81 (Addr.add ⟨Array.size (World.heap w), 0, none⟩ 4) = some (Value.int .i64 n82)) ∧
  ∃ n83, ∃ A84, ∃ A84l, ∃ A84c, V.cellsC (fun a_ x_ => ∀ w81, S80 w81 → World.cell? w81 a_ = some x_) ⟨Array.size (World.heap (World.drew w9)), 0, none⟩ [(Value.int .i64 n83), (Value.slice A84 A84l A84c)] ∧
  ∃ n85, (∀ w81, S80 w81 → World.cell? w81 (Addr.add ⟨Array.size (World.heap w), 0, none⟩ 4) = some (Value.int .i64 n85)) ∧
  Calls Tryd.prog 13 #[(Value.pointer p14), (Value.int .i64 n82)] (World.drew w20) fun e87 w88 =>
  ∃ n86, e87 = Ending.returned (Value.int .i64 n86) ∧
  S80 w88 ∧
  Calls Tryd.prog 83 #[(Value.agg #[(Value.int .i64 n83), (Value.slice A84 A84l A84c)]), (Value.int .i64 n85)] w88 fun e90 w91 =>
  ∃ n89, e90 = Ending.returned (Value.int .i64 n89) ∧
  S80 w91 ∧
  R (Ending.returned (Value.bool (n86 == n89))) w91)
  (V.sel (n21 == 23)
  (∃ S92 : World → Prop, S92 (World.drew w20) ∧
  ∃ A94, ∃ A94l, ∃ A94c, (∀ w93, S92 w93 → World.cell? w93 (Addr.add ⟨Array.size (World.heap (World.drew w9)), 0, none⟩ 1) = some (Value.slice A94 A94l A94c)) ∧
  Calls Tryd.prog 10 #[(Value.pointer p14)] (World.drew w20) fun e96 w97 =>
  ∃ A95, ∃ A95l, ∃ A95c, e96 = Ending.returned (Value.slice A95 A95l A95c) ∧
  S92 w97 ∧
  Calls Tryd.prog 84 #[(Value.slice A95 A95l A95c), (Value.slice A94 A94l A94c)] w97 fun e99 w100 =>
  ∃ b98, e99 = Ending.returned (Value.bool b98) ∧
  S92 w100 ∧
  R (Ending.returned (Value.bool b98)) w100)
  (V.sel (n21 == 24)
  (∃ S101 : World → Prop, S101 (World.drew w20) ∧
  ∃ n103, ∃ A104, ∃ A104l, ∃ A104c, V.cellsC (fun a_ x_ => ∀ w102, S101 w102 → World.cell? w102 a_ = some x_) ⟨Array.size (World.heap (World.drew w9)), 0, none⟩ [(Value.int .i64 n103), (Value.slice A104 A104l A104c)] ∧
  Calls Tryd.prog 25 #[(Value.pointer p14)] (World.drew w20) fun e106 w107 =>
  ∃ A105, ∃ A105l, ∃ A105c, e106 = Ending.returned (Value.slice A105 A105l A105c) ∧
  S101 w107 ∧
  Calls Tryd.prog 86 #[(Value.agg #[(Value.int .i64 n103), (Value.slice A104 A104l A104c)])] w107 fun e109 w110 =>
  ∃ A108, ∃ A108l, ∃ A108c, e109 = Ending.returned (Value.slice A108 A108l A108c) ∧
  S101 w110 ∧
  Calls Tryd.prog 85 #[(Value.slice A105 A105l A105c), (Value.slice A108 A108l A108c)] w110 fun e112 w113 =>
  ∃ b111, e112 = Ending.returned (Value.bool b111) ∧
  S101 w113 ∧
  R (Ending.returned (Value.bool b111)) w113)
  (V.sel (n21 == 25)
  (∃ S114 : World → Prop, S114 (World.drew w20) ∧
  ∃ A116, ∃ A116l, ∃ A116c, (∀ w115, S114 w115 → World.cell? w115 (Addr.add ⟨Array.size (World.heap (World.drew w9)), 0, none⟩ 1) = some (Value.slice A116 A116l A116c)) ∧
  ∃ A117, ∃ A117l, ∃ A117c, (∀ w115, S114 w115 → World.cell? w115 (Addr.add ⟨Array.size (World.heap (World.drew w9)), 0, none⟩ 1) = some (Value.slice A117 A117l A117c)) ∧
  Calls Tryd.prog 26 #[(Value.pointer p14), (Value.int .i64 ((A116l : Nat) : Int))] (World.drew w20) fun e119 w120 =>
  ∃ A118, ∃ A118l, ∃ A118c, e119 = Ending.returned (Value.slice A118 A118l A118c) ∧
  S114 w120 ∧
  Calls Tryd.prog 84 #[(Value.slice A118 A118l A118c), (Value.slice A117 A117l A117c)] w120 fun e122 w123 =>
  ∃ b121, e122 = Ending.returned (Value.bool b121) ∧
  S114 w123 ∧
  R (Ending.returned (Value.bool b121)) w123)
  (∃ S124 : World → Prop, S124 (World.drew w20) ∧
  ∃ n126, (∀ w125, S124 w125 → World.cell? w125 (Addr.add ⟨Array.size (World.heap w), 0, none⟩ 2) = some (Value.int .i64 n126)) ∧
  V.ptr g_1 fun a127 =>
  V.when (decide ((0 : Int) ≤ (IntKind.wrap .i64 ((BitVec.toNat (BitVec.ofInt 64 n126 &&& BitVec.ofInt 64 3) : Nat) : Int)) ∧ ((IntKind.wrap .i64 ((BitVec.toNat (BitVec.ofInt 64 n126 &&& BitVec.ofInt 64 3) : Nat) : Int)) : Int) < 4)) (∃ p128, (∀ w125, S124 w125 → World.cell? w125 (Addr.add (Addr.add a127 0) ((Int.toNat (IntKind.wrap .i64 ((BitVec.toNat (BitVec.ofInt 64 n126 &&& BitVec.ofInt 64 3) : Nat) : Int))) * 1)) = some (Value.pointer p128)) ∧
  ∃ n129, (∀ w125, S124 w125 → World.cell? w125 (Addr.add ⟨Array.size (World.heap w), 0, none⟩ 2) = some (Value.int .i64 n129)) ∧
  V.ptr g_1 fun a130 =>
  V.when (decide ((0 : Int) ≤ (IntKind.wrap .i64 ((BitVec.toNat (BitVec.ofInt 64 n129 &&& BitVec.ofInt 64 3) : Nat) : Int)) ∧ ((IntKind.wrap .i64 ((BitVec.toNat (BitVec.ofInt 64 n129 &&& BitVec.ofInt 64 3) : Nat) : Int)) : Int) < 4)) (∃ n131, ∃ A132, ∃ A132l, ∃ A132c, V.cellsC (fun a_ x_ => ∀ w125, S124 w125 → World.cell? w125 a_ = some x_) (Addr.add (Addr.add a130 4) ((Int.toNat (IntKind.wrap .i64 ((BitVec.toNat (BitVec.ofInt 64 n129 &&& BitVec.ofInt 64 3) : Nat) : Int))) * 2)) [(Value.int .i64 n131), (Value.slice A132 A132l A132c)] ∧
  ∀ w133, w133 = (World.alloc (World.drew w20) (.cells #[(Value.int .i64 0), (Value.slice none 0 0)] 50)) →
  S124 w133 ∧
  ∃ w134, Sem.run Tryd.prog (Instr.storeAt 50 (Value.pointer (some ⟨Array.size (World.heap (World.drew w20)), 0, none⟩)) (Value.agg #[(Value.int .i64 n131), (Value.slice A132 A132l A132c)])) w133 = .ok () w134 ∧
  ∃ S135 : World → Prop, S135 (World.drew w134) ∧
  ∃ n137, ∃ A138, ∃ A138l, ∃ A138c, V.cellsC (fun a_ x_ => ∀ w136, S135 w136 → World.cell? w136 a_ = some x_) ⟨Array.size (World.heap (World.drew w9)), 0, none⟩ [(Value.int .i64 n137), (Value.slice A138 A138l A138c)] ∧
  ∃ n139, ∃ A140, ∃ A140l, ∃ A140c, V.cellsC (fun a_ x_ => ∀ w136, S135 w136 → World.cell? w136 a_ = some x_) ⟨Array.size (World.heap (World.drew w20)), 0, none⟩ [(Value.int .i64 n139), (Value.slice A140 A140l A140c)] ∧
  Calls Tryd.prog 35 #[(Value.pointer p14), (Value.pointer p128)] (World.drew w134) fun e142 w143 =>
  ∃ b141, e142 = Ending.returned (Value.bool b141) ∧
  S135 w143 ∧
  Calls Tryd.prog 87 #[(Value.agg #[(Value.int .i64 n137), (Value.slice A138 A138l A138c)]), (Value.agg #[(Value.int .i64 n139), (Value.slice A140 A140l A140c)])] w143 fun e145 w146 =>
  ∃ b144, e145 = Ending.returned (Value.bool b144) ∧
  S135 w146 ∧
  V.sel (!(b141 == b144))
  (R (Ending.returned (Value.bool false)) w146)
  (∃ n147, ∃ A148, ∃ A148l, ∃ A148c, V.cellsC (fun a_ x_ => ∀ w136, S135 w136 → World.cell? w136 a_ = some x_) ⟨Array.size (World.heap (World.drew w9)), 0, none⟩ [(Value.int .i64 n147), (Value.slice A148 A148l A148c)] ∧
  ∃ n149, ∃ A150, ∃ A150l, ∃ A150c, V.cellsC (fun a_ x_ => ∀ w136, S135 w136 → World.cell? w136 a_ = some x_) ⟨Array.size (World.heap (World.drew w20)), 0, none⟩ [(Value.int .i64 n149), (Value.slice A150 A150l A150c)] ∧
  Calls Tryd.prog 36 #[(Value.pointer p14), (Value.pointer p128)] w146 fun e152 w153 =>
  ∃ b151, e152 = Ending.returned (Value.bool b151) ∧
  S135 w153 ∧
  Calls Tryd.prog 88 #[(Value.agg #[(Value.int .i64 n147), (Value.slice A148 A148l A148c)]), (Value.agg #[(Value.int .i64 n149), (Value.slice A150 A150l A150c)])] w153 fun e155 w156 =>
  ∃ b154, e155 = Ending.returned (Value.bool b154) ∧
  S135 w156 ∧
  V.sel (!(b151 == b154))
  (R (Ending.returned (Value.bool false)) w156)
  (∃ S157 : World → Prop, S157 (World.drew w156) ∧
  ∃ n159, ∃ A160, ∃ A160l, ∃ A160c, V.cellsC (fun a_ x_ => ∀ w158, S157 w158 → World.cell? w158 a_ = some x_) ⟨Array.size (World.heap (World.drew w9)), 0, none⟩ [(Value.int .i64 n159), (Value.slice A160 A160l A160c)] ∧
  ∃ n161, ∃ A162, ∃ A162l, ∃ A162c, V.cellsC (fun a_ x_ => ∀ w158, S157 w158 → World.cell? w158 a_ = some x_) ⟨Array.size (World.heap (World.drew w20)), 0, none⟩ [(Value.int .i64 n161), (Value.slice A162 A162l A162c)] ∧
  Calls Tryd.prog 34 #[(Value.pointer p14), (Value.pointer p128)] (World.drew w156) fun e164 w165 =>
  ∃ b163, e164 = Ending.returned (Value.bool b163) ∧
  S157 w165 ∧
  Calls Tryd.prog 89 #[(Value.agg #[(Value.int .i64 n159), (Value.slice A160 A160l A160c)]), (Value.agg #[(Value.int .i64 n161), (Value.slice A162 A162l A162c)])] w165 fun e167 w168 =>
  ∃ b166, e167 = Ending.returned (Value.bool b166) ∧
  S157 w168 ∧
  R (Ending.returned (Value.bool (b163 == b166))) w168)))))))))))))))) :
  Calls Tryd.prog 56 #[(Value.pointer g_1), (Value.agg #[(Value.int .i64 o_2), (Value.int .i64 o_3), (Value.int .i64 o_4), (Value.int .i64 o_5), (Value.int .i64 o_6), (Value.slice o_7 o_7l o_7c), (Value.slice o_8 o_8l o_8c)])] w R :=
  V.calls_of_R ⟨V.assoc [], V.assocP [(1, V.line [0, 1, 2, 3, 4, 5, 6, 7, 8, 9, 10, 11, 12, 13, 14, 15, 16, 17, 18]), (4, V.line [0, 2, 3, 1, 4, 5, 6, 8, 9, 10, 7, 11, 12, 13]), (6, V.line [0, 1, 2, 4, 5, 6, 3, 7, 8, 9]), (8, V.line [0, 1, 2, 4, 5, 6, 3, 7, 8, 9]), (10, V.line [0, 1, 2, 4, 5, 6, 3, 7, 8, 9]), (12, V.line [0, 1, 2, 4, 5, 6, 3, 7, 8, 9]), (14, V.line [0, 1, 2, 4, 5, 6, 3, 7, 8, 9]), (16, V.line [0, 2, 3, 1, 4, 5]), (18, V.line [0, 2, 1, 3, 4, 5]), (20, V.line [0, 1, 2, 3, 5, 6, 4, 7, 8]), (21, V.line [0, 1, 2, 3, 4, 5, 6, 7, 8, 9, 10, 11, 12, 13, 14, 15, 16, 17, 18]), (22, V.line [0, 1, 3, 4, 2, 5, 6, 7, 8, 9, 11, 12, 10, 13, 14, 15]), (24, V.line [0, 1, 3, 4, 2, 5, 6, 7])], V.assocC [], V.assocS [], ⟨[], true⟩⟩ Tryd.func56 rfl (Eq.mp (by kernel_rfl) h)

theorem bitset_New_nf (n_1 : Int) (w : World) (R : Ending → World → Prop) (h :
  V.sel (decide (n_1 < 0))
  (R (Ending.returned (Value.tuple #[(Value.pointer none), (Value.int .i64 11)])) w)
  (V.sel (decide (n_1 > 65536))
  (R (Ending.returned (Value.tuple #[(Value.pointer none), (Value.int .i64 11)])) w)
  (Calls Tryd.prog 46 #[(Value.int .i64 n_1)] w fun e3 w4 =>
  ∃ p2, e3 = Ending.returned (Value.pointer p2) ∧
  R (Ending.returned (Value.tuple #[(Value.pointer p2), (Value.int .i64 0)])) w4))) :
  Calls Tryd.prog 57 #[(Value.int .i64 n_1)] w R :=
  V.calls_of_R ⟨V.assoc [], V.assocP [], V.assocC [], V.assocS [], ⟨[], false⟩⟩ Tryd.func57 rfl (Eq.mp (by kernel_rfl) h)

theorem bitset_Set_All_l1_nf (yl : Nat) (free0_1 : Option Addr) (w : World) (R : Ending → World → Prop) (h :
  V.ptr free0_1 fun a2 =>
  ∃ A3, ∃ A3l, ∃ A3c, World.cell? w a2 = some (Value.slice A3 A3l A3c) ∧
  ∃ I4 : Int → World → Prop, ∃ μ5 : Int → World → Nat, I4 0 w ∧
  ∀ t7_6 (j7 : Nat → Value) (w8 : World), I4 t7_6 w8 →
  (V.sel (decide (t7_6 < ((A3l : Nat) : Int)))
  (V.when (decide ((0 : Int) ≤ t7_6 ∧ (t7_6 : Int) < ((A3l : Nat) : Int))) (V.ptr A3 fun a9 =>
  ∃ n10, World.cell? w8 (Addr.add a9 ((Int.toNat t7_6) * 1)) = some (Value.int .i64 n10) ∧
  V.Yield Tryd.prog yl [(Value.int .i64 n10)] w8 fun e12 w13 =>
  ∃ b11, e12 = Ending.returned (Value.bool b11) ∧
  V.sel (!b11)
  (R (Ending.returned undef) w13)
  (I4 (IntKind.wrap .i64 (t7_6 + 1)) w13 ∧ μ5 (IntKind.wrap .i64 (t7_6 + 1)) w13 < μ5 t7_6 w8)))
  (R (Ending.returned undef) w8))) :
  Calls Tryd.prog 59 #[(Value.func (.yield yl) #[] #[]), (Value.pointer free0_1)] w R :=
  V.calls_of_R ⟨V.assoc [(0, [7])], V.assocP [], V.assocC [], V.assocS [], ⟨[], true⟩⟩ Tryd.func59 rfl (Eq.mp (by kernel_rfl) h)

theorem berthref01_New_nf (n_1 : Int) (w : World) (R : Ending → World → Prop) (h :
  V.sel (decide (n_1 < 0))
  ((∃ u2, World.cell? (World.alloc w (.cells #[(Value.int .i64 0), (Value.slice none 0 0)] 50)) (Addr.add ⟨Array.size (World.heap w), 0, none⟩ 0) = some u2) ∧ World.frozen? (World.alloc w (.cells #[(Value.int .i64 0), (Value.slice none 0 0)] 50)) (Addr.add ⟨Array.size (World.heap w), 0, none⟩ 0) = false ∧
  (∃ u3, World.cell? (World.setCell (World.alloc w (.cells #[(Value.int .i64 0), (Value.slice none 0 0)] 50)) (Addr.add ⟨Array.size (World.heap w), 0, none⟩ 0) (Value.int .i64 0)) (Addr.add ⟨Array.size (World.heap w), 0, none⟩ 1) = some u3) ∧ World.frozen? (World.setCell (World.alloc w (.cells #[(Value.int .i64 0), (Value.slice none 0 0)] 50)) (Addr.add ⟨Array.size (World.heap w), 0, none⟩ 0) (Value.int .i64 0)) (Addr.add ⟨Array.size (World.heap w), 0, none⟩ 1) = false ∧
  ∃ n4, World.cell? (World.setCell (World.setCell (World.alloc w (.cells #[(Value.int .i64 0), (Value.slice none 0 0)] 50)) (Addr.add ⟨Array.size (World.heap w), 0, none⟩ 0) (Value.int .i64 0)) (Addr.add ⟨Array.size (World.heap w), 0, none⟩ 1) (Value.slice none 0 0)) (Addr.add ⟨Array.size (World.heap w), 0, none⟩ 0) = some (Value.int .i64 n4) ∧
  ∃ A5, ∃ A5l, ∃ A5c, World.cell? (World.setCell (World.setCell (World.alloc w (.cells #[(Value.int .i64 0), (Value.slice none 0 0)] 50)) (Addr.add ⟨Array.size (World.heap w), 0, none⟩ 0) (Value.int .i64 0)) (Addr.add ⟨Array.size (World.heap w), 0, none⟩ 1) (Value.slice none 0 0)) (Addr.add ⟨Array.size (World.heap w), 0, none⟩ 1) = some (Value.slice A5 A5l A5c) ∧
  R (Ending.returned (Value.tuple #[(Value.agg #[(Value.int .i64 n4), (Value.slice A5 A5l A5c)]), (Value.int .i64 11)])) (World.setCell (World.setCell (World.alloc w (.cells #[(Value.int .i64 0), (Value.slice none 0 0)] 50)) (Addr.add ⟨Array.size (World.heap w), 0, none⟩ 0) (Value.int .i64 0)) (Addr.add ⟨Array.size (World.heap w), 0, none⟩ 1) (Value.slice none 0 0)))
  (V.sel (decide (n_1 > 65536))
  ((∃ u6, World.cell? (World.alloc w (.cells #[(Value.int .i64 0), (Value.slice none 0 0)] 50)) (Addr.add ⟨Array.size (World.heap w), 0, none⟩ 0) = some u6) ∧ World.frozen? (World.alloc w (.cells #[(Value.int .i64 0), (Value.slice none 0 0)] 50)) (Addr.add ⟨Array.size (World.heap w), 0, none⟩ 0) = false ∧
  (∃ u7, World.cell? (World.setCell (World.alloc w (.cells #[(Value.int .i64 0), (Value.slice none 0 0)] 50)) (Addr.add ⟨Array.size (World.heap w), 0, none⟩ 0) (Value.int .i64 0)) (Addr.add ⟨Array.size (World.heap w), 0, none⟩ 1) = some u7) ∧ World.frozen? (World.setCell (World.alloc w (.cells #[(Value.int .i64 0), (Value.slice none 0 0)] 50)) (Addr.add ⟨Array.size (World.heap w), 0, none⟩ 0) (Value.int .i64 0)) (Addr.add ⟨Array.size (World.heap w), 0, none⟩ 1) = false ∧
  ∃ n8, World.cell? (World.setCell (World.setCell (World.alloc w (.cells #[(Value.int .i64 0), (Value.slice none 0 0)] 50)) (Addr.add ⟨Array.size (World.heap w), 0, none⟩ 0) (Value.int .i64 0)) (Addr.add ⟨Array.size (World.heap w), 0, none⟩ 1) (Value.slice none 0 0)) (Addr.add ⟨Array.size (World.heap w), 0, none⟩ 0) = some (Value.int .i64 n8) ∧
  ∃ A9, ∃ A9l, ∃ A9c, World.cell? (World.setCell (World.setCell (World.alloc w (.cells #[(Value.int .i64 0), (Value.slice none 0 0)] 50)) (Addr.add ⟨Array.size (World.heap w), 0, none⟩ 0) (Value.int .i64 0)) (Addr.add ⟨Array.size (World.heap w), 0, none⟩ 1) (Value.slice none 0 0)) (Addr.add ⟨Array.size (World.heap w), 0, none⟩ 1) = some (Value.slice A9 A9l A9c) ∧
  R (Ending.returned (Value.tuple #[(Value.agg #[(Value.int .i64 n8), (Value.slice A9 A9l A9c)]), (Value.int .i64 11)])) (World.setCell (World.setCell (World.alloc w (.cells #[(Value.int .i64 0), (Value.slice none 0 0)] 50)) (Addr.add ⟨Array.size (World.heap w), 0, none⟩ 0) (Value.int .i64 0)) (Addr.add ⟨Array.size (World.heap w), 0, none⟩ 1) (Value.slice none 0 0)))
  ((∃ u10, World.cell? (World.alloc w (.cells #[(Value.int .i64 0), (Value.slice none 0 0)] 50)) (Addr.add ⟨Array.size (World.heap w), 0, none⟩ 0) = some u10) ∧ World.frozen? (World.alloc w (.cells #[(Value.int .i64 0), (Value.slice none 0 0)] 50)) (Addr.add ⟨Array.size (World.heap w), 0, none⟩ 0) = false ∧
  (∃ u11, World.cell? (World.setCell (World.alloc w (.cells #[(Value.int .i64 0), (Value.slice none 0 0)] 50)) (Addr.add ⟨Array.size (World.heap w), 0, none⟩ 0) (Value.int .i64 n_1)) (Addr.add ⟨Array.size (World.heap w), 0, none⟩ 1) = some u11) ∧ World.frozen? (World.setCell (World.alloc w (.cells #[(Value.int .i64 0), (Value.slice none 0 0)] 50)) (Addr.add ⟨Array.size (World.heap w), 0, none⟩ 0) (Value.int .i64 n_1)) (Addr.add ⟨Array.size (World.heap w), 0, none⟩ 1) = false ∧
  ∃ n12, World.cell? (World.setCell (World.setCell (World.alloc w (.cells #[(Value.int .i64 0), (Value.slice none 0 0)] 50)) (Addr.add ⟨Array.size (World.heap w), 0, none⟩ 0) (Value.int .i64 n_1)) (Addr.add ⟨Array.size (World.heap w), 0, none⟩ 1) (Value.slice none 0 0)) (Addr.add ⟨Array.size (World.heap w), 0, none⟩ 0) = some (Value.int .i64 n12) ∧
  ∃ A13, ∃ A13l, ∃ A13c, World.cell? (World.setCell (World.setCell (World.alloc w (.cells #[(Value.int .i64 0), (Value.slice none 0 0)] 50)) (Addr.add ⟨Array.size (World.heap w), 0, none⟩ 0) (Value.int .i64 n_1)) (Addr.add ⟨Array.size (World.heap w), 0, none⟩ 1) (Value.slice none 0 0)) (Addr.add ⟨Array.size (World.heap w), 0, none⟩ 1) = some (Value.slice A13 A13l A13c) ∧
  R (Ending.returned (Value.tuple #[(Value.agg #[(Value.int .i64 n12), (Value.slice A13 A13l A13c)]), (Value.int .i64 0)])) (World.setCell (World.setCell (World.alloc w (.cells #[(Value.int .i64 0), (Value.slice none 0 0)] 50)) (Addr.add ⟨Array.size (World.heap w), 0, none⟩ 0) (Value.int .i64 n_1)) (Addr.add ⟨Array.size (World.heap w), 0, none⟩ 1) (Value.slice none 0 0))))) :
  Calls Tryd.prog 60 #[(Value.int .i64 n_1)] w R :=
  V.calls_of_R ⟨V.assoc [], V.assocP [], V.assocC [], V.assocS [], ⟨[], false⟩⟩ Tryd.func60 rfl (Eq.mp (by kernel_rfl) h)

theorem berthlaw01_Regs_made_nf (g_1 : Option Addr) (a_2 : Int) (s_3 : Option Addr) (e_4 : Int) (r_5 : Int) (r_6 : Option Addr) (r_6l : Nat) (r_6c : Nat) (f_7 : Int) (w : World) (R : Ending → World → Prop) (h :
  ∀ w8, w8 = (World.alloc w (.cells #[(Value.int .i64 r_5), (Value.slice r_6 r_6l r_6c)] 50)) →
  Calls Tryd.prog 20 #[(Value.int .i64 e_4)] w8 fun e10 w11 =>
  ∃ n9, e10 = Ending.returned (Value.int .i64 n9) ∧
  V.sel (n9 != f_7)
  (R (Ending.returned (Value.bool false)) w11)
  (V.sel (!((Option.isNone s_3) == (f_7 != 0)))
  (R (Ending.returned (Value.bool false)) w11)
  (V.sel (f_7 == 0)
  (∃ S12 : World → Prop, S12 (World.drew w11) ∧
  ∃ n14, ∃ A15, ∃ A15l, ∃ A15c, V.cellsC (fun a_ x_ => ∀ w13, S12 w13 → World.cell? w13 a_ = some x_) ⟨Array.size (World.heap w), 0, none⟩ [(Value.int .i64 n14), (Value.slice A15 A15l A15c)] ∧
  V.ptr g_1 fun a16 =>
  V.when (decide ((0 : Int) ≤ a_2 ∧ (a_2 : Int) < 4)) (V.ptr g_1 fun a17 =>
  V.ptr g_1 fun a18 =>
  ∃ w19, Sem.run Tryd.prog (Instr.storeAt 27 (Value.pointer (some (Addr.add (Addr.add a16 0) ((Int.toNat a_2) * 1)))) (Value.pointer s_3)) (World.drew w11) = .ok () w19 ∧
  S12 w19 ∧
  V.when (decide ((0 : Int) ≤ a_2 ∧ (a_2 : Int) < 4)) (∃ w20, Sem.run Tryd.prog (Instr.storeAt 50 (Value.pointer (some (Addr.add (Addr.add a17 4) ((Int.toNat a_2) * 2)))) (Value.agg #[(Value.int .i64 n14), (Value.slice A15 A15l A15c)])) w19 = .ok () w20 ∧
  S12 w20 ∧
  V.when (decide ((0 : Int) ≤ a_2 ∧ (a_2 : Int) < 4)) (∃ w21, Sem.run Tryd.prog (Instr.storeAt 4 (Value.pointer (some (Addr.add (Addr.add a18 12) ((Int.toNat a_2) * 1)))) (Value.bool false)) w20 = .ok () w21 ∧
  S12 w21 ∧
  R (Ending.returned (Value.bool true)) w21))))
  (R (Ending.returned (Value.bool true)) w11)))) :
  Calls Tryd.prog 61 #[(Value.pointer g_1), (Value.int .i64 a_2), (Value.pointer s_3), (Value.int .i64 e_4), (Value.agg #[(Value.int .i64 r_5), (Value.slice r_6 r_6l r_6c)]), (Value.int .i64 f_7)] w R :=
  V.calls_of_R ⟨V.assoc [], V.assocP [(4, V.line [0, 1, 2, 3, 4, 5, 6, 7, 8, 9, 10, 12, 13, 16, 17, 11, 14, 15, 18, 19])], V.assocC [], V.assocS [], ⟨[], true⟩⟩ Tryd.func61 rfl (Eq.mp (by kernel_rfl) h)

theorem berthlaw01_ints_nf (l_1 : Option Addr) (l_1l : Nat) (l_1c : Nat) (w : World) (R : Ending → World → Prop) (h :
  ∃ A2, ∃ A2l, ∃ A2c, ∃ w3, Sem.run Tryd.prog (Builtin.append_ #[22, 22] 22 #[(Value.slice (some ⟨Array.size (World.heap w), 0, none⟩) 0 0), (Value.slice l_1 l_1l l_1c)]) (World.alloc w (.cells #[] 3)) = .ok (Value.slice A2 A2l A2c) w3 ∧
  R (Ending.returned (Value.slice A2 A2l A2c)) w3) :
  Calls Tryd.prog 62 #[(Value.slice l_1 l_1l l_1c)] w R :=
  V.calls_of_R ⟨V.assoc [], V.assocP [], V.assocC [], V.assocS [], ⟨[], false⟩⟩ Tryd.func62 rfl (Eq.mp (by kernel_rfl) h)

theorem berthref01_From_nf (n_1 : Int) (places_2 : Option Addr) (places_2l : Nat) (places_2c : Nat) (w : World) (R : Ending → World → Prop) (h :
  Calls Tryd.prog 60 #[(Value.int .i64 n_1)] (World.alloc w (.cells #[(Value.int .i64 0), (Value.slice none 0 0)] 50)) fun e6 w7 =>
  ∃ n3, ∃ A4, ∃ A4l, ∃ A4c, ∃ n5, e6 = Ending.returned (Value.tuple #[(Value.agg #[(Value.int .i64 n3), (Value.slice A4 A4l A4c)]), (Value.int .i64 n5)]) ∧
  (∃ u8, World.cell? (World.alloc w7 (.cells #[(Value.int .i64 0), (Value.slice none 0 0)] 50)) (Addr.add ⟨Array.size (World.heap w7), 0, none⟩ 0) = some u8) ∧ World.frozen? (World.alloc w7 (.cells #[(Value.int .i64 0), (Value.slice none 0 0)] 50)) (Addr.add ⟨Array.size (World.heap w7), 0, none⟩ 0) = false ∧
  (∃ u9, World.cell? (World.setCell (World.alloc w7 (.cells #[(Value.int .i64 0), (Value.slice none 0 0)] 50)) (Addr.add ⟨Array.size (World.heap w7), 0, none⟩ 0) (Value.int .i64 n3)) (Addr.add ⟨Array.size (World.heap w7), 0, none⟩ 1) = some u9) ∧ World.frozen? (World.setCell (World.alloc w7 (.cells #[(Value.int .i64 0), (Value.slice none 0 0)] 50)) (Addr.add ⟨Array.size (World.heap w7), 0, none⟩ 0) (Value.int .i64 n3)) (Addr.add ⟨Array.size (World.heap w7), 0, none⟩ 1) = false ∧
  V.sel (n5 != 0)
  (∃ n10, World.cell? (World.setCell (World.setCell (World.alloc w7 (.cells #[(Value.int .i64 0), (Value.slice none 0 0)] 50)) (Addr.add ⟨Array.size (World.heap w7), 0, none⟩ 0) (Value.int .i64 n3)) (Addr.add ⟨Array.size (World.heap w7), 0, none⟩ 1) (Value.slice A4 A4l A4c)) (Addr.add ⟨Array.size (World.heap w7), 0, none⟩ 0) = some (Value.int .i64 n10) ∧
  ∃ A11, ∃ A11l, ∃ A11c, World.cell? (World.setCell (World.setCell (World.alloc w7 (.cells #[(Value.int .i64 0), (Value.slice none 0 0)] 50)) (Addr.add ⟨Array.size (World.heap w7), 0, none⟩ 0) (Value.int .i64 n3)) (Addr.add ⟨Array.size (World.heap w7), 0, none⟩ 1) (Value.slice A4 A4l A4c)) (Addr.add ⟨Array.size (World.heap w7), 0, none⟩ 1) = some (Value.slice A11 A11l A11c) ∧
  (∃ u12, World.cell? (World.setCell (World.setCell (World.alloc w7 (.cells #[(Value.int .i64 0), (Value.slice none 0 0)] 50)) (Addr.add ⟨Array.size (World.heap w7), 0, none⟩ 0) (Value.int .i64 n3)) (Addr.add ⟨Array.size (World.heap w7), 0, none⟩ 1) (Value.slice A4 A4l A4c)) (Addr.add ⟨Array.size (World.heap w), 0, none⟩ 0) = some u12) ∧ World.frozen? (World.setCell (World.setCell (World.alloc w7 (.cells #[(Value.int .i64 0), (Value.slice none 0 0)] 50)) (Addr.add ⟨Array.size (World.heap w7), 0, none⟩ 0) (Value.int .i64 n3)) (Addr.add ⟨Array.size (World.heap w7), 0, none⟩ 1) (Value.slice A4 A4l A4c)) (Addr.add ⟨Array.size (World.heap w), 0, none⟩ 0) = false ∧
  (∃ u13, World.cell? (World.setCell (World.setCell (World.setCell (World.alloc w7 (.cells #[(Value.int .i64 0), (Value.slice none 0 0)] 50)) (Addr.add ⟨Array.size (World.heap w7), 0, none⟩ 0) (Value.int .i64 n3)) (Addr.add ⟨Array.size (World.heap w7), 0, none⟩ 1) (Value.slice A4 A4l A4c)) (Addr.add ⟨Array.size (World.heap w), 0, none⟩ 0) (Value.int .i64 n10)) (Addr.add ⟨Array.size (World.heap w), 0, none⟩ 1) = some u13) ∧ World.frozen? (World.setCell (World.setCell (World.setCell (World.alloc w7 (.cells #[(Value.int .i64 0), (Value.slice none 0 0)] 50)) (Addr.add ⟨Array.size (World.heap w7), 0, none⟩ 0) (Value.int .i64 n3)) (Addr.add ⟨Array.size (World.heap w7), 0, none⟩ 1) (Value.slice A4 A4l A4c)) (Addr.add ⟨Array.size (World.heap w), 0, none⟩ 0) (Value.int .i64 n10)) (Addr.add ⟨Array.size (World.heap w), 0, none⟩ 1) = false ∧
  ∃ n14, World.cell? (World.setCell (World.setCell (World.setCell (World.setCell (World.alloc w7 (.cells #[(Value.int .i64 0), (Value.slice none 0 0)] 50)) (Addr.add ⟨Array.size (World.heap w7), 0, none⟩ 0) (Value.int .i64 n3)) (Addr.add ⟨Array.size (World.heap w7), 0, none⟩ 1) (Value.slice A4 A4l A4c)) (Addr.add ⟨Array.size (World.heap w), 0, none⟩ 0) (Value.int .i64 n10)) (Addr.add ⟨Array.size (World.heap w), 0, none⟩ 1) (Value.slice A11 A11l A11c)) (Addr.add ⟨Array.size (World.heap w), 0, none⟩ 0) = some (Value.int .i64 n14) ∧
  ∃ A15, ∃ A15l, ∃ A15c, World.cell? (World.setCell (World.setCell (World.setCell (World.setCell (World.alloc w7 (.cells #[(Value.int .i64 0), (Value.slice none 0 0)] 50)) (Addr.add ⟨Array.size (World.heap w7), 0, none⟩ 0) (Value.int .i64 n3)) (Addr.add ⟨Array.size (World.heap w7), 0, none⟩ 1) (Value.slice A4 A4l A4c)) (Addr.add ⟨Array.size (World.heap w), 0, none⟩ 0) (Value.int .i64 n10)) (Addr.add ⟨Array.size (World.heap w), 0, none⟩ 1) (Value.slice A11 A11l A11c)) (Addr.add ⟨Array.size (World.heap w), 0, none⟩ 1) = some (Value.slice A15 A15l A15c) ∧
  R (Ending.returned (Value.tuple #[(Value.agg #[(Value.int .i64 n14), (Value.slice A15 A15l A15c)]), (Value.int .i64 n5)])) (World.setCell (World.setCell (World.setCell (World.setCell (World.alloc w7 (.cells #[(Value.int .i64 0), (Value.slice none 0 0)] 50)) (Addr.add ⟨Array.size (World.heap w7), 0, none⟩ 0) (Value.int .i64 n3)) (Addr.add ⟨Array.size (World.heap w7), 0, none⟩ 1) (Value.slice A4 A4l A4c)) (Addr.add ⟨Array.size (World.heap w), 0, none⟩ 0) (Value.int .i64 n10)) (Addr.add ⟨Array.size (World.heap w), 0, none⟩ 1) (Value.slice A11 A11l A11c)))
  (∃ I16 : Int → World → Prop, ∃ μ17 : Int → World → Nat, I16 0 (World.setCell (World.setCell (World.alloc w7 (.cells #[(Value.int .i64 0), (Value.slice none 0 0)] 50)) (Addr.add ⟨Array.size (World.heap w7), 0, none⟩ 0) (Value.int .i64 n3)) (Addr.add ⟨Array.size (World.heap w7), 0, none⟩ 1) (Value.slice A4 A4l A4c)) ∧
  ∀ i_18 (j19 : Nat → Value) (w20 : World), I16 i_18 w20 →
  (V.sel (decide (i_18 < ((places_2l : Nat) : Int)))
  (V.when (decide ((0 : Int) ≤ i_18 ∧ (i_18 : Int) < ((places_2l : Nat) : Int))) (V.ptr places_2 fun a21 =>
  ∃ n22, World.cell? w20 (Addr.add a21 ((Int.toNat i_18) * 1)) = some (Value.int .i64 n22) ∧
  V.sel (decide (n22 < 0))
  ((∃ u23, World.cell? w20 (Addr.add ⟨Array.size (World.heap w), 0, none⟩ 0) = some u23) ∧ World.frozen? w20 (Addr.add ⟨Array.size (World.heap w), 0, none⟩ 0) = false ∧
  (∃ u24, World.cell? (World.setCell w20 (Addr.add ⟨Array.size (World.heap w), 0, none⟩ 0) (Value.int .i64 0)) (Addr.add ⟨Array.size (World.heap w), 0, none⟩ 1) = some u24) ∧ World.frozen? (World.setCell w20 (Addr.add ⟨Array.size (World.heap w), 0, none⟩ 0) (Value.int .i64 0)) (Addr.add ⟨Array.size (World.heap w), 0, none⟩ 1) = false ∧
  ∃ n25, World.cell? (World.setCell (World.setCell w20 (Addr.add ⟨Array.size (World.heap w), 0, none⟩ 0) (Value.int .i64 0)) (Addr.add ⟨Array.size (World.heap w), 0, none⟩ 1) (Value.slice none 0 0)) (Addr.add ⟨Array.size (World.heap w), 0, none⟩ 0) = some (Value.int .i64 n25) ∧
  ∃ A26, ∃ A26l, ∃ A26c, World.cell? (World.setCell (World.setCell w20 (Addr.add ⟨Array.size (World.heap w), 0, none⟩ 0) (Value.int .i64 0)) (Addr.add ⟨Array.size (World.heap w), 0, none⟩ 1) (Value.slice none 0 0)) (Addr.add ⟨Array.size (World.heap w), 0, none⟩ 1) = some (Value.slice A26 A26l A26c) ∧
  R (Ending.returned (Value.tuple #[(Value.agg #[(Value.int .i64 n25), (Value.slice A26 A26l A26c)]), (Value.int .i64 12)])) (World.setCell (World.setCell w20 (Addr.add ⟨Array.size (World.heap w), 0, none⟩ 0) (Value.int .i64 0)) (Addr.add ⟨Array.size (World.heap w), 0, none⟩ 1) (Value.slice none 0 0)))
  (V.when (decide ((0 : Int) ≤ i_18 ∧ (i_18 : Int) < ((places_2l : Nat) : Int))) (V.ptr places_2 fun a27 =>
  ∃ n28, World.cell? w20 (Addr.add a27 ((Int.toNat i_18) * 1)) = some (Value.int .i64 n28) ∧
  V.sel (decide (n28 ≥ n_1))
  ((∃ u29, World.cell? w20 (Addr.add ⟨Array.size (World.heap w), 0, none⟩ 0) = some u29) ∧ World.frozen? w20 (Addr.add ⟨Array.size (World.heap w), 0, none⟩ 0) = false ∧
  (∃ u30, World.cell? (World.setCell w20 (Addr.add ⟨Array.size (World.heap w), 0, none⟩ 0) (Value.int .i64 0)) (Addr.add ⟨Array.size (World.heap w), 0, none⟩ 1) = some u30) ∧ World.frozen? (World.setCell w20 (Addr.add ⟨Array.size (World.heap w), 0, none⟩ 0) (Value.int .i64 0)) (Addr.add ⟨Array.size (World.heap w), 0, none⟩ 1) = false ∧
  ∃ n31, World.cell? (World.setCell (World.setCell w20 (Addr.add ⟨Array.size (World.heap w), 0, none⟩ 0) (Value.int .i64 0)) (Addr.add ⟨Array.size (World.heap w), 0, none⟩ 1) (Value.slice none 0 0)) (Addr.add ⟨Array.size (World.heap w), 0, none⟩ 0) = some (Value.int .i64 n31) ∧
  ∃ A32, ∃ A32l, ∃ A32c, World.cell? (World.setCell (World.setCell w20 (Addr.add ⟨Array.size (World.heap w), 0, none⟩ 0) (Value.int .i64 0)) (Addr.add ⟨Array.size (World.heap w), 0, none⟩ 1) (Value.slice none 0 0)) (Addr.add ⟨Array.size (World.heap w), 0, none⟩ 1) = some (Value.slice A32 A32l A32c) ∧
  R (Ending.returned (Value.tuple #[(Value.agg #[(Value.int .i64 n31), (Value.slice A32 A32l A32c)]), (Value.int .i64 12)])) (World.setCell (World.setCell w20 (Addr.add ⟨Array.size (World.heap w), 0, none⟩ 0) (Value.int .i64 0)) (Addr.add ⟨Array.size (World.heap w), 0, none⟩ 1) (Value.slice none 0 0)))
  (I16 (IntKind.wrap .i64 (i_18 + 1)) w20 ∧ μ17 (IntKind.wrap .i64 (i_18 + 1)) w20 < μ17 i_18 w20)))))
  (V.when (decide ((0 : Int) ≤ n_1 ∧ (n_1 : Int) ≤ n_1 ∧ (n_1 : Int) ≤ 281474976710656 ∧ (1 : Int) * n_1 ≤ 281474976710656)) (∃ I33 : Int → World → Prop, ∃ μ34 : Int → World → Nat, I33 0 (World.alloc w20 (.cells ⟨V.rep (Int.toNat n_1) [(Value.bool false)]⟩ 4)) ∧
  ∀ i_35 (j36 : Nat → Value) (w37 : World), I33 i_35 w37 →
  (V.sel (decide (i_35 < ((places_2l : Nat) : Int)))
  (V.when (decide ((0 : Int) ≤ i_35 ∧ (i_35 : Int) < ((places_2l : Nat) : Int))) (V.ptr places_2 fun a38 =>
  ∃ n39, World.cell? w37 (Addr.add a38 ((Int.toNat i_35) * 1)) = some (Value.int .i64 n39) ∧
  V.when (decide ((0 : Int) ≤ n39 ∧ (n39 : Int) < (((Int.toNat n_1) : Nat) : Int))) ((∃ u40, World.cell? w37 (Addr.add (Addr.add ⟨Array.size (World.heap w20), 0, none⟩ ((Int.toNat n39) * 1)) 0) = some u40) ∧ World.frozen? w37 (Addr.add (Addr.add ⟨Array.size (World.heap w20), 0, none⟩ ((Int.toNat n39) * 1)) 0) = false ∧
  I33 (IntKind.wrap .i64 (i_35 + 1)) (World.setCell w37 (Addr.add (Addr.add ⟨Array.size (World.heap w20), 0, none⟩ ((Int.toNat n39) * 1)) 0) (Value.bool true)) ∧ μ34 (IntKind.wrap .i64 (i_35 + 1)) (World.setCell w37 (Addr.add (Addr.add ⟨Array.size (World.heap w20), 0, none⟩ ((Int.toNat n39) * 1)) 0) (Value.bool true)) < μ34 i_35 w37)))
  (∃ I41 : Int → World → Prop, ∃ μ42 : Int → World → Nat, I41 0 w37 ∧
  ∀ i_43 (j44 : Nat → Value) (w45 : World), I41 i_43 w45 →
  (V.sel (decide (i_43 < n_1))
  (V.when (decide ((0 : Int) ≤ i_43 ∧ (i_43 : Int) < (((Int.toNat n_1) : Nat) : Int))) (∃ b46, World.cell? w45 (Addr.add ⟨Array.size (World.heap w20), 0, none⟩ ((Int.toNat i_43) * 1)) = some (Value.bool b46) ∧
  V.sel b46
  (∃ A47, ∃ A47l, ∃ A47c, World.cell? w45 (Addr.add ⟨Array.size (World.heap w7), 0, none⟩ 1) = some (Value.slice A47 A47l A47c) ∧
  ∃ A48, ∃ A48l, ∃ A48c, ∃ w49, Sem.run Tryd.prog (Builtin.append_ #[22, 22] 22 #[(Value.slice A47 A47l A47c), (Value.slice (some ⟨Array.size (World.heap w45), 0, none⟩) 1 1)]) (World.alloc w45 (.cells #[(Value.int .i64 i_43)] 3)) = .ok (Value.slice A48 A48l A48c) w49 ∧
  (∃ u50, World.cell? w49 (Addr.add (Addr.add ⟨Array.size (World.heap w7), 0, none⟩ 1) 0) = some u50) ∧ World.frozen? w49 (Addr.add (Addr.add ⟨Array.size (World.heap w7), 0, none⟩ 1) 0) = false ∧
  I41 (IntKind.wrap .i64 (i_43 + 1)) (World.setCell w49 (Addr.add (Addr.add ⟨Array.size (World.heap w7), 0, none⟩ 1) 0) (Value.slice A48 A48l A48c)) ∧ μ42 (IntKind.wrap .i64 (i_43 + 1)) (World.setCell w49 (Addr.add (Addr.add ⟨Array.size (World.heap w7), 0, none⟩ 1) 0) (Value.slice A48 A48l A48c)) < μ42 i_43 w45)
  (I41 (IntKind.wrap .i64 (i_43 + 1)) w45 ∧ μ42 (IntKind.wrap .i64 (i_43 + 1)) w45 < μ42 i_43 w45)))
  (∃ n51, World.cell? w45 (Addr.add ⟨Array.size (World.heap w7), 0, none⟩ 0) = some (Value.int .i64 n51) ∧
  ∃ A52, ∃ A52l, ∃ A52c, World.cell? w45 (Addr.add ⟨Array.size (World.heap w7), 0, none⟩ 1) = some (Value.slice A52 A52l A52c) ∧
  (∃ u53, World.cell? w45 (Addr.add ⟨Array.size (World.heap w), 0, none⟩ 0) = some u53) ∧ World.frozen? w45 (Addr.add ⟨Array.size (World.heap w), 0, none⟩ 0) = false ∧
  (∃ u54, World.cell? (World.setCell w45 (Addr.add ⟨Array.size (World.heap w), 0, none⟩ 0) (Value.int .i64 n51)) (Addr.add ⟨Array.size (World.heap w), 0, none⟩ 1) = some u54) ∧ World.frozen? (World.setCell w45 (Addr.add ⟨Array.size (World.heap w), 0, none⟩ 0) (Value.int .i64 n51)) (Addr.add ⟨Array.size (World.heap w), 0, none⟩ 1) = false ∧
  ∃ n55, World.cell? (World.setCell (World.setCell w45 (Addr.add ⟨Array.size (World.heap w), 0, none⟩ 0) (Value.int .i64 n51)) (Addr.add ⟨Array.size (World.heap w), 0, none⟩ 1) (Value.slice A52 A52l A52c)) (Addr.add ⟨Array.size (World.heap w), 0, none⟩ 0) = some (Value.int .i64 n55) ∧
  ∃ A56, ∃ A56l, ∃ A56c, World.cell? (World.setCell (World.setCell w45 (Addr.add ⟨Array.size (World.heap w), 0, none⟩ 0) (Value.int .i64 n51)) (Addr.add ⟨Array.size (World.heap w), 0, none⟩ 1) (Value.slice A52 A52l A52c)) (Addr.add ⟨Array.size (World.heap w), 0, none⟩ 1) = some (Value.slice A56 A56l A56c) ∧
  R (Ending.returned (Value.tuple #[(Value.agg #[(Value.int .i64 n55), (Value.slice A56 A56l A56c)]), (Value.int .i64 0)])) (World.setCell (World.setCell w45 (Addr.add ⟨Array.size (World.heap w), 0, none⟩ 0) (Value.int .i64 n51)) (Addr.add ⟨Array.size (World.heap w), 0, none⟩ 1) (Value.slice A52 A52l A52c))))))))))) :
  Calls Tryd.prog 63 #[(Value.int .i64 n_1), (Value.slice places_2 places_2l places_2c)] w R :=
  V.calls_of_R ⟨V.assoc [(0, [8]), (1, [10]), (2, [11])], V.assocP [], V.assocC [], V.assocS [], ⟨[], false⟩⟩ Tryd.func63 rfl (Eq.mp (by kernel_rfl) h)

theorem bitset_FromWords_nf (n_1 : Int) (words_2 : Option Addr) (words_2l : Nat) (words_2c : Nat) (w : World) (R : Ending → World → Prop) (h :
  Calls Tryd.prog 57 #[(Value.int .i64 n_1)] w fun e5 w6 =>
  ∃ p3, ∃ n4, e5 = Ending.returned (Value.tuple #[(Value.pointer p3), (Value.int .i64 n4)]) ∧
  V.sel (n4 != 0)
  (R (Ending.returned (Value.tuple #[(Value.pointer none), (Value.int .i64 n4)])) w6)
  (V.ptr p3 fun a7 =>
  ∃ A8, ∃ A8l, ∃ A8c, World.cell? w6 (Addr.add a7 1) = some (Value.slice A8 A8l A8c) ∧
  V.sel (((words_2l : Nat) : Int) != ((A8l : Nat) : Int))
  (R (Ending.returned (Value.tuple #[(Value.pointer none), (Value.int .i64 14)])) w6)
  (V.sel ((Int.tmod n_1 64) != 0)
  (V.when (decide ((0 : Int) ≤ (IntKind.wrap .i64 (((words_2l : Nat) : Int) - 1)) ∧ ((IntKind.wrap .i64 (((words_2l : Nat) : Int) - 1)) : Int) < ((words_2l : Nat) : Int))) (V.ptr words_2 fun a9 =>
  ∃ n10, World.cell? w6 (Addr.add a9 ((Int.toNat (IntKind.wrap .i64 (((words_2l : Nat) : Int) - 1))) * 1)) = some (Value.int .u64 n10) ∧
  V.when (decide (0 ≤ (Int.tmod n_1 64))) (V.sel ((Int.fdiv n10 (2 ^ (min (Int.toNat (Int.tmod n_1 64)) 64))) != 0)
  (R (Ending.returned (Value.tuple #[(Value.pointer none), (Value.int .i64 12)])) w6)
  (V.ptr p3 fun a11 =>
  ∃ A12, ∃ A12l, ∃ A12c, World.cell? w6 (Addr.add a11 1) = some (Value.slice A12 A12l A12c) ∧
  ∃ n13, ∃ w14, Sem.run Tryd.prog (Builtin.copy_ #[38, 38] 3 #[(Value.slice A12 A12l A12c), (Value.slice words_2 words_2l words_2c)]) w6 = .ok (Value.int .i64 n13) w14 ∧
  R (Ending.returned (Value.tuple #[(Value.pointer p3), (Value.int .i64 0)])) w14))))
  (V.ptr p3 fun a15 =>
  ∃ A16, ∃ A16l, ∃ A16c, World.cell? w6 (Addr.add a15 1) = some (Value.slice A16 A16l A16c) ∧
  ∃ n17, ∃ w18, Sem.run Tryd.prog (Builtin.copy_ #[38, 38] 3 #[(Value.slice A16 A16l A16c), (Value.slice words_2 words_2l words_2c)]) w6 = .ok (Value.int .i64 n17) w18 ∧
  R (Ending.returned (Value.tuple #[(Value.pointer p3), (Value.int .i64 0)])) w18)))) :
  Calls Tryd.prog 64 #[(Value.int .i64 n_1), (Value.slice words_2 words_2l words_2c)] w R :=
  V.calls_of_R ⟨V.assoc [], V.assocP [], V.assocC [], V.assocS [], ⟨[], false⟩⟩ Tryd.func64 rfl (Eq.mp (by kernel_rfl) h)

theorem berthlaw01_words_nf (l_1 : Option Addr) (l_1l : Nat) (l_1c : Nat) (w : World) (R : Ending → World → Prop) (h :
  ∃ A2, ∃ A2l, ∃ A2c, ∃ w3, Sem.run Tryd.prog (Builtin.append_ #[38, 38] 38 #[(Value.slice (some ⟨Array.size (World.heap w), 0, none⟩) 0 0), (Value.slice l_1 l_1l l_1c)]) (World.alloc w (.cells #[] 63)) = .ok (Value.slice A2 A2l A2c) w3 ∧
  R (Ending.returned (Value.slice A2 A2l A2c)) w3) :
  Calls Tryd.prog 65 #[(Value.slice l_1 l_1l l_1c)] w R :=
  V.calls_of_R ⟨V.assoc [], V.assocP [], V.assocC [], V.assocS [], ⟨[], false⟩⟩ Tryd.func65 rfl (Eq.mp (by kernel_rfl) h)

theorem berthref01_FromWords_nf (n_1 : Int) (words_2 : Option Addr) (words_2l : Nat) (words_2c : Nat) (w : World) (R : Ending → World → Prop) (h :
  ∀ w3, w3 = (World.alloc w (.cells #[(Value.int .i64 0), (Value.slice none 0 0)] 50)) →
  Calls Tryd.prog 60 #[(Value.int .i64 n_1)] w3 fun e7 w8 =>
  ∃ n4, ∃ A5, ∃ A5l, ∃ A5c, ∃ n6, e7 = Ending.returned (Value.tuple #[(Value.agg #[(Value.int .i64 n4), (Value.slice A5 A5l A5c)]), (Value.int .i64 n6)]) ∧
  ∀ w9, w9 = (World.alloc w8 (.cells #[(Value.int .i64 0), (Value.slice none 0 0)] 50)) →
  ∃ w10, Sem.run Tryd.prog (Instr.storeAt 50 (Value.pointer (some ⟨Array.size (World.heap w8), 0, none⟩)) (Value.agg #[(Value.int .i64 n4), (Value.slice A5 A5l A5c)])) w9 = .ok () w10 ∧
  V.sel (n6 != 0)
  (∃ n11, ∃ A12, ∃ A12l, ∃ A12c, V.cellsC (fun a_ x_ => World.cell? w10 a_ = some x_) ⟨Array.size (World.heap w8), 0, none⟩ [(Value.int .i64 n11), (Value.slice A12 A12l A12c)] ∧
  ∃ w13, Sem.run Tryd.prog (Instr.storeAt 50 (Value.pointer (some ⟨Array.size (World.heap w), 0, none⟩)) (Value.agg #[(Value.int .i64 n11), (Value.slice A12 A12l A12c)])) w10 = .ok () w13 ∧
  ∃ n14, ∃ A15, ∃ A15l, ∃ A15c, V.cellsC (fun a_ x_ => World.cell? w13 a_ = some x_) ⟨Array.size (World.heap w), 0, none⟩ [(Value.int .i64 n14), (Value.slice A15 A15l A15c)] ∧
  R (Ending.returned (Value.tuple #[(Value.agg #[(Value.int .i64 n14), (Value.slice A15 A15l A15c)]), (Value.int .i64 n6)])) w13)
  (V.sel (((words_2l : Nat) : Int) != (IntKind.wrap .i64 (Int.tdiv (IntKind.wrap .i64 (n_1 + 63)) 64)))
  (∃ w16, Sem.run Tryd.prog (Instr.storeAt 50 (Value.pointer (some ⟨Array.size (World.heap w), 0, none⟩)) (Value.agg #[(Value.int .i64 0), (Value.slice none 0 0)])) w10 = .ok () w16 ∧
  ∃ n17, ∃ A18, ∃ A18l, ∃ A18c, V.cellsC (fun a_ x_ => World.cell? w16 a_ = some x_) ⟨Array.size (World.heap w), 0, none⟩ [(Value.int .i64 n17), (Value.slice A18 A18l A18c)] ∧
  R (Ending.returned (Value.tuple #[(Value.agg #[(Value.int .i64 n17), (Value.slice A18 A18l A18c)]), (Value.int .i64 14)])) w16)
  (∃ I19 : Int → World → Prop, ∃ μ20 : Int → World → Nat, I19 0 w10 ∧
  ∀ i_21 (j22 : Nat → Value) (w23 : World), I19 i_21 w23 →
  (V.sel (decide (i_21 < ((words_2l : Nat) : Int)))
  (V.when (decide ((0 : Int) ≤ i_21 ∧ (i_21 : Int) < ((words_2l : Nat) : Int))) (V.ptr words_2 fun a24 =>
  ∃ n25, World.cell? w23 (Addr.add a24 ((Int.toNat i_21) * 1)) = some (Value.int .u64 n25) ∧
  V.sel (n25 == 0)
  (I19 (IntKind.wrap .i64 (i_21 + 1)) w23 ∧ μ20 (IntKind.wrap .i64 (i_21 + 1)) w23 < μ20 i_21 w23)
  (∃ I26 : Int → World → Prop, ∃ μ27 : Int → World → Nat, I26 0 w23 ∧
  ∀ b_28 (j29 : Nat → Value) (w30 : World), I26 b_28 w30 →
  (V.sel (decide (b_28 < 64))
  (V.when (decide ((0 : Int) ≤ i_21 ∧ (i_21 : Int) < ((words_2l : Nat) : Int))) (V.ptr words_2 fun a31 =>
  ∃ n32, World.cell? w30 (Addr.add a31 ((Int.toNat i_21) * 1)) = some (Value.int .u64 n32) ∧
  Calls Tryd.prog 90 #[(Value.int .u64 n32), (Value.int .i64 b_28)] w30 fun e34 w35 =>
  ∃ b33, e34 = Ending.returned (Value.bool b33) ∧
  V.sel b33
  (V.sel (decide ((IntKind.wrap .i64 ((IntKind.wrap .i64 (64 * i_21)) + b_28)) ≥ n_1))
  (∃ w36, Sem.run Tryd.prog (Instr.storeAt 50 (Value.pointer (some ⟨Array.size (World.heap w), 0, none⟩)) (Value.agg #[(Value.int .i64 0), (Value.slice none 0 0)])) w35 = .ok () w36 ∧
  ∃ n37, ∃ A38, ∃ A38l, ∃ A38c, V.cellsC (fun a_ x_ => World.cell? w36 a_ = some x_) ⟨Array.size (World.heap w), 0, none⟩ [(Value.int .i64 n37), (Value.slice A38 A38l A38c)] ∧
  R (Ending.returned (Value.tuple #[(Value.agg #[(Value.int .i64 n37), (Value.slice A38 A38l A38c)]), (Value.int .i64 12)])) w36)
  (V.sel b33
  (∃ A39, ∃ A39l, ∃ A39c, World.cell? w35 (Addr.add ⟨Array.size (World.heap w8), 0, none⟩ 1) = some (Value.slice A39 A39l A39c) ∧
  ∀ w40, w40 = (World.alloc w35 (.cells #[(Value.int .i64 (IntKind.wrap .i64 ((IntKind.wrap .i64 (64 * i_21)) + b_28)))] 3)) →
  ∃ A41, ∃ A41l, ∃ A41c, ∃ w42, Sem.run Tryd.prog (Builtin.append_ #[22, 22] 22 #[(Value.slice A39 A39l A39c), (Value.slice (some ⟨Array.size (World.heap w35), 0, none⟩) 1 1)]) w40 = .ok (Value.slice A41 A41l A41c) w42 ∧
  ∃ w43, Sem.run Tryd.prog (Instr.storeAt 22 (Value.pointer (some (Addr.add ⟨Array.size (World.heap w8), 0, none⟩ 1))) (Value.slice A41 A41l A41c)) w42 = .ok () w43 ∧
  I26 (IntKind.wrap .i64 (b_28 + 1)) w43 ∧ μ27 (IntKind.wrap .i64 (b_28 + 1)) w43 < μ27 b_28 w30)
  (I26 (IntKind.wrap .i64 (b_28 + 1)) w35 ∧ μ27 (IntKind.wrap .i64 (b_28 + 1)) w35 < μ27 b_28 w30)))
  (V.sel b33
  (∃ A44, ∃ A44l, ∃ A44c, World.cell? w35 (Addr.add ⟨Array.size (World.heap w8), 0, none⟩ 1) = some (Value.slice A44 A44l A44c) ∧
  ∀ w45, w45 = (World.alloc w35 (.cells #[(Value.int .i64 (IntKind.wrap .i64 ((IntKind.wrap .i64 (64 * i_21)) + b_28)))] 3)) →
  ∃ A46, ∃ A46l, ∃ A46c, ∃ w47, Sem.run Tryd.prog (Builtin.append_ #[22, 22] 22 #[(Value.slice A44 A44l A44c), (Value.slice (some ⟨Array.size (World.heap w35), 0, none⟩) 1 1)]) w45 = .ok (Value.slice A46 A46l A46c) w47 ∧
  ∃ w48, Sem.run Tryd.prog (Instr.storeAt 22 (Value.pointer (some (Addr.add ⟨Array.size (World.heap w8), 0, none⟩ 1))) (Value.slice A46 A46l A46c)) w47 = .ok () w48 ∧
  I26 (IntKind.wrap .i64 (b_28 + 1)) w48 ∧ μ27 (IntKind.wrap .i64 (b_28 + 1)) w48 < μ27 b_28 w30)
  (I26 (IntKind.wrap .i64 (b_28 + 1)) w35 ∧ μ27 (IntKind.wrap .i64 (b_28 + 1)) w35 < μ27 b_28 w30))))
  (I19 (IntKind.wrap .i64 (i_21 + 1)) w30 ∧ μ20 (IntKind.wrap .i64 (i_21 + 1)) w30 < μ20 i_21 w23)))))
  (∃ n49, ∃ A50, ∃ A50l, ∃ A50c, V.cellsC (fun a_ x_ => World.cell? w23 a_ = some x_) ⟨Array.size (World.heap w8), 0, none⟩ [(Value.int .i64 n49), (Value.slice A50 A50l A50c)] ∧
  ∃ w51, Sem.run Tryd.prog (Instr.storeAt 50 (Value.pointer (some ⟨Array.size (World.heap w), 0, none⟩)) (Value.agg #[(Value.int .i64 n49), (Value.slice A50 A50l A50c)])) w23 = .ok () w51 ∧
  ∃ n52, ∃ A53, ∃ A53l, ∃ A53c, V.cellsC (fun a_ x_ => World.cell? w51 a_ = some x_) ⟨Array.size (World.heap w), 0, none⟩ [(Value.int .i64 n52), (Value.slice A53 A53l A53c)] ∧
  R (Ending.returned (Value.tuple #[(Value.agg #[(Value.int .i64 n52), (Value.slice A53 A53l A53c)]), (Value.int .i64 0)])) w51))))) :
  Calls Tryd.prog 66 #[(Value.int .i64 n_1), (Value.slice words_2 words_2l words_2c)] w R :=
  V.calls_of_R ⟨V.assoc [(0, [8]), (1, [9])], V.assocP [], V.assocC [], V.assocS [], ⟨[], true⟩⟩ Tryd.func66 rfl (Eq.mp (by kernel_rfl) h)

theorem berthref01_And_nf (a_1 : Int) (a_2 : Option Addr) (a_2l : Nat) (a_2c : Nat) (b_3 : Int) (b_4 : Option Addr) (b_4l : Nat) (b_4c : Nat) (w : World) (R : Ending → World → Prop) (h :
  ∀ w5, w5 = (World.alloc w (.cells #[(Value.int .i64 a_1), (Value.slice a_2 a_2l a_2c)] 50)) →
  ∀ w6, w6 = (World.alloc w5 (.cells #[(Value.int .i64 b_3), (Value.slice b_4 b_4l b_4c)] 50)) →
  ∀ w7, w7 = (World.alloc w6 (.cells #[(Value.int .i64 0), (Value.slice none 0 0)] 50)) →
  ∃ S8 : World → Prop, S8 (World.drew w7) ∧
  ∃ n10, ∃ A11, ∃ A11l, ∃ A11c, V.cellsC (fun a_ x_ => ∀ w9, S8 w9 → World.cell? w9 a_ = some x_) ⟨Array.size (World.heap w), 0, none⟩ [(Value.int .i64 n10), (Value.slice A11 A11l A11c)] ∧
  ∃ n12, ∃ A13, ∃ A13l, ∃ A13c, V.cellsC (fun a_ x_ => ∀ w9, S8 w9 → World.cell? w9 a_ = some x_) ⟨Array.size (World.heap w5), 0, none⟩ [(Value.int .i64 n12), (Value.slice A13 A13l A13c)] ∧
  ∃ A14, ∃ A14l, ∃ A14c, (∀ w9, S8 w9 → World.cell? w9 (Addr.add ⟨Array.size (World.heap w), 0, none⟩ 1) = some (Value.slice A14 A14l A14c)) ∧
  ∃ A15, ∃ A15l, ∃ A15c, (∀ w9, S8 w9 → World.cell? w9 (Addr.add ⟨Array.size (World.heap w5), 0, none⟩ 1) = some (Value.slice A15 A15l A15c)) ∧
  Calls Tryd.prog 91 #[(Value.agg #[(Value.int .i64 n10), (Value.slice A11 A11l A11c)]), (Value.agg #[(Value.int .i64 n12), (Value.slice A13 A13l A13c)])] (World.drew w7) fun e17 w18 =>
  ∃ n16, e17 = Ending.returned (Value.int .i64 n16) ∧
  S8 w18 ∧
  Calls Tryd.prog 92 #[(Value.slice A14 A14l A14c), (Value.slice A15 A15l A15c), (Value.bool false), (Value.bool false), (Value.bool true)] w18 fun e20 w21 =>
  ∃ A19, ∃ A19l, ∃ A19c, e20 = Ending.returned (Value.slice A19 A19l A19c) ∧
  S8 w21 ∧
  ∃ w22, Sem.run Tryd.prog (Instr.storeAt 50 (Value.pointer (some ⟨Array.size (World.heap w6), 0, none⟩)) (Value.agg #[(Value.int .i64 n16), (Value.slice A19 A19l A19c)])) w21 = .ok () w22 ∧
  ∃ n23, ∃ A24, ∃ A24l, ∃ A24c, V.cellsC (fun a_ x_ => World.cell? w22 a_ = some x_) ⟨Array.size (World.heap w6), 0, none⟩ [(Value.int .i64 n23), (Value.slice A24 A24l A24c)] ∧
  R (Ending.returned (Value.agg #[(Value.int .i64 n23), (Value.slice A24 A24l A24c)])) w22) :
  Calls Tryd.prog 67 #[(Value.agg #[(Value.int .i64 a_1), (Value.slice a_2 a_2l a_2c)]), (Value.agg #[(Value.int .i64 b_3), (Value.slice b_4 b_4l b_4c)])] w R :=
  V.calls_of_R ⟨V.assoc [], V.assocP [(1, V.line [0, 1, 3, 4, 5, 6, 2, 7, 8, 9])], V.assocC [], V.assocS [], ⟨[], true⟩⟩ Tryd.func67 rfl (Eq.mp (by kernel_rfl) h)

theorem berthref01_Or_nf (a_1 : Int) (a_2 : Option Addr) (a_2l : Nat) (a_2c : Nat) (b_3 : Int) (b_4 : Option Addr) (b_4l : Nat) (b_4c : Nat) (w : World) (R : Ending → World → Prop) (h :
  ∀ w5, w5 = (World.alloc w (.cells #[(Value.int .i64 a_1), (Value.slice a_2 a_2l a_2c)] 50)) →
  ∀ w6, w6 = (World.alloc w5 (.cells #[(Value.int .i64 b_3), (Value.slice b_4 b_4l b_4c)] 50)) →
  ∀ w7, w7 = (World.alloc w6 (.cells #[(Value.int .i64 0), (Value.slice none 0 0)] 50)) →
  ∃ S8 : World → Prop, S8 (World.drew w7) ∧
  ∃ n10, ∃ A11, ∃ A11l, ∃ A11c, V.cellsC (fun a_ x_ => ∀ w9, S8 w9 → World.cell? w9 a_ = some x_) ⟨Array.size (World.heap w), 0, none⟩ [(Value.int .i64 n10), (Value.slice A11 A11l A11c)] ∧
  ∃ n12, ∃ A13, ∃ A13l, ∃ A13c, V.cellsC (fun a_ x_ => ∀ w9, S8 w9 → World.cell? w9 a_ = some x_) ⟨Array.size (World.heap w5), 0, none⟩ [(Value.int .i64 n12), (Value.slice A13 A13l A13c)] ∧
  ∃ A14, ∃ A14l, ∃ A14c, (∀ w9, S8 w9 → World.cell? w9 (Addr.add ⟨Array.size (World.heap w), 0, none⟩ 1) = some (Value.slice A14 A14l A14c)) ∧
  ∃ A15, ∃ A15l, ∃ A15c, (∀ w9, S8 w9 → World.cell? w9 (Addr.add ⟨Array.size (World.heap w5), 0, none⟩ 1) = some (Value.slice A15 A15l A15c)) ∧
  Calls Tryd.prog 91 #[(Value.agg #[(Value.int .i64 n10), (Value.slice A11 A11l A11c)]), (Value.agg #[(Value.int .i64 n12), (Value.slice A13 A13l A13c)])] (World.drew w7) fun e17 w18 =>
  ∃ n16, e17 = Ending.returned (Value.int .i64 n16) ∧
  S8 w18 ∧
  Calls Tryd.prog 92 #[(Value.slice A14 A14l A14c), (Value.slice A15 A15l A15c), (Value.bool true), (Value.bool true), (Value.bool true)] w18 fun e20 w21 =>
  ∃ A19, ∃ A19l, ∃ A19c, e20 = Ending.returned (Value.slice A19 A19l A19c) ∧
  S8 w21 ∧
  ∃ w22, Sem.run Tryd.prog (Instr.storeAt 50 (Value.pointer (some ⟨Array.size (World.heap w6), 0, none⟩)) (Value.agg #[(Value.int .i64 n16), (Value.slice A19 A19l A19c)])) w21 = .ok () w22 ∧
  ∃ n23, ∃ A24, ∃ A24l, ∃ A24c, V.cellsC (fun a_ x_ => World.cell? w22 a_ = some x_) ⟨Array.size (World.heap w6), 0, none⟩ [(Value.int .i64 n23), (Value.slice A24 A24l A24c)] ∧
  R (Ending.returned (Value.agg #[(Value.int .i64 n23), (Value.slice A24 A24l A24c)])) w22) :
  Calls Tryd.prog 68 #[(Value.agg #[(Value.int .i64 a_1), (Value.slice a_2 a_2l a_2c)]), (Value.agg #[(Value.int .i64 b_3), (Value.slice b_4 b_4l b_4c)])] w R :=
  V.calls_of_R ⟨V.assoc [], V.assocP [(1, V.line [0, 1, 3, 4, 5, 6, 2, 7, 8, 9])], V.assocC [], V.assocS [], ⟨[], true⟩⟩ Tryd.func68 rfl (Eq.mp (by kernel_rfl) h)

theorem berthref01_AndNot_nf (a_1 : Int) (a_2 : Option Addr) (a_2l : Nat) (a_2c : Nat) (b_3 : Int) (b_4 : Option Addr) (b_4l : Nat) (b_4c : Nat) (w : World) (R : Ending → World → Prop) (h :
  ∀ w5, w5 = (World.alloc w (.cells #[(Value.int .i64 a_1), (Value.slice a_2 a_2l a_2c)] 50)) →
  ∀ w6, w6 = (World.alloc w5 (.cells #[(Value.int .i64 b_3), (Value.slice b_4 b_4l b_4c)] 50)) →
  ∀ w7, w7 = (World.alloc w6 (.cells #[(Value.int .i64 0), (Value.slice none 0 0)] 50)) →
  ∃ S8 : World → Prop, S8 (World.drew w7) ∧
  ∃ n10, ∃ A11, ∃ A11l, ∃ A11c, V.cellsC (fun a_ x_ => ∀ w9, S8 w9 → World.cell? w9 a_ = some x_) ⟨Array.size (World.heap w), 0, none⟩ [(Value.int .i64 n10), (Value.slice A11 A11l A11c)] ∧
  ∃ n12, ∃ A13, ∃ A13l, ∃ A13c, V.cellsC (fun a_ x_ => ∀ w9, S8 w9 → World.cell? w9 a_ = some x_) ⟨Array.size (World.heap w5), 0, none⟩ [(Value.int .i64 n12), (Value.slice A13 A13l A13c)] ∧
  ∃ A14, ∃ A14l, ∃ A14c, (∀ w9, S8 w9 → World.cell? w9 (Addr.add ⟨Array.size (World.heap w), 0, none⟩ 1) = some (Value.slice A14 A14l A14c)) ∧
  ∃ A15, ∃ A15l, ∃ A15c, (∀ w9, S8 w9 → World.cell? w9 (Addr.add ⟨Array.size (World.heap w5), 0, none⟩ 1) = some (Value.slice A15 A15l A15c)) ∧
  Calls Tryd.prog 91 #[(Value.agg #[(Value.int .i64 n10), (Value.slice A11 A11l A11c)]), (Value.agg #[(Value.int .i64 n12), (Value.slice A13 A13l A13c)])] (World.drew w7) fun e17 w18 =>
  ∃ n16, e17 = Ending.returned (Value.int .i64 n16) ∧
  S8 w18 ∧
  Calls Tryd.prog 92 #[(Value.slice A14 A14l A14c), (Value.slice A15 A15l A15c), (Value.bool true), (Value.bool false), (Value.bool false)] w18 fun e20 w21 =>
  ∃ A19, ∃ A19l, ∃ A19c, e20 = Ending.returned (Value.slice A19 A19l A19c) ∧
  S8 w21 ∧
  ∃ w22, Sem.run Tryd.prog (Instr.storeAt 50 (Value.pointer (some ⟨Array.size (World.heap w6), 0, none⟩)) (Value.agg #[(Value.int .i64 n16), (Value.slice A19 A19l A19c)])) w21 = .ok () w22 ∧
  ∃ n23, ∃ A24, ∃ A24l, ∃ A24c, V.cellsC (fun a_ x_ => World.cell? w22 a_ = some x_) ⟨Array.size (World.heap w6), 0, none⟩ [(Value.int .i64 n23), (Value.slice A24 A24l A24c)] ∧
  R (Ending.returned (Value.agg #[(Value.int .i64 n23), (Value.slice A24 A24l A24c)])) w22) :
  Calls Tryd.prog 69 #[(Value.agg #[(Value.int .i64 a_1), (Value.slice a_2 a_2l a_2c)]), (Value.agg #[(Value.int .i64 b_3), (Value.slice b_4 b_4l b_4c)])] w R :=
  V.calls_of_R ⟨V.assoc [], V.assocP [(1, V.line [0, 1, 3, 4, 5, 6, 2, 7, 8, 9])], V.assocC [], V.assocS [], ⟨[], true⟩⟩ Tryd.func69 rfl (Eq.mp (by kernel_rfl) h)

theorem berthref01_Xor_nf (a_1 : Int) (a_2 : Option Addr) (a_2l : Nat) (a_2c : Nat) (b_3 : Int) (b_4 : Option Addr) (b_4l : Nat) (b_4c : Nat) (w : World) (R : Ending → World → Prop) (h :
  ∀ w5, w5 = (World.alloc w (.cells #[(Value.int .i64 a_1), (Value.slice a_2 a_2l a_2c)] 50)) →
  ∀ w6, w6 = (World.alloc w5 (.cells #[(Value.int .i64 b_3), (Value.slice b_4 b_4l b_4c)] 50)) →
  ∀ w7, w7 = (World.alloc w6 (.cells #[(Value.int .i64 0), (Value.slice none 0 0)] 50)) →
  ∃ S8 : World → Prop, S8 (World.drew w7) ∧
  ∃ n10, ∃ A11, ∃ A11l, ∃ A11c, V.cellsC (fun a_ x_ => ∀ w9, S8 w9 → World.cell? w9 a_ = some x_) ⟨Array.size (World.heap w), 0, none⟩ [(Value.int .i64 n10), (Value.slice A11 A11l A11c)] ∧
  ∃ n12, ∃ A13, ∃ A13l, ∃ A13c, V.cellsC (fun a_ x_ => ∀ w9, S8 w9 → World.cell? w9 a_ = some x_) ⟨Array.size (World.heap w5), 0, none⟩ [(Value.int .i64 n12), (Value.slice A13 A13l A13c)] ∧
  ∃ A14, ∃ A14l, ∃ A14c, (∀ w9, S8 w9 → World.cell? w9 (Addr.add ⟨Array.size (World.heap w), 0, none⟩ 1) = some (Value.slice A14 A14l A14c)) ∧
  ∃ A15, ∃ A15l, ∃ A15c, (∀ w9, S8 w9 → World.cell? w9 (Addr.add ⟨Array.size (World.heap w5), 0, none⟩ 1) = some (Value.slice A15 A15l A15c)) ∧
  Calls Tryd.prog 91 #[(Value.agg #[(Value.int .i64 n10), (Value.slice A11 A11l A11c)]), (Value.agg #[(Value.int .i64 n12), (Value.slice A13 A13l A13c)])] (World.drew w7) fun e17 w18 =>
  ∃ n16, e17 = Ending.returned (Value.int .i64 n16) ∧
  S8 w18 ∧
  Calls Tryd.prog 92 #[(Value.slice A14 A14l A14c), (Value.slice A15 A15l A15c), (Value.bool true), (Value.bool true), (Value.bool false)] w18 fun e20 w21 =>
  ∃ A19, ∃ A19l, ∃ A19c, e20 = Ending.returned (Value.slice A19 A19l A19c) ∧
  S8 w21 ∧
  ∃ w22, Sem.run Tryd.prog (Instr.storeAt 50 (Value.pointer (some ⟨Array.size (World.heap w6), 0, none⟩)) (Value.agg #[(Value.int .i64 n16), (Value.slice A19 A19l A19c)])) w21 = .ok () w22 ∧
  ∃ n23, ∃ A24, ∃ A24l, ∃ A24c, V.cellsC (fun a_ x_ => World.cell? w22 a_ = some x_) ⟨Array.size (World.heap w6), 0, none⟩ [(Value.int .i64 n23), (Value.slice A24 A24l A24c)] ∧
  R (Ending.returned (Value.agg #[(Value.int .i64 n23), (Value.slice A24 A24l A24c)])) w22) :
  Calls Tryd.prog 70 #[(Value.agg #[(Value.int .i64 a_1), (Value.slice a_2 a_2l a_2c)]), (Value.agg #[(Value.int .i64 b_3), (Value.slice b_4 b_4l b_4c)])] w R :=
  V.calls_of_R ⟨V.assoc [], V.assocP [(1, V.line [0, 1, 3, 4, 5, 6, 2, 7, 8, 9])], V.assocC [], V.assocS [], ⟨[], true⟩⟩ Tryd.func70 rfl (Eq.mp (by kernel_rfl) h)

end Go.Proofs.YtbaglnffgbnekaaDoor
