/- Normal forms of the program's functions, printed by a program of mine; the kernel checks each. -/
import Derived.Test.YtjlkdadafddodaaProg
import Derived.Test.YtjlkdadafddodaaV2
set_option linter.unusedVariables false
set_option maxRecDepth 100000
namespace Go.Proofs.Ytjlkdadafddodaa
open Go

theorem berthlaw08_World_rows_nf (w_1 : Option Addr) (i_2 : Int) (key_3 : ByteArray) (n_4 : Int) (w : World) (R : Ending → World → Prop) (h :
  ∀ w5, w5 = (World.alloc w (.cells #[(Value.pointer w_1)] 52)) →
  ∀ w6, w6 = (World.alloc w5 (.cells #[(Value.int .i64 i_2)] 3)) →
  ∀ w7, w7 = (World.alloc w6 (.cells #[(Value.string key_3)] 9)) →
  ∀ w8, w8 = (World.alloc w7 (.cells #[(Value.int .i64 n_4)] 3)) →
  ∀ w9, w9 = (World.alloc w8 (.cells #[(Value.bool false)] 4)) →
  ∃ n10, World.cell? w9 ⟨Array.size (World.heap w7), 0, none⟩ = some (Value.int .i64 n10) ∧
  V.sel (decide (n10 ≤ 0))
  (∃ w11, Sem.run Try.prog (Instr.storeAt 4 (Value.pointer (some ⟨Array.size (World.heap w8), 0, none⟩)) (Value.bool true)) w9 = .ok () w11 ∧
  ∃ b12, World.cell? w11 ⟨Array.size (World.heap w8), 0, none⟩ = some (Value.bool b12) ∧
  R (Ending.returned (Value.bool b12)) w11)
  (∃ J13 : Option Addr → World → Prop, (∃ S14 : World → Prop, S14 (World.drew w9) ∧
  ∃ p16, (∀ w15, S14 w15 → World.cell? w15 ⟨Array.size (World.heap w), 0, none⟩ = some (Value.pointer p16)) ∧
  ∃ n17, (∀ w15, S14 w15 → World.cell? w15 ⟨Array.size (World.heap w5), 0, none⟩ = some (Value.int .i64 n17)) ∧
  V.ptr p16 fun a18 =>
  V.when (decide ((0 : Int) ≤ n17 ∧ (n17 : Int) < 4)) (∃ n19, ∃ A20, ∃ A20l, ∃ A20c, V.cellsC (fun a_ x_ => ∀ w15, S14 w15 → World.cell? w15 a_ = some x_) (Addr.add (Addr.add a18 4) ((Int.toNat n17) * 2)) [(Value.int .i64 n19), (Value.slice A20 A20l A20c)] ∧
  ∃ s21, (∀ w15, S14 w15 → World.cell? w15 ⟨Array.size (World.heap w6), 0, none⟩ = some (Value.string s21)) ∧
  (Calls Try.prog 27 #[(Value.agg #[(Value.int .i64 n19), (Value.slice A20 A20l A20c)]), (Value.string s21)] (World.drew w9) fun e23 w24 =>
  ∃ A22, ∃ A22l, ∃ A22c, e23 = Ending.returned (Value.slice A22 A22l A22c) ∧
  S14 w24 ∧
  ∀ w25, w25 = (World.alloc w24 (.cells #[(Value.slice none 0 0)] 37)) →
  S14 w25 ∧
  ∃ w26, Sem.run Try.prog (Instr.storeAt 37 (Value.pointer (some ⟨Array.size (World.heap w24), 0, none⟩)) (Value.slice A22 A22l A22c)) w25 = .ok () w26 ∧
  J13 (some ⟨Array.size (World.heap w24), 0, none⟩) w26) ∧
  (∀ w27, w27 = (World.alloc (World.drew w9) (.cells #[(Value.slice none 0 0)] 37)) →
  S14 w27 ∧
  Calls Try.prog 27 #[(Value.agg #[(Value.int .i64 n19), (Value.slice A20 A20l A20c)]), (Value.string s21)] w27 fun e29 w30 =>
  ∃ A28, ∃ A28l, ∃ A28c, e29 = Ending.returned (Value.slice A28 A28l A28c) ∧
  S14 w30 ∧
  ∃ w31, Sem.run Try.prog (Instr.storeAt 37 (Value.pointer (some ⟨Array.size (World.heap (World.drew w9)), 0, none⟩)) (Value.slice A28 A28l A28c)) w30 = .ok () w31 ∧
  J13 (some ⟨Array.size (World.heap (World.drew w9)), 0, none⟩) w31) ∧ True)) ∧
  ∀ want_32 (j33 : Nat → Value) (w34 : World), J13 want_32 w34 →
  ∀ w35, w35 = (World.alloc w34 (.cells #[(Value.int .i64 0)] 3)) →
  ∃ w36, Sem.run Try.prog (Instr.storeAt 3 (Value.pointer (some ⟨Array.size (World.heap w34), 0, none⟩)) (Value.int .i64 0)) w35 = .ok () w36 ∧
  ∃ S37 : World → Prop, S37 (World.drew w36) ∧
  ∃ p39, (∀ w38, S37 w38 → World.cell? w38 ⟨Array.size (World.heap w), 0, none⟩ = some (Value.pointer p39)) ∧
  ∃ n40, (∀ w38, S37 w38 → World.cell? w38 ⟨Array.size (World.heap w5), 0, none⟩ = some (Value.int .i64 n40)) ∧
  V.ptr p39 fun a41 =>
  V.when (decide ((0 : Int) ≤ n40 ∧ (n40 : Int) < 4)) (∃ p42, (∀ w38, S37 w38 → World.cell? w38 (Addr.add (Addr.add a41 0) ((Int.toNat n40) * 1)) = some (Value.pointer p42)) ∧
  ∃ s43, (∀ w38, S37 w38 → World.cell? w38 ⟨Array.size (World.heap w6), 0, none⟩ = some (Value.string s43)) ∧
  Calls Try.prog 22 #[(Value.pointer p42), (Value.string s43)] (World.drew w36) fun e45 w46 =>
  ∃ f44, ∃ f44a, ∃ f44c, e45 = Ending.returned (Value.func (.func f44) f44a f44c) ∧
  S37 w46 ∧
  V.when (V.hasB Try.prog f44 && true) (∀ (Rc47 : Loop) (l48 : Nat) (w49 : World), l48 = Array.size (World.heap w46) + 1 → w49 = World.alloc (World.alloc w46 (.deferred (some []))) (.loop { Rc47 with state := .ready, pending := none }) →
  (∀ y35_52 y36_53 (W50 : World) (R51 : Ending → World → Prop), V.LoopSt W50 l48 Rc47 .ready none →
  (V.LoopSt W50 l48 Rc47 .ready none ∧
  ∃ S54 : World → Prop, S54 (World.drew (V.setLoop W50 l48 Rc47 .busy none)) ∧
  ∃ n56, (∀ w55, S54 w55 → World.cell? w55 ⟨Array.size (World.heap w34), 0, none⟩ = some (Value.int .i64 n56)) ∧
  V.ptr want_32 fun a57 =>
  ∃ A58, ∃ A58l, ∃ A58c, (∀ w55, S54 w55 → World.cell? w55 a57 = some (Value.slice A58 A58l A58c)) ∧
  V.sel (decide (n56 ≥ ((A58l : Nat) : Int)))
  (∃ w59, Sem.run Try.prog (Instr.storeAt 4 (Value.pointer (some ⟨Array.size (World.heap w8), 0, none⟩)) (Value.bool false)) (World.drew (V.setLoop W50 l48 Rc47 .busy none)) = .ok () w59 ∧
  V.LoopSt w59 l48 Rc47 .busy none ∧ R51 (Ending.returned (Value.bool false)) (V.setLoop w59 l48 Rc47 .done (some Code.ret)))
  (V.ptr want_32 fun a60 =>
  ∃ A61, ∃ A61l, ∃ A61c, (∀ w55, S54 w55 → World.cell? w55 a60 = some (Value.slice A61 A61l A61c)) ∧
  ∃ n62, (∀ w55, S54 w55 → World.cell? w55 ⟨Array.size (World.heap w34), 0, none⟩ = some (Value.int .i64 n62)) ∧
  V.when (decide ((0 : Int) ≤ n62 ∧ (n62 : Int) < ((A61l : Nat) : Int))) (V.ptr A61 fun a63 =>
  ∃ n64, (∀ w55, S54 w55 → World.cell? w55 (Addr.add a63 ((Int.toNat n62) * 1)) = some (Value.int .i64 n64)) ∧
  V.sel (y35_52 != n64)
  (∃ w65, Sem.run Try.prog (Instr.storeAt 4 (Value.pointer (some ⟨Array.size (World.heap w8), 0, none⟩)) (Value.bool false)) (World.drew (V.setLoop W50 l48 Rc47 .busy none)) = .ok () w65 ∧
  V.LoopSt w65 l48 Rc47 .busy none ∧ R51 (Ending.returned (Value.bool false)) (V.setLoop w65 l48 Rc47 .done (some Code.ret)))
  (∃ p66, (∀ w55, S54 w55 → World.cell? w55 ⟨Array.size (World.heap w), 0, none⟩ = some (Value.pointer p66)) ∧
  ∃ n67, (∀ w55, S54 w55 → World.cell? w55 ⟨Array.size (World.heap w5), 0, none⟩ = some (Value.int .i64 n67)) ∧
  V.ptr p66 fun a68 =>
  V.when (decide ((0 : Int) ≤ n67 ∧ (n67 : Int) < 4)) (∃ n69, (∀ w55, S54 w55 → World.cell? w55 (Addr.add (Addr.add (Addr.add a68 4) ((Int.toNat n67) * 2)) 0) = some (Value.int .i64 n69)) ∧
  ∃ p70, (∀ w55, S54 w55 → World.cell? w55 ⟨Array.size (World.heap w), 0, none⟩ = some (Value.pointer p70)) ∧
  ∃ n71, (∀ w55, S54 w55 → World.cell? w55 ⟨Array.size (World.heap w5), 0, none⟩ = some (Value.int .i64 n71)) ∧
  V.ptr p70 fun a72 =>
  V.when (decide ((0 : Int) ≤ n71 ∧ (n71 : Int) < 4)) (∃ n73, ∃ A74, ∃ A74l, ∃ A74c, V.cellsC (fun a_ x_ => ∀ w55, S54 w55 → World.cell? w55 a_ = some x_) (Addr.add (Addr.add a72 4) ((Int.toNat n71) * 2)) [(Value.int .i64 n73), (Value.slice A74 A74l A74c)] ∧
  ∃ s75, (∀ w55, S54 w55 → World.cell? w55 ⟨Array.size (World.heap w6), 0, none⟩ = some (Value.string s75)) ∧
  Calls Try.prog 29 #[(Value.agg #[(Value.int .i64 n73), (Value.slice A74 A74l A74c)]), (Value.string s75), (Value.int .i64 y35_52), (Value.int .i64 y35_52)] (World.drew (V.setLoop W50 l48 Rc47 .busy none)) fun e77 w78 =>
  ∃ A76, ∃ A76l, ∃ A76c, e77 = Ending.returned (Value.slice A76 A76l A76c) ∧
  S54 w78 ∧
  Calls Try.prog 28 #[(Value.pointer y36_53), (Value.int .i64 n69), (Value.slice A76 A76l A76c)] w78 fun e80 w81 =>
  ∃ b79, e80 = Ending.returned (Value.bool b79) ∧
  S54 w81 ∧
  V.sel (!b79)
  (∃ w82, Sem.run Try.prog (Instr.storeAt 4 (Value.pointer (some ⟨Array.size (World.heap w8), 0, none⟩)) (Value.bool false)) w81 = .ok () w82 ∧
  V.LoopSt w82 l48 Rc47 .busy none ∧ R51 (Ending.returned (Value.bool false)) (V.setLoop w82 l48 Rc47 .done (some Code.ret)))
  (∃ n83, World.cell? w81 ⟨Array.size (World.heap w34), 0, none⟩ = some (Value.int .i64 n83) ∧
  ∃ w84, Sem.run Try.prog (Instr.storeAt 3 (Value.pointer (some ⟨Array.size (World.heap w34), 0, none⟩)) (Value.int .i64 (IntKind.wrap .i64 (n83 + 1)))) w81 = .ok () w84 ∧
  ∃ n85, World.cell? w84 ⟨Array.size (World.heap w34), 0, none⟩ = some (Value.int .i64 n85) ∧
  ∃ n86, World.cell? w84 ⟨Array.size (World.heap w7), 0, none⟩ = some (Value.int .i64 n86) ∧
  V.sel (decide (n85 ≥ n86))
  (V.LoopSt w84 l48 Rc47 .busy none ∧ R51 (Ending.returned (Value.bool false)) (V.setLoop w84 l48 Rc47 .done (some (Code.exit 0))))
  (V.LoopSt w84 l48 Rc47 .busy none ∧ R51 (Ending.returned (Value.bool true)) (V.setLoop w84 l48 Rc47 .ready none))))))))) →
  V.Yield Try.prog l48 [(Value.int .i64 y35_52), (Value.pointer y36_53)] W50 R51) →
  Calls Try.prog f44 ⟨Array.toList f44a ++ [(Value.func (.yield l48) #[] #[])] ++ Array.toList f44c⟩ w49 fun e87 w89 => (∃ v88, e87 = Ending.returned v88) ∧
  ((V.LoopSt w89 l48 Rc47 .ready none ∧
  ∃ n90, World.cell? (V.setLoop w89 l48 Rc47 .exhausted none) ⟨Array.size (World.heap w34), 0, none⟩ = some (Value.int .i64 n90) ∧
  ∃ n91, World.cell? (V.setLoop w89 l48 Rc47 .exhausted none) ⟨Array.size (World.heap w7), 0, none⟩ = some (Value.int .i64 n91) ∧
  V.ptr want_32 fun a92 =>
  ∃ A93, ∃ A93l, ∃ A93c, World.cell? (V.setLoop w89 l48 Rc47 .exhausted none) a92 = some (Value.slice A93 A93l A93c) ∧
  ∃ w94, Sem.run Try.prog (Instr.storeAt 4 (Value.pointer (some ⟨Array.size (World.heap w8), 0, none⟩)) (Value.bool (n90 == (if ((A93l : Nat) : Int) < n91 then ((A93l : Nat) : Int) else n91)))) (V.setLoop w89 l48 Rc47 .exhausted none) = .ok () w94 ∧
  V.closeR (Array.size (World.heap w46) :: []) w94 fun w95 =>
  ∃ b96, World.cell? w95 ⟨Array.size (World.heap w8), 0, none⟩ = some (Value.bool b96) ∧
  R (Ending.returned (Value.bool b96)) w95) ∨
  (V.LoopSt w89 l48 Rc47 .done (some Code.ret) ∧
  V.closeR (Array.size (World.heap w46) :: []) (V.setLoop w89 l48 Rc47 .exhausted (some Code.ret)) fun w97 =>
  ∃ b98, World.cell? w97 ⟨Array.size (World.heap w8), 0, none⟩ = some (Value.bool b98) ∧
  R (Ending.returned (Value.bool b98)) w97) ∨
  (V.LoopSt w89 l48 Rc47 .done (some (Code.exit 0)) ∧
  ∃ n99, World.cell? (V.setLoop w89 l48 Rc47 .exhausted (some (Code.exit 0))) ⟨Array.size (World.heap w34), 0, none⟩ = some (Value.int .i64 n99) ∧
  ∃ n100, World.cell? (V.setLoop w89 l48 Rc47 .exhausted (some (Code.exit 0))) ⟨Array.size (World.heap w7), 0, none⟩ = some (Value.int .i64 n100) ∧
  V.ptr want_32 fun a101 =>
  ∃ A102, ∃ A102l, ∃ A102c, World.cell? (V.setLoop w89 l48 Rc47 .exhausted (some (Code.exit 0))) a101 = some (Value.slice A102 A102l A102c) ∧
  ∃ w103, Sem.run Try.prog (Instr.storeAt 4 (Value.pointer (some ⟨Array.size (World.heap w8), 0, none⟩)) (Value.bool (n99 == (if ((A102l : Nat) : Int) < n100 then ((A102l : Nat) : Int) else n100)))) (V.setLoop w89 l48 Rc47 .exhausted (some (Code.exit 0))) = .ok () w103 ∧
  V.closeR (Array.size (World.heap w46) :: []) w103 fun w104 =>
  ∃ b105, World.cell? w104 ⟨Array.size (World.heap w8), 0, none⟩ = some (Value.bool b105) ∧
  R (Ending.returned (Value.bool b105)) w104) ∨
  False))))) :
  Calls Try.prog 63 #[(Value.pointer w_1), (Value.int .i64 i_2), (Value.string key_3), (Value.int .i64 n_4)] w R :=
  V.calls_of_R ⟨V.assoc [], V.assocP [(3, (V.Plan.one 0 (V.Plan.one 1 (V.Plan.one 2 (V.Plan.one 3 (V.Plan.one 4 (V.Plan.one 5 (V.Plan.one 6 (V.Plan.alt 7 (V.Plan.one 8 (V.Plan.one 9 V.Plan.done)) (V.Plan.alt 8 (V.Plan.one 7 (V.Plan.one 9 V.Plan.done)) V.Plan.stop)))))))))), (5, V.line [0, 1, 2, 3, 4, 5, 6, 7, 8]), (11, V.line [0, 1, 2, 3, 4, 5, 6, 7, 8, 9, 10, 11, 12, 13, 14, 15, 16, 17, 18, 19, 20, 21, 22, 23, 24, 25, 26, 27, 28, 29, 30, 31, 32, 33])], V.assocC [(3, ([9], [V.Sh.one .ptr]))], V.assocS [(0, [V.Sh.one (.int .i64), V.Sh.one .ptr])], ⟨[], true⟩⟩ Try.func63 rfl (Eq.mp (by kernel_rfl) h)

theorem ordered_Index_bars_nf (x_1 : Option Addr) (key_2 : ByteArray) (slot_3 : Int) (w : World) (R : Ending → World → Prop) (h :
  V.sel (Option.isNone x_1)
  (R (Ending.returned (Value.int .i64 1)) w)
  (V.sel (ByteArray.toList key_2 == ByteArray.toList ByteArray.empty)
  (R (Ending.returned (Value.int .i64 80)) w)
  (V.sel (decide (slot_3 < 0))
  (R (Ending.returned (Value.int .i64 81)) w)
  (V.ptr x_1 fun a4 =>
  ∃ n5, World.cell? w (Addr.add a4 0) = some (Value.int .i64 n5) ∧
  V.sel (decide (slot_3 ≥ n5))
  (R (Ending.returned (Value.int .i64 81)) w)
  (R (Ending.returned (Value.int .i64 0)) w))))) :
  Calls Try.prog 64 #[(Value.pointer x_1), (Value.string key_2), (Value.int .i64 slot_3)] w R :=
  V.calls_of_R ⟨V.assoc [], V.assocP [], V.assocC [], V.assocS [], ⟨[], true⟩⟩ Try.func64 rfl (Eq.mp (by kernel_rfl) h)

theorem ordered_column_at_nf (c_1 : Option Addr) (n_2 : Int) (w : World) (R : Ending → World → Prop) (h :
  V.ptr c_1 fun a3 =>
  ∃ A4, ∃ A4l, ∃ A4c, World.cell? w (Addr.add a3 0) = some (Value.slice A4 A4l A4c) ∧
  ∃ I5 : Int → Int → World → Prop, ∃ μ6 : Int → Int → World → Nat, I5 0 ((A4l : Nat) : Int) (World.drew w) ∧
  ∀ lo_7 hi_8 (j9 : Nat → Value) (w10 : World), I5 lo_7 hi_8 w10 →
  (V.sel (decide (lo_7 < hi_8))
  (V.lt (IntKind.wrap .i64 (lo_7 + (IntKind.wrap .i64 (Int.tdiv (IntKind.wrap .i64 (hi_8 - lo_7)) 2)))) fun x11 =>
  V.ptr c_1 fun a12 =>
  ∃ A13, ∃ A13l, ∃ A13c, World.cell? w10 (Addr.add a12 0) = some (Value.slice A13 A13l A13c) ∧
  V.when (decide ((0 : Int) ≤ x11 ∧ (x11 : Int) < ((A13l : Nat) : Int))) (V.ptr A13 fun a14 =>
  ∃ n15, World.cell? w10 (Addr.add (Addr.add a14 ((Int.toNat x11) * 2)) 0) = some (Value.int .i64 n15) ∧
  V.sel (decide (n15 < n_2))
  (I5 (IntKind.wrap .i64 (x11 + 1)) hi_8 w10 ∧ μ6 (IntKind.wrap .i64 (x11 + 1)) hi_8 w10 < μ6 lo_7 hi_8 w10)
  (I5 lo_7 x11 w10 ∧ μ6 lo_7 x11 w10 < μ6 lo_7 hi_8 w10)))
  (R (Ending.returned (Value.int .i64 lo_7)) w10))) :
  Calls Try.prog 65 #[(Value.pointer c_1), (Value.int .i64 n_2)] w R :=
  V.calls_of_R ⟨V.assoc [(0, [5, 6])], V.assocP [(1, V.line [0, 1, 2, 3, 4, 5, 6])], V.assocC [], V.assocS [], ⟨[], true⟩⟩ Try.func65 rfl (Eq.mp (by kernel_rfl) h)

theorem slices_Delete___ordered_row_ordered_row__nf (s_1 : Option Addr) (s_1l : Nat) (s_1c : Nat) (i_2 : Int) (j_3 : Int) (w : World) (R : Ending → World → Prop) (h :
  V.when (decide ((0 : Int) ≤ ((s_1l : Nat) : Int) ∧ (((s_1l : Nat) : Int) : Int) ≤ ((s_1c : Nat) : Int))) (V.when (decide ((0 : Int) ≤ j_3 ∧ (j_3 : Int) ≤ (((s_1l : Nat) : Nat) : Int))) (V.when (decide ((0 : Int) ≤ i_2 ∧ (i_2 : Int) ≤ (((Int.toNat j_3) : Nat) : Int))) (V.sel (i_2 == j_3)
  (R (Ending.returned (Value.slice s_1 s_1l s_1c)) w)
  (∃ S4 : World → Prop, S4 (World.drew w) ∧
  V.when (decide ((0 : Int) ≤ i_2 ∧ (i_2 : Int) ≤ ((s_1c : Nat) : Int))) (V.when (decide ((0 : Int) ≤ j_3 ∧ (j_3 : Int) ≤ ((s_1l : Nat) : Int))) (∃ A6, ∃ A6l, ∃ A6c, ∃ w7, Sem.run Try.prog (Builtin.append_ #[87, 87] 87 #[(Value.slice (V.cut s_1 s_1c 0 2) ((Int.toNat i_2) - 0) (s_1c - 0)), (Value.slice (V.cut s_1 s_1c (Int.toNat j_3) 2) (s_1l - (Int.toNat j_3)) (s_1c - (Int.toNat j_3)))]) (World.drew w) = .ok (Value.slice A6 A6l A6c) w7 ∧
  S4 w7 ∧
  V.when (decide ((0 : Int) ≤ ((s_1l : Nat) : Int) ∧ (((s_1l : Nat) : Int) : Int) ≤ ((A6c : Nat) : Int))) (V.when (decide ((0 : Int) ≤ ((A6l : Nat) : Int) ∧ (((A6l : Nat) : Int) : Int) ≤ (((s_1l : Nat) : Nat) : Int))) (∃ w8, Sem.run Try.prog (Builtin.clear_ #[87] 0 #[(Value.slice (V.cut A6 A6c (A6l : Nat) 2) ((s_1l : Nat) - (A6l : Nat)) (A6c - (A6l : Nat)))]) w7 = .ok undef w8 ∧
  R (Ending.returned (Value.slice A6 A6l A6c)) w8))))))))) :
  Calls Try.prog 67 #[(Value.slice s_1 s_1l s_1c), (Value.int .i64 i_2), (Value.int .i64 j_3)] w R :=
  V.calls_of_R ⟨V.assoc [], V.assocP [(5, V.line [0, 1, 2, 3, 4, 5, 6, 7])], V.assocC [], V.assocS [], ⟨[], true⟩⟩ Try.func67 rfl (Eq.mp (by kernel_rfl) h)

theorem slices_Insert___ordered_row_ordered_row__nf (s_1 : Option Addr) (s_1l : Nat) (s_1c : Nat) (i_2 : Int) (v_3 : Option Addr) (v_3l : Nat) (v_3c : Nat) (w : World) (R : Ending → World → Prop) (h :
  V.when (decide ((0 : Int) ≤ i_2 ∧ (i_2 : Int) ≤ ((s_1l : Nat) : Int))) (V.sel (((v_3l : Nat) : Int) == 0)
  (R (Ending.returned (Value.slice s_1 s_1l s_1c)) w)
  (V.sel (i_2 == ((s_1l : Nat) : Int))
  (∃ A4, ∃ A4l, ∃ A4c, ∃ w5, Sem.run Try.prog (Builtin.append_ #[87, 87] 87 #[(Value.slice s_1 s_1l s_1c), (Value.slice v_3 v_3l v_3c)]) w = .ok (Value.slice A4 A4l A4c) w5 ∧
  R (Ending.returned (Value.slice A4 A4l A4c)) w5)
  (V.sel (decide ((IntKind.wrap .i64 (((s_1l : Nat) : Int) + ((v_3l : Nat) : Int))) > ((s_1c : Nat) : Int)))
  (V.when (decide ((0 : Int) ≤ i_2 ∧ (i_2 : Int) ≤ ((s_1c : Nat) : Int))) (∃ A6, ∃ A6l, ∃ A6c, ∃ w7, Sem.run Try.prog (Builtin.append_ #[87, 3] 87 #[(Value.slice (V.cut s_1 s_1c 0 2) ((Int.toNat i_2) - 0) (s_1c - 0)), (Value.int .i64 (IntKind.wrap .i64 ((IntKind.wrap .i64 (((s_1l : Nat) : Int) + ((v_3l : Nat) : Int))) - i_2)))]) w = .ok (Value.slice A6 A6l A6c) w7 ∧
  V.when (decide ((0 : Int) ≤ i_2 ∧ (i_2 : Int) ≤ ((A6l : Nat) : Int))) (∃ n8, ∃ w9, Sem.run Try.prog (Builtin.copy_ #[87, 87] 3 #[(Value.slice (V.cut A6 A6c (Int.toNat i_2) 2) (A6l - (Int.toNat i_2)) (A6c - (Int.toNat i_2))), (Value.slice v_3 v_3l v_3c)]) w7 = .ok (Value.int .i64 n8) w9 ∧
  ∃ S10 : World → Prop, S10 (World.drew w9) ∧
  V.when (decide ((0 : Int) ≤ (IntKind.wrap .i64 (i_2 + ((v_3l : Nat) : Int))) ∧ ((IntKind.wrap .i64 (i_2 + ((v_3l : Nat) : Int))) : Int) ≤ ((A6l : Nat) : Int))) (V.when (decide ((0 : Int) ≤ i_2 ∧ (i_2 : Int) ≤ ((s_1l : Nat) : Int))) (∃ n12, ∃ w13, Sem.run Try.prog (Builtin.copy_ #[87, 87] 3 #[(Value.slice (V.cut A6 A6c (Int.toNat (IntKind.wrap .i64 (i_2 + ((v_3l : Nat) : Int)))) 2) (A6l - (Int.toNat (IntKind.wrap .i64 (i_2 + ((v_3l : Nat) : Int))))) (A6c - (Int.toNat (IntKind.wrap .i64 (i_2 + ((v_3l : Nat) : Int)))))), (Value.slice (V.cut s_1 s_1c (Int.toNat i_2) 2) (s_1l - (Int.toNat i_2)) (s_1c - (Int.toNat i_2)))]) (World.drew w9) = .ok (Value.int .i64 n12) w13 ∧
  S10 w13 ∧
  R (Ending.returned (Value.slice A6 A6l A6c)) w13)))))
  (V.when (decide ((0 : Int) ≤ (IntKind.wrap .i64 (((s_1l : Nat) : Int) + ((v_3l : Nat) : Int))) ∧ ((IntKind.wrap .i64 (((s_1l : Nat) : Int) + ((v_3l : Nat) : Int))) : Int) ≤ ((s_1c : Nat) : Int))) (V.when (decide ((0 : Int) ≤ (IntKind.wrap .i64 (i_2 + ((v_3l : Nat) : Int))) ∧ ((IntKind.wrap .i64 (i_2 + ((v_3l : Nat) : Int))) : Int) ≤ ((((Int.toNat (IntKind.wrap .i64 (((s_1l : Nat) : Int) + ((v_3l : Nat) : Int)))) - 0) : Nat) : Int))) (∃ b14, ∃ w16, Sem.run Try.prog (callFunc 81 #[(Value.slice v_3 v_3l v_3c), (Value.slice (V.cut (V.cut s_1 s_1c 0 2) (s_1c - 0) (Int.toNat (IntKind.wrap .i64 (i_2 + ((v_3l : Nat) : Int)))) 2) (((Int.toNat (IntKind.wrap .i64 (((s_1l : Nat) : Int) + ((v_3l : Nat) : Int)))) - 0) - (Int.toNat (IntKind.wrap .i64 (i_2 + ((v_3l : Nat) : Int))))) ((s_1c - 0) - (Int.toNat (IntKind.wrap .i64 (i_2 + ((v_3l : Nat) : Int))))))]) w = .ok (.value (Value.bool b14)) w16 ∧
  V.sel (!b14)
  (∃ S17 : World → Prop, S17 (World.drew w16) ∧
  V.when (decide ((0 : Int) ≤ (IntKind.wrap .i64 (i_2 + ((v_3l : Nat) : Int))) ∧ ((IntKind.wrap .i64 (i_2 + ((v_3l : Nat) : Int))) : Int) ≤ ((((Int.toNat (IntKind.wrap .i64 (((s_1l : Nat) : Int) + ((v_3l : Nat) : Int)))) - 0) : Nat) : Int))) (V.when (decide ((0 : Int) ≤ i_2 ∧ (i_2 : Int) ≤ ((((Int.toNat (IntKind.wrap .i64 (((s_1l : Nat) : Int) + ((v_3l : Nat) : Int)))) - 0) : Nat) : Int))) (∃ n19, ∃ w20, Sem.run Try.prog (Builtin.copy_ #[87, 87] 3 #[(Value.slice (V.cut (V.cut s_1 s_1c 0 2) (s_1c - 0) (Int.toNat (IntKind.wrap .i64 (i_2 + ((v_3l : Nat) : Int)))) 2) (((Int.toNat (IntKind.wrap .i64 (((s_1l : Nat) : Int) + ((v_3l : Nat) : Int)))) - 0) - (Int.toNat (IntKind.wrap .i64 (i_2 + ((v_3l : Nat) : Int))))) ((s_1c - 0) - (Int.toNat (IntKind.wrap .i64 (i_2 + ((v_3l : Nat) : Int)))))), (Value.slice (V.cut (V.cut s_1 s_1c 0 2) (s_1c - 0) (Int.toNat i_2) 2) (((Int.toNat (IntKind.wrap .i64 (((s_1l : Nat) : Int) + ((v_3l : Nat) : Int)))) - 0) - (Int.toNat i_2)) ((s_1c - 0) - (Int.toNat i_2)))]) (World.drew w16) = .ok (Value.int .i64 n19) w20 ∧
  S17 w20 ∧
  V.when (decide ((0 : Int) ≤ i_2 ∧ (i_2 : Int) ≤ ((((Int.toNat (IntKind.wrap .i64 (((s_1l : Nat) : Int) + ((v_3l : Nat) : Int)))) - 0) : Nat) : Int))) (∃ n21, ∃ w22, Sem.run Try.prog (Builtin.copy_ #[87, 87] 3 #[(Value.slice (V.cut (V.cut s_1 s_1c 0 2) (s_1c - 0) (Int.toNat i_2) 2) (((Int.toNat (IntKind.wrap .i64 (((s_1l : Nat) : Int) + ((v_3l : Nat) : Int)))) - 0) - (Int.toNat i_2)) ((s_1c - 0) - (Int.toNat i_2))), (Value.slice v_3 v_3l v_3c)]) w20 = .ok (Value.int .i64 n21) w22 ∧
  R (Ending.returned (Value.slice (V.cut s_1 s_1c 0 2) ((Int.toNat (IntKind.wrap .i64 (((s_1l : Nat) : Int) + ((v_3l : Nat) : Int)))) - 0) (s_1c - 0))) w22))))
  (V.when (decide ((0 : Int) ≤ ((s_1l : Nat) : Int) ∧ (((s_1l : Nat) : Int) : Int) ≤ ((((Int.toNat (IntKind.wrap .i64 (((s_1l : Nat) : Int) + ((v_3l : Nat) : Int)))) - 0) : Nat) : Int))) (∃ n23, ∃ w24, Sem.run Try.prog (Builtin.copy_ #[87, 87] 3 #[(Value.slice (V.cut (V.cut s_1 s_1c 0 2) (s_1c - 0) (s_1l : Nat) 2) (((Int.toNat (IntKind.wrap .i64 (((s_1l : Nat) : Int) + ((v_3l : Nat) : Int)))) - 0) - (s_1l : Nat)) ((s_1c - 0) - (s_1l : Nat))), (Value.slice v_3 v_3l v_3c)]) w16 = .ok (Value.int .i64 n23) w24 ∧
  V.when (decide ((0 : Int) ≤ i_2 ∧ (i_2 : Int) ≤ ((((Int.toNat (IntKind.wrap .i64 (((s_1l : Nat) : Int) + ((v_3l : Nat) : Int)))) - 0) : Nat) : Int))) (Calls Try.prog 82 #[(Value.slice (V.cut (V.cut s_1 s_1c 0 2) (s_1c - 0) (Int.toNat i_2) 2) (((Int.toNat (IntKind.wrap .i64 (((s_1l : Nat) : Int) + ((v_3l : Nat) : Int)))) - 0) - (Int.toNat i_2)) ((s_1c - 0) - (Int.toNat i_2))), (Value.int .i64 ((v_3l : Nat) : Int))] w24 fun e25 w26 =>
  e25 = Ending.returned undef ∧
  R (Ending.returned (Value.slice (V.cut s_1 s_1c 0 2) ((Int.toNat (IntKind.wrap .i64 (((s_1l : Nat) : Int) + ((v_3l : Nat) : Int)))) - 0) (s_1c - 0))) w26)))))))))) :
  Calls Try.prog 68 #[(Value.slice s_1 s_1l s_1c), (Value.int .i64 i_2), (Value.slice v_3 v_3l v_3c)] w R :=
  V.calls_of_R ⟨V.assoc [], V.assocP [(11, V.line [0, 1, 2, 3, 4, 5, 6, 7, 8]), (15, V.line [0, 1, 2, 3, 4, 5, 6, 7, 8])], V.assocC [], V.assocS [], ⟨[81], true⟩⟩ Try.func68 rfl (Eq.mp (by kernel_rfl) h)

theorem slices_Equal___string_string__nf (s1_1 : Option Addr) (s1_1l : Nat) (s1_1c : Nat) (s2_2 : Option Addr) (s2_2l : Nat) (s2_2c : Nat) (w : World) (R : Ending → World → Prop) (h :
  V.sel (((s1_1l : Nat) : Int) != ((s2_2l : Nat) : Int))
  (R (Ending.returned (Value.bool false)) w)
  (∃ I3 : Int → World → Prop, ∃ μ4 : Int → World → Nat, I3 0 w ∧
  ∀ t13_5 (j6 : Nat → Value) (w7 : World), I3 t13_5 w7 →
  (V.sel (decide (t13_5 < ((s1_1l : Nat) : Int)))
  (V.when (decide ((0 : Int) ≤ t13_5 ∧ (t13_5 : Int) < ((s1_1l : Nat) : Int))) (V.ptr s1_1 fun a8 =>
  ∃ s9, World.cell? w7 (Addr.add a8 ((Int.toNat t13_5) * 1)) = some (Value.string s9) ∧
  V.when (decide ((0 : Int) ≤ t13_5 ∧ (t13_5 : Int) < ((s2_2l : Nat) : Int))) (V.ptr s2_2 fun a10 =>
  ∃ s11, World.cell? w7 (Addr.add a10 ((Int.toNat t13_5) * 1)) = some (Value.string s11) ∧
  V.sel (!(ByteArray.toList s9 == ByteArray.toList s11))
  (R (Ending.returned (Value.bool false)) (World.drew w7))
  (I3 (IntKind.wrap .i64 (t13_5 + 1)) (World.drew w7) ∧ μ4 (IntKind.wrap .i64 (t13_5 + 1)) (World.drew w7) < μ4 t13_5 w7))))
  (R (Ending.returned (Value.bool true)) w7)))) :
  Calls Try.prog 69 #[(Value.slice s1_1 s1_1l s1_1c), (Value.slice s2_2 s2_2l s2_2c)] w R :=
  V.calls_of_R ⟨V.assoc [(0, [13])], V.assocP [(6, V.line [0, 1, 2, 3, 4, 5, 6, 7, 8])], V.assocC [], V.assocS [], ⟨[], true⟩⟩ Try.func69 rfl (Eq.mp (by kernel_rfl) h)

theorem ordered_same_nf (a_1 : Option Addr) (b_2 : Option Addr) (w : World) (R : Ending → World → Prop) (h :
  ∃ S3 : World → Prop, S3 (World.drew w) ∧
  V.ptr a_1 fun a5 =>
  ∃ A6, ∃ A6l, ∃ A6c, (∀ w4, S3 w4 → World.cell? w4 (Addr.add a5 0) = some (Value.slice A6 A6l A6c)) ∧
  V.ptr b_2 fun a7 =>
  ∃ A8, ∃ A8l, ∃ A8c, (∀ w4, S3 w4 → World.cell? w4 (Addr.add a7 0) = some (Value.slice A8 A8l A8c)) ∧
  Calls Try.prog 83 #[(Value.slice A6 A6l A6c), (Value.slice A8 A8l A8c), (Value.func (.func 84) #[] #[])] (World.drew w) fun e10 w11 =>
  ∃ b9, e10 = Ending.returned (Value.bool b9) ∧
  S3 w11 ∧
  R (Ending.returned (Value.bool b9)) w11) :
  Calls Try.prog 70 #[(Value.pointer a_1), (Value.pointer b_2)] w R :=
  V.calls_of_R ⟨V.assoc [], V.assocP [(1, V.line [0, 1, 2, 3, 4, 5, 6, 7, 8, 9])], V.assocC [], V.assocS [], ⟨[], true⟩⟩ Try.func70 rfl (Eq.mp (by kernel_rfl) h)

theorem berthlaw08_World_asks_nf (w_1 : Option Addr) (o_2 : Int) (o_3 : Int) (o_4 : Int) (o_5 : ByteArray) (o_6 : Int) (o_7 : Int) (o_8 : Int) (o_9 : Option Addr) (o_9l : Nat) (o_9c : Nat) (i_10 : Int) (j_11 : Int) (w : World) (R : Ending → World → Prop) (h :
  ∀ w12, w12 = (World.alloc w (.cells #[(Value.int .i64 o_2), (Value.int .i64 o_3), (Value.int .i64 o_4), (Value.string o_5), (Value.int .i64 o_6), (Value.int .i64 o_7), (Value.int .i64 o_8), (Value.slice o_9 o_9l o_9c)] 50)) →
  ∃ S13 : World → Prop, S13 (World.drew w12) ∧
  V.ptr w_1 fun a15 =>
  V.when (decide ((0 : Int) ≤ i_10 ∧ (i_10 : Int) < 4)) (∃ p16, (∀ w14, S13 w14 → World.cell? w14 (Addr.add (Addr.add a15 0) ((Int.toNat i_10) * 1)) = some (Value.pointer p16)) ∧
  V.ptr w_1 fun a17 =>
  V.when (decide ((0 : Int) ≤ i_10 ∧ (i_10 : Int) < 4)) (∃ n18, ∃ A19, ∃ A19l, ∃ A19c, V.cellsC (fun a_ x_ => ∀ w14, S13 w14 → World.cell? w14 a_ = some x_) (Addr.add (Addr.add a17 4) ((Int.toNat i_10) * 2)) [(Value.int .i64 n18), (Value.slice A19 A19l A19c)] ∧
  ∀ w20, w20 = (World.alloc (World.drew w12) (.cells #[(Value.int .i64 0), (Value.slice none 0 0)] 58)) →
  S13 w20 ∧
  ∃ w21, Sem.run Try.prog (Instr.storeAt 58 (Value.pointer (some ⟨Array.size (World.heap (World.drew w12)), 0, none⟩)) (Value.agg #[(Value.int .i64 n18), (Value.slice A19 A19l A19c)])) w20 = .ok () w21 ∧
  ∃ n22, World.cell? w21 (Addr.add ⟨Array.size (World.heap w), 0, none⟩ 0) = some (Value.int .i64 n22) ∧
  V.sel (n22 == 4)
  (∃ s23, World.cell? w21 (Addr.add ⟨Array.size (World.heap w), 0, none⟩ 3) = some (Value.string s23) ∧
  ∃ n24, World.cell? w21 (Addr.add ⟨Array.size (World.heap w), 0, none⟩ 4) = some (Value.int .i64 n24) ∧
  Calls Try.prog 19 #[(Value.pointer p16), (Value.string s23), (Value.int .i64 n24)] w21 fun e27 w28 =>
  ∃ n25, ∃ b26, e27 = Ending.returned (Value.tuple #[(Value.int .i64 n25), (Value.bool b26)]) ∧
  ∃ n29, ∃ A30, ∃ A30l, ∃ A30c, V.cellsC (fun a_ x_ => World.cell? w28 a_ = some x_) ⟨Array.size (World.heap (World.drew w12)), 0, none⟩ [(Value.int .i64 n29), (Value.slice A30 A30l A30c)] ∧
  ∃ s31, World.cell? w28 (Addr.add ⟨Array.size (World.heap w), 0, none⟩ 3) = some (Value.string s31) ∧
  ∃ n32, World.cell? w28 (Addr.add ⟨Array.size (World.heap w), 0, none⟩ 4) = some (Value.int .i64 n32) ∧
  Calls Try.prog 80 #[(Value.agg #[(Value.int .i64 n29), (Value.slice A30 A30l A30c)]), (Value.string s31), (Value.int .i64 n32)] w28 fun e34 w35 =>
  ∃ n33, e34 = Ending.returned (Value.int .i64 n33) ∧
  V.sel (decide (n33 < 0))
  (V.sel (n25 == 0)
  (R (Ending.returned (Value.bool (!b26))) w35)
  (R (Ending.returned (Value.bool false)) w35))
  (V.sel b26
  (∃ A36, ∃ A36l, ∃ A36c, World.cell? w35 (Addr.add ⟨Array.size (World.heap (World.drew w12)), 0, none⟩ 1) = some (Value.slice A36 A36l A36c) ∧
  V.when (decide ((0 : Int) ≤ n33 ∧ (n33 : Int) < ((A36l : Nat) : Int))) (V.ptr A36 fun a37 =>
  ∃ n38, World.cell? w35 (Addr.add (Addr.add a37 ((Int.toNat n33) * 3)) 2) = some (Value.int .i64 n38) ∧
  R (Ending.returned (Value.bool (n25 == n38))) w35))
  (R (Ending.returned (Value.bool false)) w35)))
  (V.sel (n22 == 5)
  (∃ S39 : World → Prop, S39 (World.drew w21) ∧
  ∃ s41, (∀ w40, S39 w40 → World.cell? w40 (Addr.add ⟨Array.size (World.heap w), 0, none⟩ 3) = some (Value.string s41)) ∧
  ∃ n42, (∀ w40, S39 w40 → World.cell? w40 (Addr.add ⟨Array.size (World.heap w), 0, none⟩ 6) = some (Value.int .i64 n42)) ∧
  ∃ n43, (∀ w40, S39 w40 → World.cell? w40 (Addr.add ⟨Array.size (World.heap w), 0, none⟩ 5) = some (Value.int .i64 n43)) ∧
  ∃ n44, ∃ A45, ∃ A45l, ∃ A45c, V.cellsC (fun a_ x_ => ∀ w40, S39 w40 → World.cell? w40 a_ = some x_) ⟨Array.size (World.heap (World.drew w12)), 0, none⟩ [(Value.int .i64 n44), (Value.slice A45 A45l A45c)] ∧
  ∃ s46, (∀ w40, S39 w40 → World.cell? w40 (Addr.add ⟨Array.size (World.heap w), 0, none⟩ 3) = some (Value.string s46)) ∧
  ∃ n47, (∀ w40, S39 w40 → World.cell? w40 (Addr.add ⟨Array.size (World.heap w), 0, none⟩ 6) = some (Value.int .i64 n47)) ∧
  ∃ n48, (∀ w40, S39 w40 → World.cell? w40 (Addr.add ⟨Array.size (World.heap w), 0, none⟩ 5) = some (Value.int .i64 n48)) ∧
  Calls Try.prog 11 #[(Value.pointer p16), (Value.string s41), (Value.int .i64 n42), (Value.int .i64 n43)] (World.drew w21) fun e50 w51 =>
  ∃ p49, e50 = Ending.returned (Value.pointer p49) ∧
  S39 w51 ∧
  Calls Try.prog 85 #[(Value.agg #[(Value.int .i64 n44), (Value.slice A45 A45l A45c)]), (Value.string s46), (Value.int .i64 n47), (Value.int .i64 n48)] w51 fun e53 w54 =>
  ∃ A52, ∃ A52l, ∃ A52c, e53 = Ending.returned (Value.slice A52 A52l A52c) ∧
  S39 w54 ∧
  Calls Try.prog 61 #[(Value.pointer w_1), (Value.int .i64 i_10), (Value.pointer p49), (Value.slice A52 A52l A52c)] w54 fun e56 w57 =>
  ∃ b55, e56 = Ending.returned (Value.bool b55) ∧
  S39 w57 ∧
  R (Ending.returned (Value.bool b55)) w57)
  (V.sel (n22 == 6)
  (∃ S58 : World → Prop, S58 (World.drew w21) ∧
  ∃ s60, (∀ w59, S58 w59 → World.cell? w59 (Addr.add ⟨Array.size (World.heap w), 0, none⟩ 3) = some (Value.string s60)) ∧
  ∃ n61, (∀ w59, S58 w59 → World.cell? w59 (Addr.add ⟨Array.size (World.heap w), 0, none⟩ 5) = some (Value.int .i64 n61)) ∧
  ∃ n62, (∀ w59, S58 w59 → World.cell? w59 (Addr.add ⟨Array.size (World.heap w), 0, none⟩ 4) = some (Value.int .i64 n62)) ∧
  ∃ n63, ∃ A64, ∃ A64l, ∃ A64c, V.cellsC (fun a_ x_ => ∀ w59, S58 w59 → World.cell? w59 a_ = some x_) ⟨Array.size (World.heap (World.drew w12)), 0, none⟩ [(Value.int .i64 n63), (Value.slice A64 A64l A64c)] ∧
  ∃ s65, (∀ w59, S58 w59 → World.cell? w59 (Addr.add ⟨Array.size (World.heap w), 0, none⟩ 3) = some (Value.string s65)) ∧
  ∃ n66, (∀ w59, S58 w59 → World.cell? w59 (Addr.add ⟨Array.size (World.heap w), 0, none⟩ 5) = some (Value.int .i64 n66)) ∧
  ∃ n67, (∀ w59, S58 w59 → World.cell? w59 (Addr.add ⟨Array.size (World.heap w), 0, none⟩ 4) = some (Value.int .i64 n67)) ∧
  Calls Try.prog 17 #[(Value.pointer p16), (Value.string s60), (Value.int .i64 n61), (Value.int .i64 n62)] (World.drew w21) fun e69 w70 =>
  ∃ p68, e69 = Ending.returned (Value.pointer p68) ∧
  S58 w70 ∧
  Calls Try.prog 29 #[(Value.agg #[(Value.int .i64 n63), (Value.slice A64 A64l A64c)]), (Value.string s65), (Value.int .i64 n66), (Value.int .i64 n67)] w70 fun e72 w73 =>
  ∃ A71, ∃ A71l, ∃ A71c, e72 = Ending.returned (Value.slice A71 A71l A71c) ∧
  S58 w73 ∧
  Calls Try.prog 61 #[(Value.pointer w_1), (Value.int .i64 i_10), (Value.pointer p68), (Value.slice A71 A71l A71c)] w73 fun e75 w76 =>
  ∃ b74, e75 = Ending.returned (Value.bool b74) ∧
  S58 w76 ∧
  R (Ending.returned (Value.bool b74)) w76)
  (V.sel (n22 == 7)
  (∃ n77, ∃ A78, ∃ A78l, ∃ A78c, V.cellsC (fun a_ x_ => World.cell? w21 a_ = some x_) ⟨Array.size (World.heap (World.drew w12)), 0, none⟩ [(Value.int .i64 n77), (Value.slice A78 A78l A78c)] ∧
  ∃ s79, World.cell? w21 (Addr.add ⟨Array.size (World.heap w), 0, none⟩ 3) = some (Value.string s79) ∧
  ∃ A80, ∃ A80l, ∃ A80c, World.cell? w21 (Addr.add ⟨Array.size (World.heap w), 0, none⟩ 7) = some (Value.slice A80 A80l A80c) ∧
  Calls Try.prog 86 #[(Value.agg #[(Value.int .i64 n77), (Value.slice A78 A78l A78c)]), (Value.string s79), (Value.slice A80 A80l A80c)] w21 fun e82 w83 =>
  ∃ A81, ∃ A81l, ∃ A81c, e82 = Ending.returned (Value.slice A81 A81l A81c) ∧
  ∃ S84 : World → Prop, S84 (World.drew w83) ∧
  ∃ s86, (∀ w85, S84 w85 → World.cell? w85 (Addr.add ⟨Array.size (World.heap w), 0, none⟩ 3) = some (Value.string s86)) ∧
  ∃ A87, ∃ A87l, ∃ A87c, (∀ w85, S84 w85 → World.cell? w85 (Addr.add ⟨Array.size (World.heap w), 0, none⟩ 7) = some (Value.slice A87 A87l A87c)) ∧
  ∀ w88, w88 = (World.alloc (World.drew w83) (.cells #[] 3)) →
  S84 w88 ∧
  ∃ A89, ∃ A89l, ∃ A89c, ∃ w90, Sem.run Try.prog (Builtin.append_ #[37, 37] 37 #[(Value.slice (some ⟨Array.size (World.heap (World.drew w83)), 0, none⟩) 0 0), (Value.slice A87 A87l A87c)]) w88 = .ok (Value.slice A89 A89l A89c) w90 ∧
  S84 w90 ∧
  Calls Try.prog 16 #[(Value.pointer p16), (Value.string s86), (Value.slice A89 A89l A89c)] w90 fun e92 w93 =>
  ∃ p91, e92 = Ending.returned (Value.pointer p91) ∧
  S84 w93 ∧
  Calls Try.prog 61 #[(Value.pointer w_1), (Value.int .i64 i_10), (Value.pointer p91), (Value.slice A81 A81l A81c)] w93 fun e95 w96 =>
  ∃ b94, e95 = Ending.returned (Value.bool b94) ∧
  S84 w96 ∧
  R (Ending.returned (Value.bool b94)) w96)
  (V.sel (n22 == 8)
  (∃ S97 : World → Prop, S97 (World.drew w21) ∧
  ∃ s99, (∀ w98, S97 w98 → World.cell? w98 (Addr.add ⟨Array.size (World.heap w), 0, none⟩ 3) = some (Value.string s99)) ∧
  ∃ n100, ∃ A101, ∃ A101l, ∃ A101c, V.cellsC (fun a_ x_ => ∀ w98, S97 w98 → World.cell? w98 a_ = some x_) ⟨Array.size (World.heap (World.drew w12)), 0, none⟩ [(Value.int .i64 n100), (Value.slice A101 A101l A101c)] ∧
  ∃ s102, (∀ w98, S97 w98 → World.cell? w98 (Addr.add ⟨Array.size (World.heap w), 0, none⟩ 3) = some (Value.string s102)) ∧
  Calls Try.prog 10 #[(Value.pointer p16), (Value.string s99)] (World.drew w21) fun e104 w105 =>
  ∃ p103, e104 = Ending.returned (Value.pointer p103) ∧
  S97 w105 ∧
  Calls Try.prog 62 #[(Value.agg #[(Value.int .i64 n100), (Value.slice A101 A101l A101c)]), (Value.string s102)] w105 fun e107 w108 =>
  ∃ A106, ∃ A106l, ∃ A106c, e107 = Ending.returned (Value.slice A106 A106l A106c) ∧
  S97 w108 ∧
  Calls Try.prog 61 #[(Value.pointer w_1), (Value.int .i64 i_10), (Value.pointer p103), (Value.slice A106 A106l A106c)] w108 fun e110 w111 =>
  ∃ b109, e110 = Ending.returned (Value.bool b109) ∧
  S97 w111 ∧
  R (Ending.returned (Value.bool b109)) w111)
  (V.sel (n22 == 9)
  (∃ S112 : World → Prop, S112 (World.drew w21) ∧
  ∃ n114, ∃ A115, ∃ A115l, ∃ A115c, V.cellsC (fun a_ x_ => ∀ w113, S112 w113 → World.cell? w113 a_ = some x_) ⟨Array.size (World.heap (World.drew w12)), 0, none⟩ [(Value.int .i64 n114), (Value.slice A115 A115l A115c)] ∧
  Calls Try.prog 21 #[(Value.pointer p16)] (World.drew w21) fun e117 w118 =>
  ∃ A116, ∃ A116l, ∃ A116c, e117 = Ending.returned (Value.slice A116 A116l A116c) ∧
  S112 w118 ∧
  Calls Try.prog 60 #[(Value.agg #[(Value.int .i64 n114), (Value.slice A115 A115l A115c)])] w118 fun e120 w121 =>
  ∃ A119, ∃ A119l, ∃ A119c, e120 = Ending.returned (Value.slice A119 A119l A119c) ∧
  S112 w121 ∧
  Calls Try.prog 37 #[(Value.slice A116 A116l A116c), (Value.slice A119 A119l A119c)] w121 fun e123 w124 =>
  ∃ b122, e123 = Ending.returned (Value.bool b122) ∧
  S112 w124 ∧
  R (Ending.returned (Value.bool b122)) w124)
  (V.sel (n22 == 10)
  (∃ s125, World.cell? w21 (Addr.add ⟨Array.size (World.heap w), 0, none⟩ 3) = some (Value.string s125) ∧
  ∃ n126, World.cell? w21 (Addr.add ⟨Array.size (World.heap w), 0, none⟩ 4) = some (Value.int .i64 n126) ∧
  Calls Try.prog 63 #[(Value.pointer w_1), (Value.int .i64 i_10), (Value.string s125), (Value.int .i64 n126)] w21 fun e128 w129 =>
  ∃ b127, e128 = Ending.returned (Value.bool b127) ∧
  R (Ending.returned (Value.bool b127)) w129)
  (V.sel (n22 == 11)
  (∃ S130 : World → Prop, S130 (World.drew w21) ∧
  V.ptr w_1 fun a132 =>
  V.when (decide ((0 : Int) ≤ j_11 ∧ (j_11 : Int) < 4)) (∃ p133, (∀ w131, S130 w131 → World.cell? w131 (Addr.add (Addr.add a132 0) ((Int.toNat j_11) * 1)) = some (Value.pointer p133)) ∧
  ∃ n134, ∃ A135, ∃ A135l, ∃ A135c, V.cellsC (fun a_ x_ => ∀ w131, S130 w131 → World.cell? w131 a_ = some x_) ⟨Array.size (World.heap (World.drew w12)), 0, none⟩ [(Value.int .i64 n134), (Value.slice A135 A135l A135c)] ∧
  V.ptr w_1 fun a136 =>
  V.when (decide ((0 : Int) ≤ j_11 ∧ (j_11 : Int) < 4)) (∃ n137, ∃ A138, ∃ A138l, ∃ A138c, V.cellsC (fun a_ x_ => ∀ w131, S130 w131 → World.cell? w131 a_ = some x_) (Addr.add (Addr.add a136 4) ((Int.toNat j_11) * 2)) [(Value.int .i64 n137), (Value.slice A138 A138l A138c)] ∧
  Calls Try.prog 36 #[(Value.pointer p16), (Value.pointer p133)] (World.drew w21) fun e140 w141 =>
  ∃ b139, e140 = Ending.returned (Value.bool b139) ∧
  S130 w141 ∧
  Calls Try.prog 87 #[(Value.agg #[(Value.int .i64 n134), (Value.slice A135 A135l A135c)]), (Value.agg #[(Value.int .i64 n137), (Value.slice A138 A138l A138c)])] w141 fun e143 w144 =>
  ∃ b142, e143 = Ending.returned (Value.bool b142) ∧
  S130 w144 ∧
  R (Ending.returned (Value.bool (b139 == b142))) w144)))
  (R (Ending.returned (Value.bool true)) w21))))))))))) :
  Calls Try.prog 71 #[(Value.pointer w_1), (Value.agg #[(Value.int .i64 o_2), (Value.int .i64 o_3), (Value.int .i64 o_4), (Value.string o_5), (Value.int .i64 o_6), (Value.int .i64 o_7), (Value.int .i64 o_8), (Value.slice o_9 o_9l o_9c)]), (Value.int .i64 i_10), (Value.int .i64 j_11)] w R :=
  V.calls_of_R ⟨V.assoc [], V.assocP [(1, V.line [0, 1, 2, 3, 4, 5, 6, 7, 8, 9, 10, 11, 12, 13, 14]), (10, V.line [0, 1, 2, 3, 4, 5, 6, 7, 8, 10, 11, 12, 13, 14, 15, 16, 9, 17, 18, 19]), (12, V.line [0, 1, 2, 3, 4, 5, 6, 7, 8, 10, 11, 12, 13, 14, 15, 16, 9, 17, 18, 19]), (15, V.line [0, 1, 2, 3, 4, 6, 7, 10, 5, 8, 9, 11, 12]), (17, V.line [0, 1, 2, 3, 4, 6, 7, 8, 5, 9, 10, 11]), (19, V.line [0, 2, 1, 3, 4, 5]), (23, V.line [0, 1, 2, 3, 4, 5, 6, 8, 9, 10, 11, 12, 13, 14, 7, 15, 16, 17])], V.assocC [], V.assocS [], ⟨[], true⟩⟩ Try.func71 rfl (Eq.mp (by kernel_rfl) h)

theorem ordered_column_from_l1_nf (yl : Nat) (free0_1 : Option Addr) (free1_2 : Option Addr) (free2_3 : Option Addr) (w : World) (R : Ending → World → Prop) (h :
  V.ptr free0_1 fun a4 =>
  ∃ p5, World.cell? w a4 = some (Value.pointer p5) ∧
  V.ptr free1_2 fun a6 =>
  ∃ n7, World.cell? w a6 = some (Value.int .i64 n7) ∧
  Calls Try.prog 65 #[(Value.pointer p5), (Value.int .i64 n7)] w fun e9 w10 =>
  ∃ n8, e9 = Ending.returned (Value.int .i64 n8) ∧
  ∃ I11 : Int → World → Prop, ∃ μ12 : Int → World → Nat, I11 n8 w10 ∧
  ∀ i_13 (j14 : Nat → Value) (w15 : World), I11 i_13 w15 →
  (V.ptr free0_1 fun a16 =>
  ∃ p17, World.cell? w15 a16 = some (Value.pointer p17) ∧
  V.ptr p17 fun a18 =>
  ∃ A19, ∃ A19l, ∃ A19c, World.cell? w15 (Addr.add a18 0) = some (Value.slice A19 A19l A19c) ∧
  V.sel (decide (i_13 < ((A19l : Nat) : Int)))
  (V.ptr free0_1 fun a20 =>
  ∃ p21, World.cell? w15 a20 = some (Value.pointer p21) ∧
  V.ptr p21 fun a22 =>
  ∃ A23, ∃ A23l, ∃ A23c, World.cell? w15 (Addr.add a22 0) = some (Value.slice A23 A23l A23c) ∧
  V.when (decide ((0 : Int) ≤ i_13 ∧ (i_13 : Int) < ((A23l : Nat) : Int))) (V.ptr A23 fun a24 =>
  ∃ n25, World.cell? w15 (Addr.add (Addr.add a24 ((Int.toNat i_13) * 2)) 0) = some (Value.int .i64 n25) ∧
  V.ptr free2_3 fun a26 =>
  ∃ n27, World.cell? w15 a26 = some (Value.int .i64 n27) ∧
  V.sel (decide (n25 ≤ n27))
  (∃ S28 : World → Prop, S28 (World.drew (World.drew w15)) ∧
  V.ptr free0_1 fun a30 =>
  ∃ p31, (∀ w29, S28 w29 → World.cell? w29 a30 = some (Value.pointer p31)) ∧
  V.ptr p31 fun a32 =>
  ∃ A33, ∃ A33l, ∃ A33c, (∀ w29, S28 w29 → World.cell? w29 (Addr.add a32 0) = some (Value.slice A33 A33l A33c)) ∧
  V.when (decide ((0 : Int) ≤ i_13 ∧ (i_13 : Int) < ((A33l : Nat) : Int))) (V.ptr A33 fun a34 =>
  ∃ n35, (∀ w29, S28 w29 → World.cell? w29 (Addr.add (Addr.add a34 ((Int.toNat i_13) * 2)) 0) = some (Value.int .i64 n35)) ∧
  V.ptr free0_1 fun a36 =>
  ∃ p37, (∀ w29, S28 w29 → World.cell? w29 a36 = some (Value.pointer p37)) ∧
  V.ptr p37 fun a38 =>
  ∃ A39, ∃ A39l, ∃ A39c, (∀ w29, S28 w29 → World.cell? w29 (Addr.add a38 0) = some (Value.slice A39 A39l A39c)) ∧
  V.when (decide ((0 : Int) ≤ i_13 ∧ (i_13 : Int) < ((A39l : Nat) : Int))) (V.ptr A39 fun a40 =>
  ∃ p41, (∀ w29, S28 w29 → World.cell? w29 (Addr.add (Addr.add a40 ((Int.toNat i_13) * 2)) 1) = some (Value.pointer p41)) ∧
  V.Yield Try.prog yl [(Value.int .i64 n35), (Value.pointer p41)] (World.drew (World.drew w15)) fun e43 w44 =>
  ∃ b42, e43 = Ending.returned (Value.bool b42) ∧
  S28 w44 ∧
  V.sel (!b42)
  (R (Ending.returned undef) w44)
  (I11 (IntKind.wrap .i64 (i_13 + 1)) w44 ∧ μ12 (IntKind.wrap .i64 (i_13 + 1)) w44 < μ12 i_13 w15))))
  (R (Ending.returned undef) (World.drew w15))))
  (R (Ending.returned undef) (World.drew w15)))) :
  Calls Try.prog 76 #[(Value.func (.yield yl) #[] #[]), (Value.pointer free0_1), (Value.pointer free1_2), (Value.pointer free2_3)] w R :=
  V.calls_of_R ⟨V.assoc [(0, [5])], V.assocP [(1, V.line [0, 1, 2, 3, 4, 5, 6, 7, 8, 9, 10, 11, 12, 13, 14, 15, 16, 17, 18]), (3, V.line [0, 1, 2, 3, 4, 5, 6, 7, 8, 9, 10, 11, 12, 13, 14, 15, 16, 17, 18])], V.assocC [], V.assocS [], ⟨[], true⟩⟩ Try.func76 rfl (Eq.mp (by kernel_rfl) h)

theorem berthref08_Index_wrong_nf (x_1 : Int) (x_2 : Option Addr) (x_2l : Nat) (x_2c : Nat) (key_3 : ByteArray) (slot_4 : Int) (w : World) (R : Ending → World → Prop) (h :
  ∀ w5, w5 = (World.alloc w (.cells #[(Value.int .i64 x_1), (Value.slice x_2 x_2l x_2c)] 58)) →
  V.sel (ByteArray.toList key_3 == ByteArray.toList ByteArray.empty)
  (R (Ending.returned (Value.int .i64 80)) w5)
  (V.sel (decide (slot_4 < 0))
  (R (Ending.returned (Value.int .i64 81)) w5)
  (∃ n6, World.cell? w5 (Addr.add ⟨Array.size (World.heap w), 0, none⟩ 0) = some (Value.int .i64 n6) ∧
  V.sel (decide (slot_4 ≥ n6))
  (R (Ending.returned (Value.int .i64 81)) w5)
  (R (Ending.returned (Value.int .i64 0)) w5)))) :
  Calls Try.prog 79 #[(Value.agg #[(Value.int .i64 x_1), (Value.slice x_2 x_2l x_2c)]), (Value.string key_3), (Value.int .i64 slot_4)] w R :=
  V.calls_of_R ⟨V.assoc [], V.assocP [], V.assocC [], V.assocS [], ⟨[], true⟩⟩ Try.func79 rfl (Eq.mp (by kernel_rfl) h)

theorem berthref08_Index_At_nf (x_1 : Int) (x_2 : Option Addr) (x_2l : Nat) (x_2c : Nat) (key_3 : ByteArray) (slot_4 : Int) (w : World) (R : Ending → World → Prop) (h :
  ∀ w5, w5 = (World.alloc w (.cells #[(Value.int .i64 x_1), (Value.slice x_2 x_2l x_2c)] 58)) →
  ∃ I6 : Int → World → Prop, ∃ μ7 : Int → World → Nat, I6 0 w5 ∧
  ∀ i_8 (j9 : Nat → Value) (w10 : World), I6 i_8 w10 →
  (∃ A11, ∃ A11l, ∃ A11c, World.cell? w10 (Addr.add ⟨Array.size (World.heap w), 0, none⟩ 1) = some (Value.slice A11 A11l A11c) ∧
  V.sel (decide (i_8 < ((A11l : Nat) : Int)))
  (∃ A12, ∃ A12l, ∃ A12c, World.cell? w10 (Addr.add ⟨Array.size (World.heap w), 0, none⟩ 1) = some (Value.slice A12 A12l A12c) ∧
  V.when (decide ((0 : Int) ≤ i_8 ∧ (i_8 : Int) < ((A12l : Nat) : Int))) (V.ptr A12 fun a13 =>
  ∃ s14, World.cell? w10 (Addr.add (Addr.add a13 ((Int.toNat i_8) * 3)) 0) = some (Value.string s14) ∧
  V.sel (ByteArray.toList s14 == ByteArray.toList key_3)
  (∃ A15, ∃ A15l, ∃ A15c, World.cell? w10 (Addr.add ⟨Array.size (World.heap w), 0, none⟩ 1) = some (Value.slice A15 A15l A15c) ∧
  V.when (decide ((0 : Int) ≤ i_8 ∧ (i_8 : Int) < ((A15l : Nat) : Int))) (V.ptr A15 fun a16 =>
  ∃ n17, World.cell? w10 (Addr.add (Addr.add a16 ((Int.toNat i_8) * 3)) 1) = some (Value.int .i64 n17) ∧
  V.sel (n17 == slot_4)
  (R (Ending.returned (Value.int .i64 i_8)) w10)
  (I6 (IntKind.wrap .i64 (i_8 + 1)) w10 ∧ μ7 (IntKind.wrap .i64 (i_8 + 1)) w10 < μ7 i_8 w10)))
  (I6 (IntKind.wrap .i64 (i_8 + 1)) w10 ∧ μ7 (IntKind.wrap .i64 (i_8 + 1)) w10 < μ7 i_8 w10)))
  (R (Ending.returned (Value.int .i64 (-1))) w10))) :
  Calls Try.prog 80 #[(Value.agg #[(Value.int .i64 x_1), (Value.slice x_2 x_2l x_2c)]), (Value.string key_3), (Value.int .i64 slot_4)] w R :=
  V.calls_of_R ⟨V.assoc [(0, [7])], V.assocP [], V.assocC [], V.assocS [], ⟨[], true⟩⟩ Try.func80 rfl (Eq.mp (by kernel_rfl) h)

theorem slices_EqualFunc___ordered_row___ordered_row_ordered_row_ordered_row__nf (s1_1 : Option Addr) (s1_1l : Nat) (s1_1c : Nat) (s2_2 : Option Addr) (s2_2l : Nat) (s2_2c : Nat) (eq_f3 : Nat) (eq_a4 : Array Value) (eq_c5 : Array Value) (w : World) (R : Ending → World → Prop) (h :
  V.sel (((s1_1l : Nat) : Int) != ((s2_2l : Nat) : Int))
  (R (Ending.returned (Value.bool false)) w)
  (∃ I6 : Int → World → Prop, ∃ μ7 : Int → World → Nat, I6 0 w ∧
  ∀ t17_8 (j9 : Nat → Value) (w10 : World), I6 t17_8 w10 →
  (V.sel (decide (t17_8 < ((s1_1l : Nat) : Int)))
  (V.when (decide ((0 : Int) ≤ t17_8 ∧ (t17_8 : Int) < ((s1_1l : Nat) : Int))) (V.ptr s1_1 fun a11 =>
  ∃ n12, ∃ p13, V.cellsC (fun a_ x_ => World.cell? w10 a_ = some x_) (Addr.add a11 ((Int.toNat t17_8) * 2)) [(Value.int .i64 n12), (Value.pointer p13)] ∧
  ∀ w14, w14 = (World.alloc w10 (.cells #[(Value.int .i64 0), (Value.pointer none)] 99)) →
  ∃ w15, Sem.run Try.prog (Instr.storeAt 99 (Value.pointer (some ⟨Array.size (World.heap w10), 0, none⟩)) (Value.agg #[(Value.int .i64 n12), (Value.pointer p13)])) w14 = .ok () w15 ∧
  V.when (decide ((0 : Int) ≤ t17_8 ∧ (t17_8 : Int) < ((s2_2l : Nat) : Int))) (V.ptr s2_2 fun a16 =>
  ∃ n17, ∃ p18, V.cellsC (fun a_ x_ => World.cell? w15 a_ = some x_) (Addr.add a16 ((Int.toNat t17_8) * 2)) [(Value.int .i64 n17), (Value.pointer p18)] ∧
  ∀ w19, w19 = (World.alloc w15 (.cells #[(Value.int .i64 0), (Value.pointer none)] 99)) →
  ∃ w20, Sem.run Try.prog (Instr.storeAt 99 (Value.pointer (some ⟨Array.size (World.heap w15), 0, none⟩)) (Value.agg #[(Value.int .i64 n17), (Value.pointer p18)])) w19 = .ok () w20 ∧
  ∃ n21, ∃ p22, V.cellsC (fun a_ x_ => World.cell? w20 a_ = some x_) ⟨Array.size (World.heap w10), 0, none⟩ [(Value.int .i64 n21), (Value.pointer p22)] ∧
  ∃ n23, ∃ p24, V.cellsC (fun a_ x_ => World.cell? w20 a_ = some x_) ⟨Array.size (World.heap w15), 0, none⟩ [(Value.int .i64 n23), (Value.pointer p24)] ∧
  V.when (V.hasB Try.prog eq_f3) (Calls Try.prog eq_f3 ⟨Array.toList eq_a4 ++ [(Value.agg #[(Value.int .i64 n21), (Value.pointer p22)]), (Value.agg #[(Value.int .i64 n23), (Value.pointer p24)])] ++ Array.toList eq_c5⟩ w20 fun e26 w27 =>
  ∃ b25, e26 = Ending.returned (Value.bool b25) ∧
  V.sel (!b25)
  (R (Ending.returned (Value.bool false)) w27)
  (I6 (IntKind.wrap .i64 (t17_8 + 1)) w27 ∧ μ7 (IntKind.wrap .i64 (t17_8 + 1)) w27 < μ7 t17_8 w10)))))
  (R (Ending.returned (Value.bool true)) w10)))) :
  Calls Try.prog 83 #[(Value.slice s1_1 s1_1l s1_1c), (Value.slice s2_2 s2_2l s2_2c), (Value.func (.func eq_f3) eq_a4 eq_c5)] w R :=
  V.calls_of_R ⟨V.assoc [(0, [17])], V.assocP [], V.assocC [], V.assocS [], ⟨[], true⟩⟩ Try.func83 rfl (Eq.mp (by kernel_rfl) h)

theorem ordered_same_l1_nf (r_1 : Int) (r_2 : Option Addr) (s_3 : Int) (s_4 : Option Addr) (w : World) (R : Ending → World → Prop) (h :
  ∀ w5, w5 = (World.alloc w (.cells #[(Value.int .i64 r_1), (Value.pointer r_2)] 99)) →
  ∀ w6, w6 = (World.alloc w5 (.cells #[(Value.int .i64 s_3), (Value.pointer s_4)] 99)) →
  ∃ n7, World.cell? w6 (Addr.add ⟨Array.size (World.heap w), 0, none⟩ 0) = some (Value.int .i64 n7) ∧
  ∃ n8, World.cell? w6 (Addr.add ⟨Array.size (World.heap w5), 0, none⟩ 0) = some (Value.int .i64 n8) ∧
  V.sel (n7 == n8)
  (∃ p9, World.cell? w6 (Addr.add ⟨Array.size (World.heap w), 0, none⟩ 1) = some (Value.pointer p9) ∧
  ∃ p10, World.cell? w6 (Addr.add ⟨Array.size (World.heap w5), 0, none⟩ 1) = some (Value.pointer p10) ∧
  Calls Try.prog 14 #[(Value.pointer p9), (Value.pointer p10)] w6 fun e12 w13 =>
  ∃ b11, e12 = Ending.returned (Value.bool b11) ∧
  R (Ending.returned (Value.bool b11)) w13)
  (R (Ending.returned (Value.bool false)) w6)) :
  Calls Try.prog 84 #[(Value.agg #[(Value.int .i64 r_1), (Value.pointer r_2)]), (Value.agg #[(Value.int .i64 s_3), (Value.pointer s_4)])] w R :=
  V.calls_of_R ⟨V.assoc [], V.assocP [], V.assocC [], V.assocS [], ⟨[], true⟩⟩ Try.func84 rfl (Eq.mp (by kernel_rfl) h)

theorem berthref08_Index_Find_nf (x_1 : Int) (x_2 : Option Addr) (x_2l : Nat) (x_2c : Nat) (key_3 : ByteArray) (cmp_4 : Int) (n_5 : Int) (w : World) (R : Ending → World → Prop) (h :
  ∀ w6, w6 = (World.alloc w (.cells #[(Value.int .i64 x_1), (Value.slice x_2 x_2l x_2c)] 58)) →
  ∀ w7, w7 = (World.alloc w6 (.cells #[] 3)) →
  ∃ I8 : Option Addr → Nat → Nat → Int → World → Prop, ∃ μ9 : Option Addr → Nat → Nat → Int → World → Nat, I8 (some ⟨Array.size (World.heap w6), 0, none⟩) 0 0 0 w7 ∧
  ∀ all_10 all_10l all_10c i_11 (j12 : Nat → Value) (w13 : World), I8 all_10 all_10l all_10c i_11 w13 →
  (∃ A14, ∃ A14l, ∃ A14c, World.cell? w13 (Addr.add ⟨Array.size (World.heap w), 0, none⟩ 1) = some (Value.slice A14 A14l A14c) ∧
  V.sel (decide (i_11 < ((A14l : Nat) : Int)))
  (∃ A15, ∃ A15l, ∃ A15c, World.cell? w13 (Addr.add ⟨Array.size (World.heap w), 0, none⟩ 1) = some (Value.slice A15 A15l A15c) ∧
  V.when (decide ((0 : Int) ≤ i_11 ∧ (i_11 : Int) < ((A15l : Nat) : Int))) (V.ptr A15 fun a16 =>
  ∃ s17, World.cell? w13 (Addr.add (Addr.add a16 ((Int.toNat i_11) * 3)) 0) = some (Value.string s17) ∧
  V.sel (ByteArray.toList s17 == ByteArray.toList key_3)
  (∃ A18, ∃ A18l, ∃ A18c, World.cell? w13 (Addr.add ⟨Array.size (World.heap w), 0, none⟩ 1) = some (Value.slice A18 A18l A18c) ∧
  V.when (decide ((0 : Int) ≤ i_11 ∧ (i_11 : Int) < ((A18l : Nat) : Int))) (V.ptr A18 fun a19 =>
  ∃ n20, World.cell? w13 (Addr.add (Addr.add a19 ((Int.toNat i_11) * 3)) 2) = some (Value.int .i64 n20) ∧
  Calls Try.prog 100 #[(Value.int .i64 n20), (Value.int .i64 cmp_4), (Value.int .i64 n_5)] w13 fun e22 w23 =>
  ∃ b21, e22 = Ending.returned (Value.bool b21) ∧
  V.sel b21
  (∃ A24, ∃ A24l, ∃ A24c, World.cell? w23 (Addr.add ⟨Array.size (World.heap w), 0, none⟩ 1) = some (Value.slice A24 A24l A24c) ∧
  V.when (decide ((0 : Int) ≤ i_11 ∧ (i_11 : Int) < ((A24l : Nat) : Int))) (V.ptr A24 fun a25 =>
  ∃ n26, World.cell? w23 (Addr.add (Addr.add a25 ((Int.toNat i_11) * 3)) 1) = some (Value.int .i64 n26) ∧
  ∀ w27, w27 = (World.alloc w23 (.cells #[(Value.int .i64 n26)] 3)) →
  ∃ A28, ∃ A28l, ∃ A28c, ∃ w29, Sem.run Try.prog (Builtin.append_ #[37, 37] 37 #[(Value.slice all_10 all_10l all_10c), (Value.slice (some ⟨Array.size (World.heap w23), 0, none⟩) 1 1)]) w27 = .ok (Value.slice A28 A28l A28c) w29 ∧
  I8 A28 A28l A28c (IntKind.wrap .i64 (i_11 + 1)) w29 ∧ μ9 A28 A28l A28c (IntKind.wrap .i64 (i_11 + 1)) w29 < μ9 all_10 all_10l all_10c i_11 w13))
  (I8 all_10 all_10l all_10c (IntKind.wrap .i64 (i_11 + 1)) w23 ∧ μ9 all_10 all_10l all_10c (IntKind.wrap .i64 (i_11 + 1)) w23 < μ9 all_10 all_10l all_10c i_11 w13)))
  (I8 all_10 all_10l all_10c (IntKind.wrap .i64 (i_11 + 1)) w13 ∧ μ9 all_10 all_10l all_10c (IntKind.wrap .i64 (i_11 + 1)) w13 < μ9 all_10 all_10l all_10c i_11 w13)))
  (Calls Try.prog 57 #[(Value.slice all_10 all_10l all_10c)] w13 fun e31 w32 =>
  ∃ A30, ∃ A30l, ∃ A30c, e31 = Ending.returned (Value.slice A30 A30l A30c) ∧
  R (Ending.returned (Value.slice A30 A30l A30c)) w32))) :
  Calls Try.prog 85 #[(Value.agg #[(Value.int .i64 x_1), (Value.slice x_2 x_2l x_2c)]), (Value.string key_3), (Value.int .i64 cmp_4), (Value.int .i64 n_5)] w R :=
  V.calls_of_R ⟨V.assoc [(0, [9, 10])], V.assocP [], V.assocC [], V.assocS [], ⟨[], true⟩⟩ Try.func85 rfl (Eq.mp (by kernel_rfl) h)

theorem berthref08_Index_Among_nf (x_1 : Int) (x_2 : Option Addr) (x_2l : Nat) (x_2c : Nat) (key_3 : ByteArray) (ns_4 : Option Addr) (ns_4l : Nat) (ns_4c : Nat) (w : World) (R : Ending → World → Prop) (h :
  ∀ w5, w5 = (World.alloc w (.cells #[(Value.int .i64 x_1), (Value.slice x_2 x_2l x_2c)] 58)) →
  ∀ w6, w6 = (World.alloc w5 (.cells #[] 3)) →
  ∃ I7 : Option Addr → Nat → Nat → Int → World → Prop, ∃ μ8 : Option Addr → Nat → Nat → Int → World → Nat, I7 (some ⟨Array.size (World.heap w5), 0, none⟩) 0 0 0 w6 ∧
  ∀ all_9 all_9l all_9c i_10 (j11 : Nat → Value) (w12 : World), I7 all_9 all_9l all_9c i_10 w12 →
  (∃ A13, ∃ A13l, ∃ A13c, World.cell? w12 (Addr.add ⟨Array.size (World.heap w), 0, none⟩ 1) = some (Value.slice A13 A13l A13c) ∧
  V.sel (decide (i_10 < ((A13l : Nat) : Int)))
  (∃ I14 : Option Addr → Nat → Nat → Int → World → Prop, ∃ μ15 : Option Addr → Nat → Nat → Int → World → Nat, I14 all_9 all_9l all_9c 0 w12 ∧
  ∀ all_16 all_16l all_16c j_17 (j18 : Nat → Value) (w19 : World), I14 all_16 all_16l all_16c j_17 w19 →
  (V.sel (decide (j_17 < ((ns_4l : Nat) : Int)))
  (∃ A20, ∃ A20l, ∃ A20c, World.cell? w19 (Addr.add ⟨Array.size (World.heap w), 0, none⟩ 1) = some (Value.slice A20 A20l A20c) ∧
  V.when (decide ((0 : Int) ≤ i_10 ∧ (i_10 : Int) < ((A20l : Nat) : Int))) (V.ptr A20 fun a21 =>
  ∃ s22, World.cell? w19 (Addr.add (Addr.add a21 ((Int.toNat i_10) * 3)) 0) = some (Value.string s22) ∧
  V.sel (ByteArray.toList s22 == ByteArray.toList key_3)
  (∃ A23, ∃ A23l, ∃ A23c, World.cell? w19 (Addr.add ⟨Array.size (World.heap w), 0, none⟩ 1) = some (Value.slice A23 A23l A23c) ∧
  V.when (decide ((0 : Int) ≤ i_10 ∧ (i_10 : Int) < ((A23l : Nat) : Int))) (V.ptr A23 fun a24 =>
  ∃ n25, World.cell? w19 (Addr.add (Addr.add a24 ((Int.toNat i_10) * 3)) 2) = some (Value.int .i64 n25) ∧
  V.when (decide ((0 : Int) ≤ j_17 ∧ (j_17 : Int) < ((ns_4l : Nat) : Int))) (V.ptr ns_4 fun a26 =>
  ∃ n27, World.cell? w19 (Addr.add a26 ((Int.toNat j_17) * 1)) = some (Value.int .i64 n27) ∧
  V.sel (n25 == n27)
  (∃ A28, ∃ A28l, ∃ A28c, World.cell? (World.drew w19) (Addr.add ⟨Array.size (World.heap w), 0, none⟩ 1) = some (Value.slice A28 A28l A28c) ∧
  V.when (decide ((0 : Int) ≤ i_10 ∧ (i_10 : Int) < ((A28l : Nat) : Int))) (V.ptr A28 fun a29 =>
  ∃ n30, World.cell? (World.drew w19) (Addr.add (Addr.add a29 ((Int.toNat i_10) * 3)) 1) = some (Value.int .i64 n30) ∧
  ∀ w31, w31 = (World.alloc (World.drew w19) (.cells #[(Value.int .i64 n30)] 3)) →
  ∃ A32, ∃ A32l, ∃ A32c, ∃ w33, Sem.run Try.prog (Builtin.append_ #[37, 37] 37 #[(Value.slice all_16 all_16l all_16c), (Value.slice (some ⟨Array.size (World.heap (World.drew w19)), 0, none⟩) 1 1)]) w31 = .ok (Value.slice A32 A32l A32c) w33 ∧
  I14 A32 A32l A32c (IntKind.wrap .i64 (j_17 + 1)) w33 ∧ μ15 A32 A32l A32c (IntKind.wrap .i64 (j_17 + 1)) w33 < μ15 all_16 all_16l all_16c j_17 w19))
  (I14 all_16 all_16l all_16c (IntKind.wrap .i64 (j_17 + 1)) (World.drew w19) ∧ μ15 all_16 all_16l all_16c (IntKind.wrap .i64 (j_17 + 1)) (World.drew w19) < μ15 all_16 all_16l all_16c j_17 w19))))
  (I14 all_16 all_16l all_16c (IntKind.wrap .i64 (j_17 + 1)) (World.drew w19) ∧ μ15 all_16 all_16l all_16c (IntKind.wrap .i64 (j_17 + 1)) (World.drew w19) < μ15 all_16 all_16l all_16c j_17 w19)))
  (I7 all_16 all_16l all_16c (IntKind.wrap .i64 (i_10 + 1)) w19 ∧ μ8 all_16 all_16l all_16c (IntKind.wrap .i64 (i_10 + 1)) w19 < μ8 all_9 all_9l all_9c i_10 w12)))
  (Calls Try.prog 57 #[(Value.slice all_9 all_9l all_9c)] w12 fun e35 w36 =>
  ∃ A34, ∃ A34l, ∃ A34c, e35 = Ending.returned (Value.slice A34 A34l A34c) ∧
  R (Ending.returned (Value.slice A34 A34l A34c)) w36))) :
  Calls Try.prog 86 #[(Value.agg #[(Value.int .i64 x_1), (Value.slice x_2 x_2l x_2c)]), (Value.string key_3), (Value.slice ns_4 ns_4l ns_4c)] w R :=
  V.calls_of_R ⟨V.assoc [(0, [7, 8]), (1, [7, 9])], V.assocP [(8, V.line [0, 1, 2, 3, 4, 5, 6, 7, 8, 9, 10, 11, 12, 13, 14, 15, 16, 17, 18, 19, 20])], V.assocC [], V.assocS [], ⟨[], true⟩⟩ Try.func86 rfl (Eq.mp (by kernel_rfl) h)

theorem berthref08_Same_nf (a_1 : Int) (a_2 : Option Addr) (a_2l : Nat) (a_2c : Nat) (b_3 : Int) (b_4 : Option Addr) (b_4l : Nat) (b_4c : Nat) (w : World) (R : Ending → World → Prop) (h :
  ∀ w5, w5 = (World.alloc w (.cells #[(Value.int .i64 a_1), (Value.slice a_2 a_2l a_2c)] 58)) →
  ∀ w6, w6 = (World.alloc w5 (.cells #[(Value.int .i64 b_3), (Value.slice b_4 b_4l b_4c)] 58)) →
  ∃ A7, ∃ A7l, ∃ A7c, World.cell? w6 (Addr.add ⟨Array.size (World.heap w), 0, none⟩ 1) = some (Value.slice A7 A7l A7c) ∧
  ∃ A8, ∃ A8l, ∃ A8c, World.cell? w6 (Addr.add ⟨Array.size (World.heap w5), 0, none⟩ 1) = some (Value.slice A8 A8l A8c) ∧
  V.sel (((A7l : Nat) : Int) != ((A8l : Nat) : Int))
  (R (Ending.returned (Value.bool false)) w6)
  (∃ I9 : Int → World → Prop, ∃ μ10 : Int → World → Nat, I9 0 w6 ∧
  ∀ i_11 (j12 : Nat → Value) (w13 : World), I9 i_11 w13 →
  (∃ A14, ∃ A14l, ∃ A14c, World.cell? w13 (Addr.add ⟨Array.size (World.heap w), 0, none⟩ 1) = some (Value.slice A14 A14l A14c) ∧
  V.sel (decide (i_11 < ((A14l : Nat) : Int)))
  (∃ S15 : World → Prop, S15 (World.drew w13) ∧
  ∃ n17, ∃ A18, ∃ A18l, ∃ A18c, V.cellsC (fun a_ x_ => ∀ w16, S15 w16 → World.cell? w16 a_ = some x_) ⟨Array.size (World.heap w5), 0, none⟩ [(Value.int .i64 n17), (Value.slice A18 A18l A18c)] ∧
  ∃ A19, ∃ A19l, ∃ A19c, (∀ w16, S15 w16 → World.cell? w16 (Addr.add ⟨Array.size (World.heap w), 0, none⟩ 1) = some (Value.slice A19 A19l A19c)) ∧
  V.when (decide ((0 : Int) ≤ i_11 ∧ (i_11 : Int) < ((A19l : Nat) : Int))) (V.ptr A19 fun a20 =>
  ∃ s21, (∀ w16, S15 w16 → World.cell? w16 (Addr.add (Addr.add a20 ((Int.toNat i_11) * 3)) 0) = some (Value.string s21)) ∧
  ∃ A22, ∃ A22l, ∃ A22c, (∀ w16, S15 w16 → World.cell? w16 (Addr.add ⟨Array.size (World.heap w), 0, none⟩ 1) = some (Value.slice A22 A22l A22c)) ∧
  V.when (decide ((0 : Int) ≤ i_11 ∧ (i_11 : Int) < ((A22l : Nat) : Int))) (V.ptr A22 fun a23 =>
  ∃ n24, (∀ w16, S15 w16 → World.cell? w16 (Addr.add (Addr.add a23 ((Int.toNat i_11) * 3)) 1) = some (Value.int .i64 n24)) ∧
  Calls Try.prog 80 #[(Value.agg #[(Value.int .i64 n17), (Value.slice A18 A18l A18c)]), (Value.string s21), (Value.int .i64 n24)] (World.drew w13) fun e26 w27 =>
  ∃ n25, e26 = Ending.returned (Value.int .i64 n25) ∧
  S15 w27 ∧
  V.sel (decide (n25 < 0))
  (R (Ending.returned (Value.bool false)) (World.drew w27))
  (∃ A28, ∃ A28l, ∃ A28c, World.cell? w27 (Addr.add ⟨Array.size (World.heap w5), 0, none⟩ 1) = some (Value.slice A28 A28l A28c) ∧
  V.when (decide ((0 : Int) ≤ n25 ∧ (n25 : Int) < ((A28l : Nat) : Int))) (V.ptr A28 fun a29 =>
  ∃ n30, World.cell? w27 (Addr.add (Addr.add a29 ((Int.toNat n25) * 3)) 2) = some (Value.int .i64 n30) ∧
  ∃ A31, ∃ A31l, ∃ A31c, World.cell? w27 (Addr.add ⟨Array.size (World.heap w), 0, none⟩ 1) = some (Value.slice A31 A31l A31c) ∧
  V.when (decide ((0 : Int) ≤ i_11 ∧ (i_11 : Int) < ((A31l : Nat) : Int))) (V.ptr A31 fun a32 =>
  ∃ n33, World.cell? w27 (Addr.add (Addr.add a32 ((Int.toNat i_11) * 3)) 2) = some (Value.int .i64 n33) ∧
  V.sel (n30 != n33)
  (R (Ending.returned (Value.bool false)) (World.drew w27))
  (I9 (IntKind.wrap .i64 (i_11 + 1)) (World.drew w27) ∧ μ10 (IntKind.wrap .i64 (i_11 + 1)) (World.drew w27) < μ10 i_11 w13)))))))
  (R (Ending.returned (Value.bool true)) w13)))) :
  Calls Try.prog 87 #[(Value.agg #[(Value.int .i64 a_1), (Value.slice a_2 a_2l a_2c)]), (Value.agg #[(Value.int .i64 b_3), (Value.slice b_4 b_4l b_4c)])] w R :=
  V.calls_of_R ⟨V.assoc [(0, [5])], V.assocP [(6, V.line [0, 1, 2, 3, 4, 5, 6, 7, 8, 9, 10, 11, 12, 13, 14]), (7, V.line [0, 1, 2, 3, 4, 5, 6, 7, 8, 9, 10, 11, 12, 13, 14, 15, 16])], V.assocC [], V.assocS [], ⟨[], true⟩⟩ Try.func87 rfl (Eq.mp (by kernel_rfl) h)

theorem berthref08_Stands_nf (a_1 : Int) (cmp_2 : Int) (b_3 : Int) (w : World) (R : Ending → World → Prop) (h :
  V.sel (cmp_2 == 1)
  (R (Ending.returned (Value.bool (a_1 == b_3))) w)
  (V.sel (cmp_2 == 2)
  (R (Ending.returned (Value.bool (a_1 != b_3))) w)
  (V.sel (cmp_2 == 3)
  (R (Ending.returned (Value.bool (decide (a_1 < b_3)))) w)
  (V.sel (cmp_2 == 4)
  (R (Ending.returned (Value.bool (decide (a_1 ≤ b_3)))) w)
  (V.sel (cmp_2 == 5)
  (R (Ending.returned (Value.bool (decide (a_1 > b_3)))) w)
  (V.sel (cmp_2 == 6)
  (R (Ending.returned (Value.bool (decide (a_1 ≥ b_3)))) w)
  (R (Ending.returned (Value.bool false)) w))))))) :
  Calls Try.prog 100 #[(Value.int .i64 a_1), (Value.int .i64 cmp_2), (Value.int .i64 b_3)] w R :=
  V.calls_of_R ⟨V.assoc [], V.assocP [], V.assocC [], V.assocS [], ⟨[], true⟩⟩ Try.func100 rfl (Eq.mp (by kernel_rfl) h)

end Go.Proofs.Ytjlkdadafddodaa
