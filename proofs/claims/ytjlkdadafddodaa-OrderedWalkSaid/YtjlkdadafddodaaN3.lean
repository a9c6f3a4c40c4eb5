/- Normal forms of the program's functions, printed by a program of mine; the kernel checks each. -/
import Derived.Test.YtjlkdadafddodaaProg
import Derived.Test.YtjlkdadafddodaaV2
set_option linter.unusedVariables false
set_option maxRecDepth 100000
namespace Go.Proofs.Ytjlkdadafddodaa
open Go

theorem berthlaw08_isSet_nf (s_1 : Option Addr) (size_2 : Int) (members_3 : Option Addr) (members_3l : Nat) (members_3c : Nat) (w : World) (R : Ending → World → Prop) (h :
  V.sel (!(Option.isNone s_1))
  (Calls Try.prog 23 #[(Value.pointer s_1)] w fun e5 w6 =>
  ∃ n4, e5 = Ending.returned (Value.int .i64 n4) ∧
  V.sel (n4 == size_2)
  (Calls Try.prog 58 #[(Value.pointer s_1), (Value.slice members_3 members_3l members_3c)] w6 fun e8 w9 =>
  ∃ b7, e8 = Ending.returned (Value.bool b7) ∧
  R (Ending.returned (Value.bool b7)) w9)
  (R (Ending.returned (Value.bool false)) w6))
  (R (Ending.returned (Value.bool false)) w)) :
  Calls Try.prog 28 #[(Value.pointer s_1), (Value.int .i64 size_2), (Value.slice members_3 members_3l members_3c)] w R :=
  V.calls_of_R ⟨V.assoc [], V.assocP [], V.assocC [], V.assocS [], ⟨[], true⟩⟩ Try.func28 rfl (Eq.mp (by kernel_rfl) h)

theorem berthref08_Index_Between_nf (x_1 : Int) (x_2 : Option Addr) (x_2l : Nat) (x_2c : Nat) (key_3 : ByteArray) (lo_4 : Int) (hi_5 : Int) (w : World) (R : Ending → World → Prop) (h :
  ∀ w6, w6 = (World.alloc w (.cells #[(Value.int .i64 x_1), (Value.slice x_2 x_2l x_2c)] 58)) →
  ∀ w7, w7 = (World.alloc w6 (.cells #[] 3)) →
  ∃ I8 : Option Addr → Nat → Nat → Int → World → Prop, ∃ μ9 : Option Addr → Nat → Nat → Int → World → Nat, I8 (some ⟨Array.size (World.heap w6), 0, none⟩) 0 0 0 w7 ∧
  ∀ all_10 all_10l all_10c i_11 (j12 : Nat → Value) (w13 : World), I8 all_10 all_10l all_10c i_11 w13 →
  (∃ A14, ∃ A14l, ∃ A14c, World.cell? w13 (Addr.add ⟨Array.size (World.heap w), 0, none⟩ 1) = some (Value.slice A14 A14l A14c) ∧
  V.sel (decide (i_11 < ((A14l : Nat) : Int)))
  (∃ A15, ∃ A15l, ∃ A15c, World.cell? w13 (Addr.add ⟨Array.size (World.heap w), 0, none⟩ 1) = some (Value.slice A15 A15l A15c) ∧
  V.when (decide ((0 : Int) ≤ i_11 ∧ (i_11 : Int) < ((A15l : Nat) : Int))) (V.ptr A15 fun a16 =>
  ∃ s17, World.cell? w13 (Addr.add (Addr.add a16 ((Int.toNat i_11) * 3)) 0) = some (Value.string s17) ∧
  V.sel (ByteArray.toList s17 == ByteArray.toList key_3)
  (∃ A18, ∃ A18l, ∃ A18c, World.cell? w13 (Addr.add ⟨Array.size (World.heap w), 0, none⟩ 1) = some (Value.slice A18 A18l A18c) ∧
  V.when (decide ((0 : Int) ≤ i_11 ∧ (i_11 : Int) < ((A18l : Nat) : Int))) (V.ptr A18 fun a19 =>
  ∃ n20, World.cell? w13 (Addr.add (Addr.add a19 ((Int.toNat i_11) * 3)) 2) = some (Value.int .i64 n20) ∧
  V.sel (decide (n20 ≥ lo_4))
  (∃ A21, ∃ A21l, ∃ A21c, World.cell? w13 (Addr.add ⟨Array.size (World.heap w), 0, none⟩ 1) = some (Value.slice A21 A21l A21c) ∧
  V.when (decide ((0 : Int) ≤ i_11 ∧ (i_11 : Int) < ((A21l : Nat) : Int))) (V.ptr A21 fun a22 =>
  ∃ n23, World.cell? w13 (Addr.add (Addr.add a22 ((Int.toNat i_11) * 3)) 2) = some (Value.int .i64 n23) ∧
  V.sel (decide (n23 ≤ hi_5))
  (∃ A24, ∃ A24l, ∃ A24c, World.cell? w13 (Addr.add ⟨Array.size (World.heap w), 0, none⟩ 1) = some (Value.slice A24 A24l A24c) ∧
  V.when (decide ((0 : Int) ≤ i_11 ∧ (i_11 : Int) < ((A24l : Nat) : Int))) (V.ptr A24 fun a25 =>
  ∃ n26, World.cell? w13 (Addr.add (Addr.add a25 ((Int.toNat i_11) * 3)) 1) = some (Value.int .i64 n26) ∧
  ∀ w27, w27 = (World.alloc w13 (.cells #[(Value.int .i64 n26)] 3)) →
  ∃ A28, ∃ A28l, ∃ A28c, ∃ w29, Sem.run Try.prog (Builtin.append_ #[37, 37] 37 #[(Value.slice all_10 all_10l all_10c), (Value.slice (some ⟨Array.size (World.heap w13), 0, none⟩) 1 1)]) w27 = .ok (Value.slice A28 A28l A28c) w29 ∧
  I8 A28 A28l A28c (IntKind.wrap .i64 (i_11 + 1)) w29 ∧ μ9 A28 A28l A28c (IntKind.wrap .i64 (i_11 + 1)) w29 < μ9 all_10 all_10l all_10c i_11 w13))
  (I8 all_10 all_10l all_10c (IntKind.wrap .i64 (i_11 + 1)) w13 ∧ μ9 all_10 all_10l all_10c (IntKind.wrap .i64 (i_11 + 1)) w13 < μ9 all_10 all_10l all_10c i_11 w13)))
  (I8 all_10 all_10l all_10c (IntKind.wrap .i64 (i_11 + 1)) w13 ∧ μ9 all_10 all_10l all_10c (IntKind.wrap .i64 (i_11 + 1)) w13 < μ9 all_10 all_10l all_10c i_11 w13)))
  (I8 all_10 all_10l all_10c (IntKind.wrap .i64 (i_11 + 1)) w13 ∧ μ9 all_10 all_10l all_10c (IntKind.wrap .i64 (i_11 + 1)) w13 < μ9 all_10 all_10l all_10c i_11 w13)))
  (Calls Try.prog 57 #[(Value.slice all_10 all_10l all_10c)] w13 fun e31 w32 =>
  ∃ A30, ∃ A30l, ∃ A30c, e31 = Ending.returned (Value.slice A30 A30l A30c) ∧
  R (Ending.returned (Value.slice A30 A30l A30c)) w32))) :
  Calls Try.prog 29 #[(Value.agg #[(Value.int .i64 x_1), (Value.slice x_2 x_2l x_2c)]), (Value.string key_3), (Value.int .i64 lo_4), (Value.int .i64 hi_5)] w R :=
  V.calls_of_R ⟨V.assoc [(0, [9, 10])], V.assocP [], V.assocC [], V.assocS [], ⟨[], true⟩⟩ Try.func29 rfl (Eq.mp (by kernel_rfl) h)

theorem berthlaw08_World_seen_nf (w_1 : Option Addr) (i_2 : Int) (w : World) (R : Ending → World → Prop) (h :
  ∃ S3 : World → Prop, S3 (World.drew w) ∧
  V.ptr w_1 fun a5 =>
  V.when (decide ((0 : Int) ≤ i_2 ∧ (i_2 : Int) < 4)) (∃ p6, (∀ w4, S3 w4 → World.cell? w4 (Addr.add (Addr.add a5 0) ((Int.toNat i_2) * 1)) = some (Value.pointer p6)) ∧
  V.ptr w_1 fun a7 =>
  V.when (decide ((0 : Int) ≤ i_2 ∧ (i_2 : Int) < 4)) (∃ n8, ∃ A9, ∃ A9l, ∃ A9c, V.cellsC (fun a_ x_ => ∀ w4, S3 w4 → World.cell? w4 a_ = some x_) (Addr.add (Addr.add a7 4) ((Int.toNat i_2) * 2)) [(Value.int .i64 n8), (Value.slice A9 A9l A9c)] ∧
  ∀ w10, w10 = (World.alloc (World.drew w) (.cells #[(Value.int .i64 0), (Value.slice none 0 0)] 58)) →
  S3 w10 ∧
  ∃ w11, Sem.run Try.prog (Instr.storeAt 58 (Value.pointer (some ⟨Array.size (World.heap (World.drew w)), 0, none⟩)) (Value.agg #[(Value.int .i64 n8), (Value.slice A9 A9l A9c)])) w10 = .ok () w11 ∧
  ∃ S12 : World → Prop, S12 (World.drew w11) ∧
  ∃ n14, ∃ A15, ∃ A15l, ∃ A15c, V.cellsC (fun a_ x_ => ∀ w13, S12 w13 → World.cell? w13 a_ = some x_) ⟨Array.size (World.heap (World.drew w)), 0, none⟩ [(Value.int .i64 n14), (Value.slice A15 A15l A15c)] ∧
  Calls Try.prog 21 #[(Value.pointer p6)] (World.drew w11) fun e17 w18 =>
  ∃ A16, ∃ A16l, ∃ A16c, e17 = Ending.returned (Value.slice A16 A16l A16c) ∧
  S12 w18 ∧
  Calls Try.prog 60 #[(Value.agg #[(Value.int .i64 n14), (Value.slice A15 A15l A15c)])] w18 fun e20 w21 =>
  ∃ A19, ∃ A19l, ∃ A19c, e20 = Ending.returned (Value.slice A19 A19l A19c) ∧
  S12 w21 ∧
  Calls Try.prog 37 #[(Value.slice A16 A16l A16c), (Value.slice A19 A19l A19c)] w21 fun e23 w24 =>
  ∃ b22, e23 = Ending.returned (Value.bool b22) ∧
  S12 w24 ∧
  V.sel (!b22)
  (R (Ending.returned (Value.bool false)) w24)
  (∃ A25, ∃ A25l, ∃ A25c, World.cell? w24 (Addr.add ⟨Array.size (World.heap (World.drew w)), 0, none⟩ 1) = some (Value.slice A25 A25l A25c) ∧
  ∃ I26 : Int → World → Prop, ∃ μ27 : Int → World → Nat, I26 0 w24 ∧
  ∀ t34_28 (j29 : Nat → Value) (w30 : World), I26 t34_28 w30 →
  (V.sel (decide (t34_28 < ((A25l : Nat) : Int)))
  (V.when (decide ((0 : Int) ≤ t34_28 ∧ (t34_28 : Int) < ((A25l : Nat) : Int))) (V.ptr A25 fun a31 =>
  ∃ s32, ∃ n33, ∃ n34, V.cellsC (fun a_ x_ => World.cell? w30 a_ = some x_) (Addr.add a31 ((Int.toNat t34_28) * 3)) [(Value.string s32), (Value.int .i64 n33), (Value.int .i64 n34)] ∧
  ∀ w35, w35 = (World.alloc w30 (.cells #[(Value.string ByteArray.empty), (Value.int .i64 0), (Value.int .i64 0)] 106)) →
  ∃ w36, Sem.run Try.prog (Instr.storeAt 106 (Value.pointer (some ⟨Array.size (World.heap w30), 0, none⟩)) (Value.agg #[(Value.string s32), (Value.int .i64 n33), (Value.int .i64 n34)])) w35 = .ok () w36 ∧
  ∃ s37, World.cell? w36 (Addr.add ⟨Array.size (World.heap w30), 0, none⟩ 0) = some (Value.string s37) ∧
  ∃ n38, World.cell? w36 (Addr.add ⟨Array.size (World.heap w30), 0, none⟩ 1) = some (Value.int .i64 n38) ∧
  Calls Try.prog 19 #[(Value.pointer p6), (Value.string s37), (Value.int .i64 n38)] w36 fun e41 w42 =>
  ∃ n39, ∃ b40, e41 = Ending.returned (Value.tuple #[(Value.int .i64 n39), (Value.bool b40)]) ∧
  V.sel (!b40)
  (R (Ending.returned (Value.bool false)) w42)
  (∃ n43, World.cell? w42 (Addr.add ⟨Array.size (World.heap w30), 0, none⟩ 2) = some (Value.int .i64 n43) ∧
  V.sel (n39 != n43)
  (R (Ending.returned (Value.bool false)) w42)
  (I26 (IntKind.wrap .i64 (t34_28 + 1)) w42 ∧ μ27 (IntKind.wrap .i64 (t34_28 + 1)) w42 < μ27 t34_28 w30))))
  (∃ n44, ∃ A45, ∃ A45l, ∃ A45c, V.cellsC (fun a_ x_ => World.cell? w30 a_ = some x_) ⟨Array.size (World.heap (World.drew w)), 0, none⟩ [(Value.int .i64 n44), (Value.slice A45 A45l A45c)] ∧
  Calls Try.prog 60 #[(Value.agg #[(Value.int .i64 n44), (Value.slice A45 A45l A45c)])] w30 fun e47 w48 =>
  ∃ A46, ∃ A46l, ∃ A46c, e47 = Ending.returned (Value.slice A46 A46l A46c) ∧
  ∃ I49 : Int → World → Prop, ∃ μ50 : Int → World → Nat, I49 0 w48 ∧
  ∀ t59_51 (j52 : Nat → Value) (w53 : World), I49 t59_51 w53 →
  (V.sel (decide (t59_51 < ((A46l : Nat) : Int)))
  (V.when (decide ((0 : Int) ≤ t59_51 ∧ (t59_51 : Int) < ((A46l : Nat) : Int))) (V.ptr A46 fun a54 =>
  ∃ s55, World.cell? w53 (Addr.add a54 ((Int.toNat t59_51) * 1)) = some (Value.string s55) ∧
  ∃ S56 : World → Prop, S56 (World.drew w53) ∧
  ∃ n58, ∃ A59, ∃ A59l, ∃ A59c, V.cellsC (fun a_ x_ => ∀ w57, S56 w57 → World.cell? w57 a_ = some x_) ⟨Array.size (World.heap (World.drew w)), 0, none⟩ [(Value.int .i64 n58), (Value.slice A59 A59l A59c)] ∧
  Calls Try.prog 10 #[(Value.pointer p6), (Value.string s55)] (World.drew w53) fun e61 w62 =>
  ∃ p60, e61 = Ending.returned (Value.pointer p60) ∧
  S56 w62 ∧
  Calls Try.prog 62 #[(Value.agg #[(Value.int .i64 n58), (Value.slice A59 A59l A59c)]), (Value.string s55)] w62 fun e64 w65 =>
  ∃ A63, ∃ A63l, ∃ A63c, e64 = Ending.returned (Value.slice A63 A63l A63c) ∧
  S56 w65 ∧
  Calls Try.prog 61 #[(Value.pointer w_1), (Value.int .i64 i_2), (Value.pointer p60), (Value.slice A63 A63l A63c)] w65 fun e67 w68 =>
  ∃ b66, e67 = Ending.returned (Value.bool b66) ∧
  S56 w68 ∧
  V.sel (!b66)
  (R (Ending.returned (Value.bool false)) w68)
  (∃ A69, ∃ A69l, ∃ A69c, (∀ w57, S56 w57 → World.cell? w57 (Addr.add ⟨Array.size (World.heap (World.drew w)), 0, none⟩ 1) = some (Value.slice A69 A69l A69c)) ∧
  Calls Try.prog 63 #[(Value.pointer w_1), (Value.int .i64 i_2), (Value.string s55), (Value.int .i64 (IntKind.wrap .i64 (((A69l : Nat) : Int) + 1)))] w68 fun e71 w72 =>
  ∃ b70, e71 = Ending.returned (Value.bool b70) ∧
  S56 w72 ∧
  V.sel (!b70)
  (R (Ending.returned (Value.bool false)) w72)
  (I49 (IntKind.wrap .i64 (t59_51 + 1)) w72 ∧ μ50 (IntKind.wrap .i64 (t59_51 + 1)) w72 < μ50 t59_51 w53))))
  (R (Ending.returned (Value.bool true)) w53)))))))) :
  Calls Try.prog 33 #[(Value.pointer w_1), (Value.int .i64 i_2)] w R :=
  V.calls_of_R ⟨V.assoc [(0, [34]), (1, [59])], V.assocP [(1, V.line [0, 1, 2, 3, 4, 5, 6, 7, 8, 9, 10, 11, 12, 13, 14]), (2, V.line [0, 2, 1, 3, 4, 5]), (14, V.line [0, 1, 2, 3, 5, 6, 4, 7, 8, 9, 10, 11, 12, 13, 14, 15, 16, 17, 18, 19, 20])], V.assocC [], V.assocS [], ⟨[], true⟩⟩ Try.func33 rfl (Eq.mp (by kernel_rfl) h)

theorem ordered_Index_Del_nf (x_1 : Option Addr) (key_2 : ByteArray) (slot_3 : Int) (w : World) (R : Ending → World → Prop) (h :
  Calls Try.prog 64 #[(Value.pointer x_1), (Value.string key_2), (Value.int .i64 slot_3)] w fun e5 w6 =>
  ∃ n4, e5 = Ending.returned (Value.int .i64 n4) ∧
  V.sel (n4 != 0)
  (R (Ending.returned (Value.int .i64 n4)) w6)
  (Calls Try.prog 47 #[(Value.pointer x_1), (Value.string key_2)] w6 fun e8 w9 =>
  ∃ p7, e8 = Ending.returned (Value.pointer p7) ∧
  V.ptr p7 fun a10 =>
  ∃ m11, World.cell? w9 (Addr.add a10 1) = some (Value.map m11) ∧
  ∃ n12, ∃ b13, ∃ w14, Sem.run Try.prog (Instr.lookup 88 (Value.map m11) (Value.int .i64 slot_3) true) w9 = .ok (Value.tuple #[(Value.int .i64 n12), (Value.bool b13)]) w14 ∧
  V.sel (!b13)
  (R (Ending.returned (Value.int .i64 83)) w14)
  (Calls Try.prog 65 #[(Value.pointer p7), (Value.int .i64 n12)] w14 fun e16 w17 =>
  ∃ n15, e16 = Ending.returned (Value.int .i64 n15) ∧
  V.ptr p7 fun a18 =>
  ∃ A19, ∃ A19l, ∃ A19c, World.cell? w17 (Addr.add a18 0) = some (Value.slice A19 A19l A19c) ∧
  V.when (decide ((0 : Int) ≤ n15 ∧ (n15 : Int) < ((A19l : Nat) : Int))) (V.ptr A19 fun a20 =>
  ∃ p21, World.cell? w17 (Addr.add (Addr.add a20 ((Int.toNat n15) * 2)) 1) = some (Value.pointer p21) ∧
  Calls Try.prog 66 #[(Value.pointer p21), (Value.int .i64 slot_3)] w17 fun e23 w24 =>
  ∃ b22, e23 = Ending.returned (Value.bool b22) ∧
  ∃ J25 : World → Prop, (V.ptr p7 fun a26 =>
  ∃ A27, ∃ A27l, ∃ A27c, World.cell? w24 (Addr.add a26 0) = some (Value.slice A27 A27l A27c) ∧
  V.when (decide ((0 : Int) ≤ n15 ∧ (n15 : Int) < ((A27l : Nat) : Int))) (V.ptr A27 fun a28 =>
  ∃ p29, World.cell? w24 (Addr.add (Addr.add a28 ((Int.toNat n15) * 2)) 1) = some (Value.pointer p29) ∧
  Calls Try.prog 13 #[(Value.pointer p29)] w24 fun e31 w32 =>
  ∃ n30, e31 = Ending.returned (Value.int .i64 n30) ∧
  V.sel (n30 == 0)
  (V.ptr p7 fun a33 =>
  ∃ A34, ∃ A34l, ∃ A34c, World.cell? w32 (Addr.add a33 0) = some (Value.slice A34 A34l A34c) ∧
  Calls Try.prog 67 #[(Value.slice A34 A34l A34c), (Value.int .i64 n15), (Value.int .i64 (IntKind.wrap .i64 (n15 + 1)))] w32 fun e36 w37 =>
  ∃ A35, ∃ A35l, ∃ A35c, e36 = Ending.returned (Value.slice A35 A35l A35c) ∧
  V.ptr p7 fun a38 =>
  ∃ w39, Sem.run Try.prog (Instr.storeAt 87 (Value.pointer (some (Addr.add a38 0))) (Value.slice A35 A35l A35c)) w37 = .ok () w39 ∧
  J25  w39)
  (J25  w32))) ∧
  ∀ (j40 : Nat → Value) (w41 : World), J25  w41 →
  V.ptr p7 fun a42 =>
  ∃ m43, World.cell? w41 (Addr.add a42 1) = some (Value.map m43) ∧
  ∃ w44, Sem.run Try.prog (Builtin.delete_ #[88, 3] 0 #[(Value.map m43), (Value.int .i64 slot_3)]) w41 = .ok undef w44 ∧
  V.ptr p7 fun a45 =>
  ∃ m46, World.cell? w44 (Addr.add a45 1) = some (Value.map m46) ∧
  ∃ n47, ∃ w48, Sem.run Try.prog (Builtin.len_ #[88] 3 #[(Value.map m46)]) w44 = .ok (Value.int .i64 n47) w48 ∧
  V.sel (n47 == 0)
  (V.ptr x_1 fun a49 =>
  ∃ m50, World.cell? w48 (Addr.add a49 1) = some (Value.map m50) ∧
  ∃ w51, Sem.run Try.prog (Builtin.delete_ #[94, 9] 0 #[(Value.map m50), (Value.string key_2)]) w48 = .ok undef w51 ∧
  R (Ending.returned (Value.int .i64 0)) w51)
  (R (Ending.returned (Value.int .i64 0)) w48))))) :
  Calls Try.prog 34 #[(Value.pointer x_1), (Value.string key_2), (Value.int .i64 slot_3)] w R :=
  V.calls_of_R ⟨V.assoc [], V.assocP [], V.assocC [(1000013, ([], []))], V.assocS [], ⟨[], true⟩⟩ Try.func34 rfl (Eq.mp (by kernel_rfl) h)

theorem ordered_Index_Put_nf (x_1 : Option Addr) (key_2 : ByteArray) (slot_3 : Int) (n_4 : Int) (w : World) (R : Ending → World → Prop) (h :
  Calls Try.prog 64 #[(Value.pointer x_1), (Value.string key_2), (Value.int .i64 slot_3)] w fun e6 w7 =>
  ∃ n5, e6 = Ending.returned (Value.int .i64 n5) ∧
  V.sel (n5 != 0)
  (R (Ending.returned (Value.int .i64 n5)) w7)
  (V.ptr x_1 fun a8 =>
  ∃ m9, World.cell? w7 (Addr.add a8 1) = some (Value.map m9) ∧
  ∃ p10, ∃ w11, Sem.run Try.prog (Instr.lookup 94 (Value.map m9) (Value.string key_2) false) w7 = .ok (Value.pointer p10) w11 ∧
  ∃ J12 : Option Addr → World → Prop, (V.sel (Option.isNone p10)
  (∀ w13, w13 = (World.alloc w11 (.map #[] 0)) →
  ∀ w14, w14 = (World.alloc w13 (.cells #[(Value.slice none 0 0), (Value.map (some (Array.size (World.heap w11))))] 90)) →
  V.ptr x_1 fun a15 =>
  ∃ m16, World.cell? w14 (Addr.add a15 1) = some (Value.map m16) ∧
  ∃ w17, Sem.run Try.prog (Instr.mapUpdate 94 (Value.map m16) (Value.string key_2) (Value.pointer (some ⟨Array.size (World.heap w13), 0, none⟩))) w14 = .ok () w17 ∧
  J12 (some ⟨Array.size (World.heap w13), 0, none⟩) w17)
  (J12 p10 w11)) ∧
  ∀ c_18 (j19 : Nat → Value) (w20 : World), J12 c_18 w20 →
  V.ptr c_18 fun a21 =>
  ∃ m22, World.cell? w20 (Addr.add a21 1) = some (Value.map m22) ∧
  ∃ n23, ∃ b24, ∃ w25, Sem.run Try.prog (Instr.lookup 88 (Value.map m22) (Value.int .i64 slot_3) true) w20 = .ok (Value.tuple #[(Value.int .i64 n23), (Value.bool b24)]) w25 ∧
  V.sel b24
  (R (Ending.returned (Value.int .i64 82)) w25)
  (Calls Try.prog 65 #[(Value.pointer c_18), (Value.int .i64 n_4)] w25 fun e27 w28 =>
  ∃ n26, e27 = Ending.returned (Value.int .i64 n26) ∧
  ∃ J29 : World → Prop, (V.ptr c_18 fun a30 =>
  ∃ A31, ∃ A31l, ∃ A31c, World.cell? w28 (Addr.add a30 0) = some (Value.slice A31 A31l A31c) ∧
  V.sel (n26 == ((A31l : Nat) : Int))
  (∃ S32 : World → Prop, S32 (World.drew w28) ∧
  V.ptr c_18 fun a34 =>
  ∃ A35, ∃ A35l, ∃ A35c, (∀ w33, S32 w33 → World.cell? w33 (Addr.add a34 0) = some (Value.slice A35 A35l A35c)) ∧
  Calls Try.prog 41 #[(Value.pointer x_1)] (World.drew w28) fun e37 w38 =>
  ∃ p36, e37 = Ending.returned (Value.pointer p36) ∧
  S32 w38 ∧
  ∀ w39, w39 = (World.alloc w38 (.cells #[(Value.int .i64 n_4), (Value.pointer p36)] 99)) →
  S32 w39 ∧
  Calls Try.prog 68 #[(Value.slice A35 A35l A35c), (Value.int .i64 n26), (Value.slice (some ⟨Array.size (World.heap w38), 0, none⟩) 1 1)] w39 fun e41 w42 =>
  ∃ A40, ∃ A40l, ∃ A40c, e41 = Ending.returned (Value.slice A40 A40l A40c) ∧
  S32 w42 ∧
  V.ptr c_18 fun a43 =>
  ∃ w44, Sem.run Try.prog (Instr.storeAt 87 (Value.pointer (some (Addr.add a43 0))) (Value.slice A40 A40l A40c)) w42 = .ok () w44 ∧
  J29  w44)
  (V.ptr c_18 fun a45 =>
  ∃ A46, ∃ A46l, ∃ A46c, World.cell? w28 (Addr.add a45 0) = some (Value.slice A46 A46l A46c) ∧
  V.when (decide ((0 : Int) ≤ n26 ∧ (n26 : Int) < ((A46l : Nat) : Int))) (V.ptr A46 fun a47 =>
  ∃ n48, World.cell? w28 (Addr.add (Addr.add a47 ((Int.toNat n26) * 2)) 0) = some (Value.int .i64 n48) ∧
  V.sel (n48 != n_4)
  (∃ S49 : World → Prop, S49 (World.drew w28) ∧
  V.ptr c_18 fun a51 =>
  ∃ A52, ∃ A52l, ∃ A52c, (∀ w50, S49 w50 → World.cell? w50 (Addr.add a51 0) = some (Value.slice A52 A52l A52c)) ∧
  Calls Try.prog 41 #[(Value.pointer x_1)] (World.drew w28) fun e54 w55 =>
  ∃ p53, e54 = Ending.returned (Value.pointer p53) ∧
  S49 w55 ∧
  ∀ w56, w56 = (World.alloc w55 (.cells #[(Value.int .i64 n_4), (Value.pointer p53)] 99)) →
  S49 w56 ∧
  Calls Try.prog 68 #[(Value.slice A52 A52l A52c), (Value.int .i64 n26), (Value.slice (some ⟨Array.size (World.heap w55), 0, none⟩) 1 1)] w56 fun e58 w59 =>
  ∃ A57, ∃ A57l, ∃ A57c, e58 = Ending.returned (Value.slice A57 A57l A57c) ∧
  S49 w59 ∧
  V.ptr c_18 fun a60 =>
  ∃ w61, Sem.run Try.prog (Instr.storeAt 87 (Value.pointer (some (Addr.add a60 0))) (Value.slice A57 A57l A57c)) w59 = .ok () w61 ∧
  J29  w61)
  (J29  w28)))) ∧
  ∀ (j62 : Nat → Value) (w63 : World), J29  w63 →
  V.ptr c_18 fun a64 =>
  ∃ A65, ∃ A65l, ∃ A65c, World.cell? w63 (Addr.add a64 0) = some (Value.slice A65 A65l A65c) ∧
  V.when (decide ((0 : Int) ≤ n26 ∧ (n26 : Int) < ((A65l : Nat) : Int))) (V.ptr A65 fun a66 =>
  ∃ p67, World.cell? w63 (Addr.add (Addr.add a66 ((Int.toNat n26) * 2)) 1) = some (Value.pointer p67) ∧
  Calls Try.prog 30 #[(Value.pointer p67), (Value.int .i64 slot_3)] w63 fun e69 w70 =>
  ∃ b68, e69 = Ending.returned (Value.bool b68) ∧
  V.ptr c_18 fun a71 =>
  ∃ m72, World.cell? w70 (Addr.add a71 1) = some (Value.map m72) ∧
  ∃ w73, Sem.run Try.prog (Instr.mapUpdate 88 (Value.map m72) (Value.int .i64 slot_3) (Value.int .i64 n_4)) w70 = .ok () w73 ∧
  R (Ending.returned (Value.int .i64 0)) w73)))) :
  Calls Try.prog 35 #[(Value.pointer x_1), (Value.string key_2), (Value.int .i64 slot_3), (Value.int .i64 n_4)] w R :=
  V.calls_of_R ⟨V.assoc [], V.assocP [(13, V.line [0, 1, 2, 3, 4, 5, 6, 7, 8, 9, 10, 11, 12, 13, 14])], V.assocC [(1000009, ([10], [V.Sh.one .ptr])), (1000015, ([], []))], V.assocS [], ⟨[], true⟩⟩ Try.func35 rfl (Eq.mp (by kernel_rfl) h)

theorem ordered_Same_nf (a_1 : Option Addr) (b_2 : Option Addr) (w : World) (R : Ending → World → Prop) (h :
  Calls Try.prog 21 #[(Value.pointer a_1)] w fun e4 w5 =>
  ∃ A3, ∃ A3l, ∃ A3c, e4 = Ending.returned (Value.slice A3 A3l A3c) ∧
  Calls Try.prog 21 #[(Value.pointer b_2)] w5 fun e7 w8 =>
  ∃ A6, ∃ A6l, ∃ A6c, e7 = Ending.returned (Value.slice A6 A6l A6c) ∧
  Calls Try.prog 69 #[(Value.slice A3 A3l A3c), (Value.slice A6 A6l A6c)] w8 fun e10 w11 =>
  ∃ b9, e10 = Ending.returned (Value.bool b9) ∧
  V.sel (!b9)
  (R (Ending.returned (Value.bool false)) w11)
  (∃ I12 : Int → World → Prop, ∃ μ13 : Int → World → Nat, I12 0 w11 ∧
  ∀ t17_14 (j15 : Nat → Value) (w16 : World), I12 t17_14 w16 →
  (V.sel (decide (t17_14 < ((A3l : Nat) : Int)))
  (V.when (decide ((0 : Int) ≤ t17_14 ∧ (t17_14 : Int) < ((A3l : Nat) : Int))) (V.ptr A3 fun a17 =>
  ∃ s18, World.cell? w16 (Addr.add a17 ((Int.toNat t17_14) * 1)) = some (Value.string s18) ∧
  Calls Try.prog 47 #[(Value.pointer a_1), (Value.string s18)] w16 fun e20 w21 =>
  ∃ p19, e20 = Ending.returned (Value.pointer p19) ∧
  Calls Try.prog 47 #[(Value.pointer b_2), (Value.string s18)] w21 fun e23 w24 =>
  ∃ p22, e23 = Ending.returned (Value.pointer p22) ∧
  Calls Try.prog 70 #[(Value.pointer p19), (Value.pointer p22)] w24 fun e26 w27 =>
  ∃ b25, e26 = Ending.returned (Value.bool b25) ∧
  V.sel (!b25)
  (R (Ending.returned (Value.bool false)) w27)
  (I12 (IntKind.wrap .i64 (t17_14 + 1)) w27 ∧ μ13 (IntKind.wrap .i64 (t17_14 + 1)) w27 < μ13 t17_14 w16)))
  (R (Ending.returned (Value.bool true)) w16)))) :
  Calls Try.prog 36 #[(Value.pointer a_1), (Value.pointer b_2)] w R :=
  V.calls_of_R ⟨V.assoc [(0, [17])], V.assocP [], V.assocC [], V.assocS [], ⟨[], true⟩⟩ Try.func36 rfl (Eq.mp (by kernel_rfl) h)

theorem berthlaw08_textsAre_nf (a_1 : Option Addr) (a_1l : Nat) (a_1c : Nat) (b_2 : Option Addr) (b_2l : Nat) (b_2c : Nat) (w : World) (R : Ending → World → Prop) (h :
  V.sel (((a_1l : Nat) : Int) != ((b_2l : Nat) : Int))
  (R (Ending.returned (Value.bool false)) w)
  (∃ I3 : Int → World → Prop, ∃ μ4 : Int → World → Nat, I3 0 w ∧
  ∀ t13_5 (j6 : Nat → Value) (w7 : World), I3 t13_5 w7 →
  (V.sel (decide (t13_5 < ((a_1l : Nat) : Int)))
  (V.when (decide ((0 : Int) ≤ t13_5 ∧ (t13_5 : Int) < ((a_1l : Nat) : Int))) (V.ptr a_1 fun a8 =>
  ∃ s9, World.cell? w7 (Addr.add a8 ((Int.toNat t13_5) * 1)) = some (Value.string s9) ∧
  V.when (decide ((0 : Int) ≤ t13_5 ∧ (t13_5 : Int) < ((b_2l : Nat) : Int))) (V.ptr b_2 fun a10 =>
  ∃ s11, World.cell? w7 (Addr.add a10 ((Int.toNat t13_5) * 1)) = some (Value.string s11) ∧
  V.sel (!(ByteArray.toList s9 == ByteArray.toList s11))
  (R (Ending.returned (Value.bool false)) (World.drew w7))
  (I3 (IntKind.wrap .i64 (t13_5 + 1)) (World.drew w7) ∧ μ4 (IntKind.wrap .i64 (t13_5 + 1)) (World.drew w7) < μ4 t13_5 w7))))
  (R (Ending.returned (Value.bool true)) w7)))) :
  Calls Try.prog 37 #[(Value.slice a_1 a_1l a_1c), (Value.slice b_2 b_2l b_2c)] w R :=
  V.calls_of_R ⟨V.assoc [(0, [13])], V.assocP [(6, V.line [0, 1, 2, 3, 4, 5, 6, 7, 8])], V.assocC [], V.assocS [], ⟨[], true⟩⟩ Try.func37 rfl (Eq.mp (by kernel_rfl) h)

theorem berthlaw08_World_Step_nf (w_1 : Option Addr) (o_2 : Int) (o_3 : Int) (o_4 : Int) (o_5 : ByteArray) (o_6 : Int) (o_7 : Int) (o_8 : Int) (o_9 : Option Addr) (o_9l : Nat) (o_9c : Nat) (w : World) (R : Ending → World → Prop) (h :
  ∀ w10, w10 = (World.alloc w (.cells #[(Value.int .i64 o_2), (Value.int .i64 o_3), (Value.int .i64 o_4), (Value.string o_5), (Value.int .i64 o_6), (Value.int .i64 o_7), (Value.int .i64 o_8), (Value.slice o_9 o_9l o_9c)] 50)) →
  ∃ n11, World.cell? w10 (Addr.add ⟨Array.size (World.heap w), 0, none⟩ 0) = some (Value.int .i64 n11) ∧
  V.sel (decide (n11 ≤ 3))
  (∃ n12, ∃ n13, ∃ n14, ∃ s15, ∃ n16, ∃ n17, ∃ n18, ∃ A19, ∃ A19l, ∃ A19c, V.cellsC (fun a_ x_ => World.cell? w10 a_ = some x_) ⟨Array.size (World.heap w), 0, none⟩ [(Value.int .i64 n12), (Value.int .i64 n13), (Value.int .i64 n14), (Value.string s15), (Value.int .i64 n16), (Value.int .i64 n17), (Value.int .i64 n18), (Value.slice A19 A19l A19c)] ∧
  ∃ n20, World.cell? w10 (Addr.add ⟨Array.size (World.heap w), 0, none⟩ 1) = some (Value.int .i64 n20) ∧
  Calls Try.prog 26 #[(Value.pointer w_1), (Value.agg #[(Value.int .i64 n12), (Value.int .i64 n13), (Value.int .i64 n14), (Value.string s15), (Value.int .i64 n16), (Value.int .i64 n17), (Value.int .i64 n18), (Value.slice A19 A19l A19c)]), (Value.int .i64 (IntKind.wrap .i64 ((BitVec.toNat (BitVec.ofInt 64 n20 &&& BitVec.ofInt 64 3) : Nat) : Int)))] w10 fun e22 w23 =>
  ∃ b21, e22 = Ending.returned (Value.bool b21) ∧
  R (Ending.returned (Value.bool b21)) w23)
  (∃ n24, ∃ n25, ∃ n26, ∃ s27, ∃ n28, ∃ n29, ∃ n30, ∃ A31, ∃ A31l, ∃ A31c, V.cellsC (fun a_ x_ => World.cell? w10 a_ = some x_) ⟨Array.size (World.heap w), 0, none⟩ [(Value.int .i64 n24), (Value.int .i64 n25), (Value.int .i64 n26), (Value.string s27), (Value.int .i64 n28), (Value.int .i64 n29), (Value.int .i64 n30), (Value.slice A31 A31l A31c)] ∧
  ∃ n32, World.cell? w10 (Addr.add ⟨Array.size (World.heap w), 0, none⟩ 1) = some (Value.int .i64 n32) ∧
  ∃ n33, World.cell? w10 (Addr.add ⟨Array.size (World.heap w), 0, none⟩ 2) = some (Value.int .i64 n33) ∧
  Calls Try.prog 71 #[(Value.pointer w_1), (Value.agg #[(Value.int .i64 n24), (Value.int .i64 n25), (Value.int .i64 n26), (Value.string s27), (Value.int .i64 n28), (Value.int .i64 n29), (Value.int .i64 n30), (Value.slice A31 A31l A31c)]), (Value.int .i64 (IntKind.wrap .i64 ((BitVec.toNat (BitVec.ofInt 64 n32 &&& BitVec.ofInt 64 3) : Nat) : Int))), (Value.int .i64 (IntKind.wrap .i64 ((BitVec.toNat (BitVec.ofInt 64 n33 &&& BitVec.ofInt 64 3) : Nat) : Int)))] w10 fun e35 w36 =>
  ∃ b34, e35 = Ending.returned (Value.bool b34) ∧
  R (Ending.returned (Value.bool b34)) w36)) :
  Calls Try.prog 38 #[(Value.pointer w_1), (Value.agg #[(Value.int .i64 o_2), (Value.int .i64 o_3), (Value.int .i64 o_4), (Value.string o_5), (Value.int .i64 o_6), (Value.int .i64 o_7), (Value.int .i64 o_8), (Value.slice o_9 o_9l o_9c)])] w R :=
  V.calls_of_R ⟨V.assoc [], V.assocP [], V.assocC [], V.assocS [], ⟨[], true⟩⟩ Try.func38 rfl (Eq.mp (by kernel_rfl) h)

theorem ordered_New_nf (size_1 : Int) (w : World) (R : Ending → World → Prop) (h :
  V.sel (decide (size_1 < 0))
  (R (Ending.returned (Value.tuple #[(Value.pointer none), (Value.int .i64 84)])) w)
  (V.sel (decide (size_1 > 65536))
  (R (Ending.returned (Value.tuple #[(Value.pointer none), (Value.int .i64 84)])) w)
  (∀ w2, w2 = (World.alloc w (.map #[] 0)) →
  ∀ w3, w3 = (World.alloc w2 (.cells #[(Value.int .i64 size_1), (Value.map (some (Array.size (World.heap w))))] 96)) →
  R (Ending.returned (Value.tuple #[(Value.pointer (some ⟨Array.size (World.heap w2), 0, none⟩)), (Value.int .i64 0)])) w3))) :
  Calls Try.prog 39 #[(Value.int .i64 size_1)] w R :=
  V.calls_of_R ⟨V.assoc [], V.assocP [], V.assocC [], V.assocS [], ⟨[], true⟩⟩ Try.func39 rfl (Eq.mp (by kernel_rfl) h)

theorem ordered_Index_empty_nf (x_1 : Option Addr) (w : World) (R : Ending → World → Prop) (h :
  V.sel (!(Option.isNone x_1))
  (V.ptr x_1 fun a2 =>
  ∃ n3, World.cell? w (Addr.add a2 0) = some (Value.int .i64 n3) ∧
  Calls Try.prog 73 #[(Value.int .i64 n3)] w fun e6 w7 =>
  ∃ p4, ∃ n5, e6 = Ending.returned (Value.tuple #[(Value.pointer p4), (Value.int .i64 n5)]) ∧
  R (Ending.returned (Value.pointer p4)) w7)
  (Calls Try.prog 73 #[(Value.int .i64 0)] w fun e10 w11 =>
  ∃ p8, ∃ n9, e10 = Ending.returned (Value.tuple #[(Value.pointer p8), (Value.int .i64 n9)]) ∧
  R (Ending.returned (Value.pointer p8)) w11)) :
  Calls Try.prog 41 #[(Value.pointer x_1)] w R :=
  V.calls_of_R ⟨V.assoc [], V.assocP [], V.assocC [], V.assocS [], ⟨[], true⟩⟩ Try.func41 rfl (Eq.mp (by kernel_rfl) h)

theorem ordered_Index_column_nf (x_1 : Option Addr) (key_2 : ByteArray) (w : World) (R : Ending → World → Prop) (h :
  V.sel (!(Option.isNone x_1))
  (V.ptr x_1 fun a3 =>
  ∃ m4, World.cell? w (Addr.add a3 1) = some (Value.map m4) ∧
  ∃ p5, ∃ w6, Sem.run Try.prog (Instr.lookup 94 (Value.map m4) (Value.string key_2) false) w = .ok (Value.pointer p5) w6 ∧
  V.sel (!(Option.isNone p5))
  (R (Ending.returned (Value.pointer p5)) w6)
  (∀ w7, w7 = (World.alloc w6 (.cells #[(Value.slice none 0 0), (Value.map none)] 90)) →
  R (Ending.returned (Value.pointer (some ⟨Array.size (World.heap w6), 0, none⟩))) w7))
  (∀ w8, w8 = (World.alloc w (.cells #[(Value.slice none 0 0), (Value.map none)] 90)) →
  R (Ending.returned (Value.pointer (some ⟨Array.size (World.heap w), 0, none⟩))) w8)) :
  Calls Try.prog 47 #[(Value.pointer x_1), (Value.string key_2)] w R :=
  V.calls_of_R ⟨V.assoc [], V.assocP [], V.assocC [], V.assocS [], ⟨[], true⟩⟩ Try.func47 rfl (Eq.mp (by kernel_rfl) h)

theorem ordered_column_from_nf (c_1 : Option Addr) (lo_2 : Int) (hi_3 : Int) (w : World) (R : Ending → World → Prop) (h :
  ∀ w4, w4 = (World.alloc w (.cells #[(Value.pointer c_1)] 84)) →
  ∀ w5, w5 = (World.alloc w4 (.cells #[(Value.int .i64 lo_2)] 3)) →
  ∀ w6, w6 = (World.alloc w5 (.cells #[(Value.int .i64 hi_3)] 3)) →
  R (Ending.returned (Value.func (.func 76) #[] #[(Value.pointer (some ⟨Array.size (World.heap w), 0, none⟩)), (Value.pointer (some ⟨Array.size (World.heap w4), 0, none⟩)), (Value.pointer (some ⟨Array.size (World.heap w5), 0, none⟩))])) w6) :
  Calls Try.prog 48 #[(Value.pointer c_1), (Value.int .i64 lo_2), (Value.int .i64 hi_3)] w R :=
  V.calls_of_R ⟨V.assoc [], V.assocP [], V.assocC [], V.assocS [], ⟨[], true⟩⟩ Try.func48 rfl (Eq.mp (by kernel_rfl) h)

theorem ordered_Index_Rows_l1_nf (yl : Nat) (free0_1 : Option Addr) (w : World) (R : Ending → World → Prop) (h :
  V.ptr free0_1 fun a2 =>
  ∃ A3, ∃ A3l, ∃ A3c, World.cell? w a2 = some (Value.slice A3 A3l A3c) ∧
  ∃ I4 : Int → World → Prop, ∃ μ5 : Int → World → Nat, I4 0 w ∧
  ∀ t7_6 (j7 : Nat → Value) (w8 : World), I4 t7_6 w8 →
  (V.sel (decide (t7_6 < ((A3l : Nat) : Int)))
  (V.when (decide ((0 : Int) ≤ t7_6 ∧ (t7_6 : Int) < ((A3l : Nat) : Int))) (V.ptr A3 fun a9 =>
  ∃ n10, ∃ p11, V.cellsC (fun a_ x_ => World.cell? w8 a_ = some x_) (Addr.add a9 ((Int.toNat t7_6) * 2)) [(Value.int .i64 n10), (Value.pointer p11)] ∧
  ∀ w12, w12 = (World.alloc w8 (.cells #[(Value.int .i64 0), (Value.pointer none)] 99)) →
  ∃ w13, Sem.run Try.prog (Instr.storeAt 99 (Value.pointer (some ⟨Array.size (World.heap w8), 0, none⟩)) (Value.agg #[(Value.int .i64 n10), (Value.pointer p11)])) w12 = .ok () w13 ∧
  ∃ S14 : World → Prop, S14 (World.drew w13) ∧
  ∃ n16, (∀ w15, S14 w15 → World.cell? w15 (Addr.add ⟨Array.size (World.heap w8), 0, none⟩ 0) = some (Value.int .i64 n16)) ∧
  ∃ p17, (∀ w15, S14 w15 → World.cell? w15 (Addr.add ⟨Array.size (World.heap w8), 0, none⟩ 1) = some (Value.pointer p17)) ∧
  Calls Try.prog 32 #[(Value.pointer p17)] (World.drew w13) fun e19 w20 =>
  ∃ p18, e19 = Ending.returned (Value.pointer p18) ∧
  S14 w20 ∧
  V.Yield Try.prog yl [(Value.int .i64 n16), (Value.pointer p18)] w20 fun e22 w23 =>
  ∃ b21, e22 = Ending.returned (Value.bool b21) ∧
  S14 w23 ∧
  V.sel (!b21)
  (R (Ending.returned undef) w23)
  (I4 (IntKind.wrap .i64 (t7_6 + 1)) w23 ∧ μ5 (IntKind.wrap .i64 (t7_6 + 1)) w23 < μ5 t7_6 w8)))
  (R (Ending.returned undef) w8))) :
  Calls Try.prog 53 #[(Value.func (.yield yl) #[] #[]), (Value.pointer free0_1)] w R :=
  V.calls_of_R ⟨V.assoc [(0, [7])], V.assocP [(3, V.line [0, 1, 2, 3, 4, 5, 6, 7])], V.assocC [], V.assocS [], ⟨[], true⟩⟩ Try.func53 rfl (Eq.mp (by kernel_rfl) h)

theorem berthref08_New_nf (size_1 : Int) (w : World) (R : Ending → World → Prop) (h :
  ∀ w2, w2 = (World.alloc w (.cells #[(Value.int .i64 0), (Value.slice none 0 0)] 58)) →
  ∃ J3 : Bool → World → Prop, (V.sel (decide (size_1 < 0))
  (J3 true w2)
  (J3 (decide (size_1 > 65536)) w2)) ∧
  ∀ t9_4 (j5 : Nat → Value) (w6 : World), J3 t9_4 w6 →
  V.sel t9_4
  (∃ w7, Sem.run Try.prog (Instr.storeAt 58 (Value.pointer (some ⟨Array.size (World.heap w), 0, none⟩)) (Value.agg #[(Value.int .i64 0), (Value.slice none 0 0)])) w6 = .ok () w7 ∧
  ∃ n8, ∃ A9, ∃ A9l, ∃ A9c, V.cellsC (fun a_ x_ => World.cell? w7 a_ = some x_) ⟨Array.size (World.heap w), 0, none⟩ [(Value.int .i64 n8), (Value.slice A9 A9l A9c)] ∧
  R (Ending.returned (Value.tuple #[(Value.agg #[(Value.int .i64 n8), (Value.slice A9 A9l A9c)]), (Value.int .i64 84)])) w7)
  (∃ w10, Sem.run Try.prog (Instr.storeAt 58 (Value.pointer (some ⟨Array.size (World.heap w), 0, none⟩)) (Value.agg #[(Value.int .i64 size_1), (Value.slice none 0 0)])) w6 = .ok () w10 ∧
  ∃ n11, ∃ A12, ∃ A12l, ∃ A12c, V.cellsC (fun a_ x_ => World.cell? w10 a_ = some x_) ⟨Array.size (World.heap w), 0, none⟩ [(Value.int .i64 n11), (Value.slice A12 A12l A12c)] ∧
  R (Ending.returned (Value.tuple #[(Value.agg #[(Value.int .i64 n11), (Value.slice A12 A12l A12c)]), (Value.int .i64 0)])) w10)) :
  Calls Try.prog 54 #[(Value.int .i64 size_1)] w R :=
  V.calls_of_R ⟨V.assoc [], V.assocP [], V.assocC [(1000003, ([9], [V.Sh.one .bool]))], V.assocS [], ⟨[], true⟩⟩ Try.func54 rfl (Eq.mp (by kernel_rfl) h)

theorem berthref08_Put_nf (x_1 : Int) (x_2 : Option Addr) (x_2l : Nat) (x_2c : Nat) (key_3 : ByteArray) (slot_4 : Int) (n_5 : Int) (w : World) (R : Ending → World → Prop) (h :
  ∀ w6, w6 = (World.alloc w (.cells #[(Value.int .i64 x_1), (Value.slice x_2 x_2l x_2c)] 58)) →
  ∀ w7, w7 = (World.alloc w6 (.cells #[(Value.int .i64 0), (Value.slice none 0 0)] 58)) →
  ∃ n8, ∃ A9, ∃ A9l, ∃ A9c, V.cellsC (fun a_ x_ => World.cell? w7 a_ = some x_) ⟨Array.size (World.heap w), 0, none⟩ [(Value.int .i64 n8), (Value.slice A9 A9l A9c)] ∧
  Calls Try.prog 79 #[(Value.agg #[(Value.int .i64 n8), (Value.slice A9 A9l A9c)]), (Value.string key_3), (Value.int .i64 slot_4)] w7 fun e11 w12 =>
  ∃ n10, e11 = Ending.returned (Value.int .i64 n10) ∧
  V.sel (n10 != 0)
  (∃ n13, ∃ A14, ∃ A14l, ∃ A14c, V.cellsC (fun a_ x_ => World.cell? w12 a_ = some x_) ⟨Array.size (World.heap w), 0, none⟩ [(Value.int .i64 n13), (Value.slice A14 A14l A14c)] ∧
  ∃ w15, Sem.run Try.prog (Instr.storeAt 58 (Value.pointer (some ⟨Array.size (World.heap w6), 0, none⟩)) (Value.agg #[(Value.int .i64 n13), (Value.slice A14 A14l A14c)])) w12 = .ok () w15 ∧
  ∃ n16, ∃ A17, ∃ A17l, ∃ A17c, V.cellsC (fun a_ x_ => World.cell? w15 a_ = some x_) ⟨Array.size (World.heap w6), 0, none⟩ [(Value.int .i64 n16), (Value.slice A17 A17l A17c)] ∧
  R (Ending.returned (Value.tuple #[(Value.agg #[(Value.int .i64 n16), (Value.slice A17 A17l A17c)]), (Value.int .i64 n10)])) w15)
  (∃ n18, ∃ A19, ∃ A19l, ∃ A19c, V.cellsC (fun a_ x_ => World.cell? w12 a_ = some x_) ⟨Array.size (World.heap w), 0, none⟩ [(Value.int .i64 n18), (Value.slice A19 A19l A19c)] ∧
  Calls Try.prog 80 #[(Value.agg #[(Value.int .i64 n18), (Value.slice A19 A19l A19c)]), (Value.string key_3), (Value.int .i64 slot_4)] w12 fun e21 w22 =>
  ∃ n20, e21 = Ending.returned (Value.int .i64 n20) ∧
  V.sel (decide (n20 ≥ 0))
  (∃ n23, ∃ A24, ∃ A24l, ∃ A24c, V.cellsC (fun a_ x_ => World.cell? w22 a_ = some x_) ⟨Array.size (World.heap w), 0, none⟩ [(Value.int .i64 n23), (Value.slice A24 A24l A24c)] ∧
  ∃ w25, Sem.run Try.prog (Instr.storeAt 58 (Value.pointer (some ⟨Array.size (World.heap w6), 0, none⟩)) (Value.agg #[(Value.int .i64 n23), (Value.slice A24 A24l A24c)])) w22 = .ok () w25 ∧
  ∃ n26, ∃ A27, ∃ A27l, ∃ A27c, V.cellsC (fun a_ x_ => World.cell? w25 a_ = some x_) ⟨Array.size (World.heap w6), 0, none⟩ [(Value.int .i64 n26), (Value.slice A27 A27l A27c)] ∧
  R (Ending.returned (Value.tuple #[(Value.agg #[(Value.int .i64 n26), (Value.slice A27 A27l A27c)]), (Value.int .i64 82)])) w25)
  (∀ w28, w28 = (World.alloc w22 (.cells #[] 106)) →
  ∃ A29, ∃ A29l, ∃ A29c, World.cell? w28 (Addr.add ⟨Array.size (World.heap w), 0, none⟩ 1) = some (Value.slice A29 A29l A29c) ∧
  ∃ A30, ∃ A30l, ∃ A30c, ∃ w31, Sem.run Try.prog (Builtin.append_ #[56, 56] 56 #[(Value.slice (some ⟨Array.size (World.heap w22), 0, none⟩) 0 0), (Value.slice A29 A29l A29c)]) w28 = .ok (Value.slice A30 A30l A30c) w31 ∧
  ∀ w32, w32 = (World.alloc w31 (.cells #[(Value.string key_3), (Value.int .i64 slot_4), (Value.int .i64 n_5)] 106)) →
  ∃ A33, ∃ A33l, ∃ A33c, ∃ w34, Sem.run Try.prog (Builtin.append_ #[56, 56] 56 #[(Value.slice A30 A30l A30c), (Value.slice (some ⟨Array.size (World.heap w31), 0, none⟩) 1 1)]) w32 = .ok (Value.slice A33 A33l A33c) w34 ∧
  ∃ n35, World.cell? w34 (Addr.add ⟨Array.size (World.heap w), 0, none⟩ 0) = some (Value.int .i64 n35) ∧
  ∃ w36, Sem.run Try.prog (Instr.storeAt 58 (Value.pointer (some ⟨Array.size (World.heap w6), 0, none⟩)) (Value.agg #[(Value.int .i64 n35), (Value.slice A33 A33l A33c)])) w34 = .ok () w36 ∧
  ∃ n37, ∃ A38, ∃ A38l, ∃ A38c, V.cellsC (fun a_ x_ => World.cell? w36 a_ = some x_) ⟨Array.size (World.heap w6), 0, none⟩ [(Value.int .i64 n37), (Value.slice A38 A38l A38c)] ∧
  R (Ending.returned (Value.tuple #[(Value.agg #[(Value.int .i64 n37), (Value.slice A38 A38l A38c)]), (Value.int .i64 0)])) w36))) :
  Calls Try.prog 55 #[(Value.agg #[(Value.int .i64 x_1), (Value.slice x_2 x_2l x_2c)]), (Value.string key_3), (Value.int .i64 slot_4), (Value.int .i64 n_5)] w R :=
  V.calls_of_R ⟨V.assoc [], V.assocP [], V.assocC [], V.assocS [], ⟨[], true⟩⟩ Try.func55 rfl (Eq.mp (by kernel_rfl) h)

theorem berthref08_Del_nf (x_1 : Int) (x_2 : Option Addr) (x_2l : Nat) (x_2c : Nat) (key_3 : ByteArray) (slot_4 : Int) (w : World) (R : Ending → World → Prop) (h :
  ∀ w5, w5 = (World.alloc w (.cells #[(Value.int .i64 x_1), (Value.slice x_2 x_2l x_2c)] 58)) →
  ∀ w6, w6 = (World.alloc w5 (.cells #[(Value.int .i64 0), (Value.slice none 0 0)] 58)) →
  ∃ n7, ∃ A8, ∃ A8l, ∃ A8c, V.cellsC (fun a_ x_ => World.cell? w6 a_ = some x_) ⟨Array.size (World.heap w), 0, none⟩ [(Value.int .i64 n7), (Value.slice A8 A8l A8c)] ∧
  Calls Try.prog 79 #[(Value.agg #[(Value.int .i64 n7), (Value.slice A8 A8l A8c)]), (Value.string key_3), (Value.int .i64 slot_4)] w6 fun e10 w11 =>
  ∃ n9, e10 = Ending.returned (Value.int .i64 n9) ∧
  V.sel (n9 != 0)
  (∃ n12, ∃ A13, ∃ A13l, ∃ A13c, V.cellsC (fun a_ x_ => World.cell? w11 a_ = some x_) ⟨Array.size (World.heap w), 0, none⟩ [(Value.int .i64 n12), (Value.slice A13 A13l A13c)] ∧
  ∃ w14, Sem.run Try.prog (Instr.storeAt 58 (Value.pointer (some ⟨Array.size (World.heap w5), 0, none⟩)) (Value.agg #[(Value.int .i64 n12), (Value.slice A13 A13l A13c)])) w11 = .ok () w14 ∧
  ∃ n15, ∃ A16, ∃ A16l, ∃ A16c, V.cellsC (fun a_ x_ => World.cell? w14 a_ = some x_) ⟨Array.size (World.heap w5), 0, none⟩ [(Value.int .i64 n15), (Value.slice A16 A16l A16c)] ∧
  R (Ending.returned (Value.tuple #[(Value.agg #[(Value.int .i64 n15), (Value.slice A16 A16l A16c)]), (Value.int .i64 n9)])) w14)
  (∃ n17, ∃ A18, ∃ A18l, ∃ A18c, V.cellsC (fun a_ x_ => World.cell? w11 a_ = some x_) ⟨Array.size (World.heap w), 0, none⟩ [(Value.int .i64 n17), (Value.slice A18 A18l A18c)] ∧
  Calls Try.prog 80 #[(Value.agg #[(Value.int .i64 n17), (Value.slice A18 A18l A18c)]), (Value.string key_3), (Value.int .i64 slot_4)] w11 fun e20 w21 =>
  ∃ n19, e20 = Ending.returned (Value.int .i64 n19) ∧
  V.sel (decide (n19 < 0))
  (∃ n22, ∃ A23, ∃ A23l, ∃ A23c, V.cellsC (fun a_ x_ => World.cell? w21 a_ = some x_) ⟨Array.size (World.heap w), 0, none⟩ [(Value.int .i64 n22), (Value.slice A23 A23l A23c)] ∧
  ∃ w24, Sem.run Try.prog (Instr.storeAt 58 (Value.pointer (some ⟨Array.size (World.heap w5), 0, none⟩)) (Value.agg #[(Value.int .i64 n22), (Value.slice A23 A23l A23c)])) w21 = .ok () w24 ∧
  ∃ n25, ∃ A26, ∃ A26l, ∃ A26c, V.cellsC (fun a_ x_ => World.cell? w24 a_ = some x_) ⟨Array.size (World.heap w5), 0, none⟩ [(Value.int .i64 n25), (Value.slice A26 A26l A26c)] ∧
  R (Ending.returned (Value.tuple #[(Value.agg #[(Value.int .i64 n25), (Value.slice A26 A26l A26c)]), (Value.int .i64 83)])) w24)
  (∀ w27, w27 = (World.alloc w21 (.cells #[] 106)) →
  ∃ I28 : Option Addr → Nat → Nat → Int → World → Prop, ∃ μ29 : Option Addr → Nat → Nat → Int → World → Nat, I28 (some ⟨Array.size (World.heap w21), 0, none⟩) 0 0 0 w27 ∧
  ∀ rows_30 rows_30l rows_30c i_31 (j32 : Nat → Value) (w33 : World), I28 rows_30 rows_30l rows_30c i_31 w33 →
  (∃ A34, ∃ A34l, ∃ A34c, World.cell? w33 (Addr.add ⟨Array.size (World.heap w), 0, none⟩ 1) = some (Value.slice A34 A34l A34c) ∧
  V.sel (decide (i_31 < ((A34l : Nat) : Int)))
  (V.sel (i_31 != n19)
  (∃ A35, ∃ A35l, ∃ A35c, World.cell? w33 (Addr.add ⟨Array.size (World.heap w), 0, none⟩ 1) = some (Value.slice A35 A35l A35c) ∧
  V.when (decide ((0 : Int) ≤ i_31 ∧ (i_31 : Int) < ((A35l : Nat) : Int))) (V.ptr A35 fun a36 =>
  ∃ s37, ∃ n38, ∃ n39, V.cellsC (fun a_ x_ => World.cell? w33 a_ = some x_) (Addr.add a36 ((Int.toNat i_31) * 3)) [(Value.string s37), (Value.int .i64 n38), (Value.int .i64 n39)] ∧
  ∀ w40, w40 = (World.alloc w33 (.cells #[(Value.string s37), (Value.int .i64 n38), (Value.int .i64 n39)] 106)) →
  ∃ A41, ∃ A41l, ∃ A41c, ∃ w42, Sem.run Try.prog (Builtin.append_ #[56, 56] 56 #[(Value.slice rows_30 rows_30l rows_30c), (Value.slice (some ⟨Array.size (World.heap w33), 0, none⟩) 1 1)]) w40 = .ok (Value.slice A41 A41l A41c) w42 ∧
  I28 A41 A41l A41c (IntKind.wrap .i64 (i_31 + 1)) w42 ∧ μ29 A41 A41l A41c (IntKind.wrap .i64 (i_31 + 1)) w42 < μ29 rows_30 rows_30l rows_30c i_31 w33))
  (I28 rows_30 rows_30l rows_30c (IntKind.wrap .i64 (i_31 + 1)) w33 ∧ μ29 rows_30 rows_30l rows_30c (IntKind.wrap .i64 (i_31 + 1)) w33 < μ29 rows_30 rows_30l rows_30c i_31 w33))
  (∃ n43, World.cell? w33 (Addr.add ⟨Array.size (World.heap w), 0, none⟩ 0) = some (Value.int .i64 n43) ∧
  ∃ w44, Sem.run Try.prog (Instr.storeAt 58 (Value.pointer (some ⟨Array.size (World.heap w5), 0, none⟩)) (Value.agg #[(Value.int .i64 n43), (Value.slice rows_30 rows_30l rows_30c)])) w33 = .ok () w44 ∧
  ∃ n45, ∃ A46, ∃ A46l, ∃ A46c, V.cellsC (fun a_ x_ => World.cell? w44 a_ = some x_) ⟨Array.size (World.heap w5), 0, none⟩ [(Value.int .i64 n45), (Value.slice A46 A46l A46c)] ∧
  R (Ending.returned (Value.tuple #[(Value.agg #[(Value.int .i64 n45), (Value.slice A46 A46l A46c)]), (Value.int .i64 0)])) w44))))) :
  Calls Try.prog 56 #[(Value.agg #[(Value.int .i64 x_1), (Value.slice x_2 x_2l x_2c)]), (Value.string key_3), (Value.int .i64 slot_4)] w R :=
  V.calls_of_R ⟨V.assoc [(0, [10, 11])], V.assocP [], V.assocC [], V.assocS [], ⟨[], true⟩⟩ Try.func56 rfl (Eq.mp (by kernel_rfl) h)

theorem berthref08_rising_nf (all_1 : Option Addr) (all_1l : Nat) (all_1c : Nat) (w : World) (R : Ending → World → Prop) (h :
  ∀ w2, w2 = (World.alloc w (.cells #[] 3)) →
  ∃ I3 : Option Addr → Nat → Nat → Int → World → Prop, ∃ μ4 : Option Addr → Nat → Nat → Int → World → Nat, I3 (some ⟨Array.size (World.heap w), 0, none⟩) 0 0 0 w2 ∧
  ∀ out_5 out_5l out_5c i_6 (j7 : Nat → Value) (w8 : World), I3 out_5 out_5l out_5c i_6 w8 →
  (V.sel (decide (i_6 < ((all_1l : Nat) : Int)))
  (∃ J9 : Int → World → Prop, (∃ I10 : Int → World → Prop, ∃ μ11 : Int → World → Nat, I10 0 w8 ∧
  ∀ at_12 (j13 : Nat → Value) (w14 : World), I10 at_12 w14 →
  (V.sel (decide (at_12 < ((out_5l : Nat) : Int)))
  (V.when (decide ((0 : Int) ≤ at_12 ∧ (at_12 : Int) < ((out_5l : Nat) : Int))) (V.ptr out_5 fun a15 =>
  ∃ n16, World.cell? w14 (Addr.add a15 ((Int.toNat at_12) * 1)) = some (Value.int .i64 n16) ∧
  V.when (decide ((0 : Int) ≤ i_6 ∧ (i_6 : Int) < ((all_1l : Nat) : Int))) (V.ptr all_1 fun a17 =>
  ∃ n18, World.cell? w14 (Addr.add a17 ((Int.toNat i_6) * 1)) = some (Value.int .i64 n18) ∧
  V.sel (decide (n16 < n18))
  (I10 (IntKind.wrap .i64 (at_12 + 1)) (World.drew w14) ∧ μ11 (IntKind.wrap .i64 (at_12 + 1)) (World.drew w14) < μ11 at_12 w14)
  (J9 at_12 (World.drew w14)))))
  (J9 at_12 (World.drew w14)))) ∧
  ∀ at_19 (j20 : Nat → Value) (w21 : World), J9 at_19 w21 →
  ∃ J22 : World → Prop, (V.sel (decide (at_19 < ((out_5l : Nat) : Int)))
  (V.when (decide ((0 : Int) ≤ at_19 ∧ (at_19 : Int) < ((out_5l : Nat) : Int))) (V.ptr out_5 fun a23 =>
  ∃ n24, World.cell? w21 (Addr.add a23 ((Int.toNat at_19) * 1)) = some (Value.int .i64 n24) ∧
  V.when (decide ((0 : Int) ≤ i_6 ∧ (i_6 : Int) < ((all_1l : Nat) : Int))) (V.ptr all_1 fun a25 =>
  ∃ n26, World.cell? w21 (Addr.add a25 ((Int.toNat i_6) * 1)) = some (Value.int .i64 n26) ∧
  V.sel (n24 == n26)
  (I3 out_5 out_5l out_5c (IntKind.wrap .i64 (i_6 + 1)) (World.drew w21) ∧ μ4 out_5 out_5l out_5c (IntKind.wrap .i64 (i_6 + 1)) (World.drew w21) < μ4 out_5 out_5l out_5c i_6 w8)
  (J22  (World.drew w21)))))
  (J22  (World.drew w21))) ∧
  ∀ (j27 : Nat → Value) (w28 : World), J22  w28 →
  ∀ w29, w29 = (World.alloc w28 (.cells #[(Value.int .i64 0)] 3)) →
  ∃ A30, ∃ A30l, ∃ A30c, ∃ w31, Sem.run Try.prog (Builtin.append_ #[37, 37] 37 #[(Value.slice out_5 out_5l out_5c), (Value.slice (some ⟨Array.size (World.heap w28), 0, none⟩) 1 1)]) w29 = .ok (Value.slice A30 A30l A30c) w31 ∧
  V.lt (IntKind.wrap .i64 (((A30l : Nat) : Int) - 1)) fun x32 =>
  ∃ I33 : Int → World → Prop, ∃ μ34 : Int → World → Nat, I33 x32 w31 ∧
  ∀ j_35 (j36 : Nat → Value) (w37 : World), I33 j_35 w37 →
  (V.sel (decide (j_35 > at_19))
  (V.when (decide ((0 : Int) ≤ (IntKind.wrap .i64 (j_35 - 1)) ∧ ((IntKind.wrap .i64 (j_35 - 1)) : Int) < ((A30l : Nat) : Int))) (V.ptr A30 fun a38 =>
  ∃ n39, World.cell? w37 (Addr.add a38 ((Int.toNat (IntKind.wrap .i64 (j_35 - 1))) * 1)) = some (Value.int .i64 n39) ∧
  V.when (decide ((0 : Int) ≤ j_35 ∧ (j_35 : Int) < ((A30l : Nat) : Int))) (V.ptr A30 fun a40 =>
  ∃ w41, Sem.run Try.prog (Instr.storeAt 3 (Value.pointer (some (Addr.add a40 ((Int.toNat j_35) * 1)))) (Value.int .i64 n39)) w37 = .ok () w41 ∧
  I33 (IntKind.wrap .i64 (j_35 - 1)) w41 ∧ μ34 (IntKind.wrap .i64 (j_35 - 1)) w41 < μ34 j_35 w37)))
  (V.when (decide ((0 : Int) ≤ i_6 ∧ (i_6 : Int) < ((all_1l : Nat) : Int))) (V.ptr all_1 fun a42 =>
  ∃ n43, World.cell? w37 (Addr.add a42 ((Int.toNat i_6) * 1)) = some (Value.int .i64 n43) ∧
  V.when (decide ((0 : Int) ≤ at_19 ∧ (at_19 : Int) < ((A30l : Nat) : Int))) (V.ptr A30 fun a44 =>
  ∃ w45, Sem.run Try.prog (Instr.storeAt 3 (Value.pointer (some (Addr.add a44 ((Int.toNat at_19) * 1)))) (Value.int .i64 n43)) w37 = .ok () w45 ∧
  I3 A30 A30l A30c (IntKind.wrap .i64 (i_6 + 1)) w45 ∧ μ4 A30 A30l A30c (IntKind.wrap .i64 (i_6 + 1)) w45 < μ4 out_5 out_5l out_5c i_6 w8)))))
  (R (Ending.returned (Value.slice out_5 out_5l out_5c)) w8))) :
  Calls Try.prog 57 #[(Value.slice all_1 all_1l all_1c)] w R :=
  V.calls_of_R ⟨V.assoc [(0, [3, 4]), (1, [5]), (2, [6])], V.assocP [(6, V.line [0, 1, 2, 3, 4, 5, 6, 7, 8, 9, 10, 11, 12, 13, 14]), (8, V.line [0, 1, 2, 3, 4, 5, 6, 7, 8, 9, 10, 11, 12, 13, 14])], V.assocC [(1000009, ([5], [V.Sh.one (.int .i64)])), (1000010, ([], []))], V.assocS [], ⟨[], true⟩⟩ Try.func57 rfl (Eq.mp (by kernel_rfl) h)

theorem berthlaw08_hasJust_nf (s_1 : Option Addr) (members_2 : Option Addr) (members_2l : Nat) (members_2c : Nat) (w : World) (R : Ending → World → Prop) (h :
  Calls Try.prog 24 #[(Value.pointer s_1)] w fun e4 w5 =>
  ∃ A3, ∃ A3l, ∃ A3c, e4 = Ending.returned (Value.slice A3 A3l A3c) ∧
  V.sel (((A3l : Nat) : Int) != ((members_2l : Nat) : Int))
  (R (Ending.returned (Value.bool false)) w5)
  (∃ I6 : Int → World → Prop, ∃ μ7 : Int → World → Nat, I6 0 w5 ∧
  ∀ t16_8 (j9 : Nat → Value) (w10 : World), I6 t16_8 w10 →
  (V.sel (decide (t16_8 < ((A3l : Nat) : Int)))
  (V.when (decide ((0 : Int) ≤ t16_8 ∧ (t16_8 : Int) < ((A3l : Nat) : Int))) (V.ptr A3 fun a11 =>
  ∃ n12, World.cell? w10 (Addr.add a11 ((Int.toNat t16_8) * 1)) = some (Value.int .i64 n12) ∧
  V.when (decide ((0 : Int) ≤ t16_8 ∧ (t16_8 : Int) < ((members_2l : Nat) : Int))) (V.ptr members_2 fun a13 =>
  ∃ n14, World.cell? w10 (Addr.add a13 ((Int.toNat t16_8) * 1)) = some (Value.int .i64 n14) ∧
  V.sel (n12 != n14)
  (R (Ending.returned (Value.bool false)) (World.drew w10))
  (I6 (IntKind.wrap .i64 (t16_8 + 1)) (World.drew w10) ∧ μ7 (IntKind.wrap .i64 (t16_8 + 1)) (World.drew w10) < μ7 t16_8 w10))))
  (R (Ending.returned (Value.bool true)) w10)))) :
  Calls Try.prog 58 #[(Value.pointer s_1), (Value.slice members_2 members_2l members_2c)] w R :=
  V.calls_of_R ⟨V.assoc [(0, [16])], V.assocP [(7, V.line [0, 1, 2, 3, 4, 5, 6, 7, 8])], V.assocC [], V.assocS [], ⟨[], true⟩⟩ Try.func58 rfl (Eq.mp (by kernel_rfl) h)

theorem berthref08_Index_Keys_nf (x_1 : Int) (x_2 : Option Addr) (x_2l : Nat) (x_2c : Nat) (w : World) (R : Ending → World → Prop) (h :
  ∀ w3, w3 = (World.alloc w (.cells #[(Value.int .i64 x_1), (Value.slice x_2 x_2l x_2c)] 58)) →
  ∀ w4, w4 = (World.alloc w3 (.cells #[] 9)) →
  ∃ I5 : Option Addr → Nat → Nat → Int → World → Prop, ∃ μ6 : Option Addr → Nat → Nat → Int → World → Nat, I5 (some ⟨Array.size (World.heap w3), 0, none⟩) 0 0 0 w4 ∧
  ∀ out_7 out_7l out_7c i_8 (j9 : Nat → Value) (w10 : World), I5 out_7 out_7l out_7c i_8 w10 →
  (∃ A11, ∃ A11l, ∃ A11c, World.cell? w10 (Addr.add ⟨Array.size (World.heap w), 0, none⟩ 1) = some (Value.slice A11 A11l A11c) ∧
  V.sel (decide (i_8 < ((A11l : Nat) : Int)))
  (∃ A12, ∃ A12l, ∃ A12c, World.cell? w10 (Addr.add ⟨Array.size (World.heap w), 0, none⟩ 1) = some (Value.slice A12 A12l A12c) ∧
  V.when (decide ((0 : Int) ≤ i_8 ∧ (i_8 : Int) < ((A12l : Nat) : Int))) (V.ptr A12 fun a13 =>
  ∃ s14, World.cell? w10 (Addr.add (Addr.add a13 ((Int.toNat i_8) * 3)) 0) = some (Value.string s14) ∧
  ∃ J15 : Int → World → Prop, (∃ I16 : Int → World → Prop, ∃ μ17 : Int → World → Nat, I16 0 w10 ∧
  ∀ at_18 (j19 : Nat → Value) (w20 : World), I16 at_18 w20 →
  (V.sel (decide (at_18 < ((out_7l : Nat) : Int)))
  (V.when (decide ((0 : Int) ≤ at_18 ∧ (at_18 : Int) < ((out_7l : Nat) : Int))) (V.ptr out_7 fun a21 =>
  ∃ s22, World.cell? w20 (Addr.add a21 ((Int.toNat at_18) * 1)) = some (Value.string s22) ∧
  V.sel (Op.bytesLess (ByteArray.toList s22) (ByteArray.toList s14))
  (I16 (IntKind.wrap .i64 (at_18 + 1)) w20 ∧ μ17 (IntKind.wrap .i64 (at_18 + 1)) w20 < μ17 at_18 w20)
  (J15 at_18 w20)))
  (J15 at_18 w20))) ∧
  ∀ at_23 (j24 : Nat → Value) (w25 : World), J15 at_23 w25 →
  ∃ J26 : World → Prop, (V.sel (decide (at_23 < ((out_7l : Nat) : Int)))
  (V.when (decide ((0 : Int) ≤ at_23 ∧ (at_23 : Int) < ((out_7l : Nat) : Int))) (V.ptr out_7 fun a27 =>
  ∃ s28, World.cell? w25 (Addr.add a27 ((Int.toNat at_23) * 1)) = some (Value.string s28) ∧
  V.sel (ByteArray.toList s28 == ByteArray.toList s14)
  (I5 out_7 out_7l out_7c (IntKind.wrap .i64 (i_8 + 1)) w25 ∧ μ6 out_7 out_7l out_7c (IntKind.wrap .i64 (i_8 + 1)) w25 < μ6 out_7 out_7l out_7c i_8 w10)
  (J26  w25)))
  (J26  w25)) ∧
  ∀ (j29 : Nat → Value) (w30 : World), J26  w30 →
  ∀ w31, w31 = (World.alloc w30 (.cells #[(Value.string ByteArray.empty)] 9)) →
  ∃ A32, ∃ A32l, ∃ A32c, ∃ w33, Sem.run Try.prog (Builtin.append_ #[43, 43] 43 #[(Value.slice out_7 out_7l out_7c), (Value.slice (some ⟨Array.size (World.heap w30), 0, none⟩) 1 1)]) w31 = .ok (Value.slice A32 A32l A32c) w33 ∧
  V.lt (IntKind.wrap .i64 (((A32l : Nat) : Int) - 1)) fun x34 =>
  ∃ I35 : Int → World → Prop, ∃ μ36 : Int → World → Nat, I35 x34 w33 ∧
  ∀ j_37 (j38 : Nat → Value) (w39 : World), I35 j_37 w39 →
  (V.sel (decide (j_37 > at_23))
  (V.when (decide ((0 : Int) ≤ (IntKind.wrap .i64 (j_37 - 1)) ∧ ((IntKind.wrap .i64 (j_37 - 1)) : Int) < ((A32l : Nat) : Int))) (V.ptr A32 fun a40 =>
  ∃ s41, World.cell? w39 (Addr.add a40 ((Int.toNat (IntKind.wrap .i64 (j_37 - 1))) * 1)) = some (Value.string s41) ∧
  V.when (decide ((0 : Int) ≤ j_37 ∧ (j_37 : Int) < ((A32l : Nat) : Int))) (V.ptr A32 fun a42 =>
  ∃ w43, Sem.run Try.prog (Instr.storeAt 9 (Value.pointer (some (Addr.add a42 ((Int.toNat j_37) * 1)))) (Value.string s41)) w39 = .ok () w43 ∧
  I35 (IntKind.wrap .i64 (j_37 - 1)) w43 ∧ μ36 (IntKind.wrap .i64 (j_37 - 1)) w43 < μ36 j_37 w39)))
  (V.when (decide ((0 : Int) ≤ at_23 ∧ (at_23 : Int) < ((A32l : Nat) : Int))) (V.ptr A32 fun a44 =>
  ∃ w45, Sem.run Try.prog (Instr.storeAt 9 (Value.pointer (some (Addr.add a44 ((Int.toNat at_23) * 1)))) (Value.string s14)) w39 = .ok () w45 ∧
  I5 A32 A32l A32c (IntKind.wrap .i64 (i_8 + 1)) w45 ∧ μ6 A32 A32l A32c (IntKind.wrap .i64 (i_8 + 1)) w45 < μ6 out_7 out_7l out_7c i_8 w10)))))
  (R (Ending.returned (Value.slice out_7 out_7l out_7c)) w10))) :
  Calls Try.prog 60 #[(Value.agg #[(Value.int .i64 x_1), (Value.slice x_2 x_2l x_2c)])] w R :=
  V.calls_of_R ⟨V.assoc [(0, [3, 4]), (1, [6]), (2, [7])], V.assocP [], V.assocC [(1000010, ([6], [V.Sh.one (.int .i64)])), (1000011, ([], []))], V.assocS [], ⟨[], true⟩⟩ Try.func60 rfl (Eq.mp (by kernel_rfl) h)

theorem berthlaw08_World_set_nf (w_1 : Option Addr) (i_2 : Int) (s_3 : Option Addr) (members_4 : Option Addr) (members_4l : Nat) (members_4c : Nat) (w : World) (R : Ending → World → Prop) (h :
  V.ptr w_1 fun a5 =>
  V.when (decide ((0 : Int) ≤ i_2 ∧ (i_2 : Int) < 4)) (∃ p6, World.cell? w (Addr.add (Addr.add a5 0) ((Int.toNat i_2) * 1)) = some (Value.pointer p6) ∧
  V.sel (Option.isNone p6)
  (Calls Try.prog 13 #[(Value.pointer s_3)] w fun e8 w9 =>
  ∃ n7, e8 = Ending.returned (Value.int .i64 n7) ∧
  V.sel (n7 == 0)
  (R (Ending.returned (Value.bool (((members_4l : Nat) : Int) == 0))) w9)
  (R (Ending.returned (Value.bool false)) w9))
  (V.ptr w_1 fun a10 =>
  V.when (decide ((0 : Int) ≤ i_2 ∧ (i_2 : Int) < 4)) (∃ n11, World.cell? w (Addr.add (Addr.add (Addr.add a10 4) ((Int.toNat i_2) * 2)) 0) = some (Value.int .i64 n11) ∧
  Calls Try.prog 28 #[(Value.pointer s_3), (Value.int .i64 n11), (Value.slice members_4 members_4l members_4c)] w fun e13 w14 =>
  ∃ b12, e13 = Ending.returned (Value.bool b12) ∧
  R (Ending.returned (Value.bool b12)) w14)))) :
  Calls Try.prog 61 #[(Value.pointer w_1), (Value.int .i64 i_2), (Value.pointer s_3), (Value.slice members_4 members_4l members_4c)] w R :=
  V.calls_of_R ⟨V.assoc [], V.assocP [], V.assocC [], V.assocS [], ⟨[], true⟩⟩ Try.func61 rfl (Eq.mp (by kernel_rfl) h)

theorem berthref08_Index_Has_nf (x_1 : Int) (x_2 : Option Addr) (x_2l : Nat) (x_2c : Nat) (key_3 : ByteArray) (w : World) (R : Ending → World → Prop) (h :
  ∀ w4, w4 = (World.alloc w (.cells #[(Value.int .i64 x_1), (Value.slice x_2 x_2l x_2c)] 58)) →
  ∀ w5, w5 = (World.alloc w4 (.cells #[] 3)) →
  ∃ I6 : Option Addr → Nat → Nat → Int → World → Prop, ∃ μ7 : Option Addr → Nat → Nat → Int → World → Nat, I6 (some ⟨Array.size (World.heap w4), 0, none⟩) 0 0 0 w5 ∧
  ∀ all_8 all_8l all_8c i_9 (j10 : Nat → Value) (w11 : World), I6 all_8 all_8l all_8c i_9 w11 →
  (∃ A12, ∃ A12l, ∃ A12c, World.cell? w11 (Addr.add ⟨Array.size (World.heap w), 0, none⟩ 1) = some (Value.slice A12 A12l A12c) ∧
  V.sel (decide (i_9 < ((A12l : Nat) : Int)))
  (∃ A13, ∃ A13l, ∃ A13c, World.cell? w11 (Addr.add ⟨Array.size (World.heap w), 0, none⟩ 1) = some (Value.slice A13 A13l A13c) ∧
  V.when (decide ((0 : Int) ≤ i_9 ∧ (i_9 : Int) < ((A13l : Nat) : Int))) (V.ptr A13 fun a14 =>
  ∃ s15, World.cell? w11 (Addr.add (Addr.add a14 ((Int.toNat i_9) * 3)) 0) = some (Value.string s15) ∧
  V.sel (ByteArray.toList s15 == ByteArray.toList key_3)
  (∃ A16, ∃ A16l, ∃ A16c, World.cell? w11 (Addr.add ⟨Array.size (World.heap w), 0, none⟩ 1) = some (Value.slice A16 A16l A16c) ∧
  V.when (decide ((0 : Int) ≤ i_9 ∧ (i_9 : Int) < ((A16l : Nat) : Int))) (V.ptr A16 fun a17 =>
  ∃ n18, World.cell? w11 (Addr.add (Addr.add a17 ((Int.toNat i_9) * 3)) 1) = some (Value.int .i64 n18) ∧
  ∀ w19, w19 = (World.alloc w11 (.cells #[(Value.int .i64 n18)] 3)) →
  ∃ A20, ∃ A20l, ∃ A20c, ∃ w21, Sem.run Try.prog (Builtin.append_ #[37, 37] 37 #[(Value.slice all_8 all_8l all_8c), (Value.slice (some ⟨Array.size (World.heap w11), 0, none⟩) 1 1)]) w19 = .ok (Value.slice A20 A20l A20c) w21 ∧
  I6 A20 A20l A20c (IntKind.wrap .i64 (i_9 + 1)) w21 ∧ μ7 A20 A20l A20c (IntKind.wrap .i64 (i_9 + 1)) w21 < μ7 all_8 all_8l all_8c i_9 w11))
  (I6 all_8 all_8l all_8c (IntKind.wrap .i64 (i_9 + 1)) w11 ∧ μ7 all_8 all_8l all_8c (IntKind.wrap .i64 (i_9 + 1)) w11 < μ7 all_8 all_8l all_8c i_9 w11)))
  (Calls Try.prog 57 #[(Value.slice all_8 all_8l all_8c)] w11 fun e23 w24 =>
  ∃ A22, ∃ A22l, ∃ A22c, e23 = Ending.returned (Value.slice A22 A22l A22c) ∧
  R (Ending.returned (Value.slice A22 A22l A22c)) w24))) :
  Calls Try.prog 62 #[(Value.agg #[(Value.int .i64 x_1), (Value.slice x_2 x_2l x_2c)]), (Value.string key_3)] w R :=
  V.calls_of_R ⟨V.assoc [(0, [5, 6])], V.assocP [], V.assocC [], V.assocS [], ⟨[], true⟩⟩ Try.func62 rfl (Eq.mp (by kernel_rfl) h)

end Go.Proofs.Ytjlkdadafddodaa
