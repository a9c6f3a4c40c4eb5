/- Normal forms of the program's functions, printed by a program of mine; the kernel checks each. -/
import Derived.Test.YtoaeefjcjdhlkaaGreatProg
import Derived.Test.YtoaeefjcjdhlkaaGreatV4
set_option linter.unusedVariables false
set_option maxRecDepth 100000
namespace Go.Proofs.YtoaeefjcjdhlkaaGreat
open Go

theorem berthref26_Decode_nf (b_1 : Option Addr) (b_1l : Nat) (b_1c : Nat) (w : World) (R : Ending → World → Prop) (h :
  ∀ w2, w2 = (World.alloc w (.cells #[(Value.int .i64 0), (Value.int .i64 0), (Value.slice none 0 0), (Value.slice none 0 0), (Value.slice none 0 0)] 26)) →
  ∀ w3, w3 = (World.alloc w2 (.cells #[(Value.int .i64 0), (Value.int .i64 0), (Value.slice none 0 0), (Value.slice none 0 0), (Value.slice none 0 0)] 26)) →
  ∃ w4, Sem.run Tryz.prog (Instr.storeAt 26 (Value.pointer (some ⟨Array.size (World.heap w2), 0, none⟩)) (Value.agg #[(Value.int .i64 0), (Value.int .i64 0), (Value.slice none 0 0), (Value.slice none 0 0), (Value.slice none 0 0)])) w3 = .ok () w4 ∧
  V.sel (decide (((b_1l : Nat) : Int) > 16777216))
  (∃ n5, ∃ n6, ∃ A7, ∃ A7l, ∃ A7c, ∃ A8, ∃ A8l, ∃ A8c, ∃ A9, ∃ A9l, ∃ A9c, V.cellsC (fun a_ x_ => World.cell? w4 a_ = some x_) ⟨Array.size (World.heap w2), 0, none⟩ [(Value.int .i64 n5), (Value.int .i64 n6), (Value.slice A7 A7l A7c), (Value.slice A8 A8l A8c), (Value.slice A9 A9l A9c)] ∧
  ∃ w10, Sem.run Tryz.prog (Instr.storeAt 26 (Value.pointer (some ⟨Array.size (World.heap w), 0, none⟩)) (Value.agg #[(Value.int .i64 n5), (Value.int .i64 n6), (Value.slice A7 A7l A7c), (Value.slice A8 A8l A8c), (Value.slice A9 A9l A9c)])) w4 = .ok () w10 ∧
  ∃ n11, ∃ n12, ∃ A13, ∃ A13l, ∃ A13c, ∃ A14, ∃ A14l, ∃ A14c, ∃ A15, ∃ A15l, ∃ A15c, V.cellsC (fun a_ x_ => World.cell? w10 a_ = some x_) ⟨Array.size (World.heap w), 0, none⟩ [(Value.int .i64 n11), (Value.int .i64 n12), (Value.slice A13 A13l A13c), (Value.slice A14 A14l A14c), (Value.slice A15 A15l A15c)] ∧
  R (Ending.returned (Value.tuple #[(Value.agg #[(Value.int .i64 n11), (Value.int .i64 n12), (Value.slice A13 A13l A13c), (Value.slice A14 A14l A14c), (Value.slice A15 A15l A15c)]), (Value.int .i64 265), (Value.int .i64 (-1))])) w10)
  (∃ J16 : Value → Value → World → Prop, (∃ I17 : Int → World → Prop, ∃ μ18 : Int → World → Nat, I17 0 w4 ∧
  ∀ i_19 (j20 : Nat → Value) (w21 : World), I17 i_19 w21 →
  (∃ J22 : World → Prop, (V.sel (decide (i_19 < 6))
  (V.sel (decide (i_19 < ((b_1l : Nat) : Int)))
  (J22  w21)
  (J16 (j20 3) (j20 4) w21))
  (J16 (j20 3) (j20 4) w21)) ∧
  ∀ (j23 : Nat → Value) (w24 : World), J22  w24 →
  V.when (decide ((0 : Int) ≤ i_19 ∧ (i_19 : Int) < ((b_1l : Nat) : Int))) (V.ptr b_1 fun a25 =>
  ∃ n26, World.cell? w24 (Addr.add a25 ((Int.toNat i_19) * 1)) = some (Value.int .u8 n26) ∧
  V.when (decide ((0 : Int) ≤ i_19 ∧ (i_19 : Int) < ((ByteArray.size ⟨#[98, 101, 114, 116, 104, 1]⟩ : Nat) : Int))) (V.sel (n26 != (V.byteAt ⟨#[98, 101, 114, 116, 104, 1]⟩ i_19))
  (∃ n27, ∃ n28, ∃ A29, ∃ A29l, ∃ A29c, ∃ A30, ∃ A30l, ∃ A30c, ∃ A31, ∃ A31l, ∃ A31c, V.cellsC (fun a_ x_ => World.cell? (World.drew w24) a_ = some x_) ⟨Array.size (World.heap w2), 0, none⟩ [(Value.int .i64 n27), (Value.int .i64 n28), (Value.slice A29 A29l A29c), (Value.slice A30 A30l A30c), (Value.slice A31 A31l A31c)] ∧
  ∃ w32, Sem.run Tryz.prog (Instr.storeAt 26 (Value.pointer (some ⟨Array.size (World.heap w), 0, none⟩)) (Value.agg #[(Value.int .i64 n27), (Value.int .i64 n28), (Value.slice A29 A29l A29c), (Value.slice A30 A30l A30c), (Value.slice A31 A31l A31c)])) (World.drew w24) = .ok () w32 ∧
  ∃ n33, ∃ n34, ∃ A35, ∃ A35l, ∃ A35c, ∃ A36, ∃ A36l, ∃ A36c, ∃ A37, ∃ A37l, ∃ A37c, V.cellsC (fun a_ x_ => World.cell? w32 a_ = some x_) ⟨Array.size (World.heap w), 0, none⟩ [(Value.int .i64 n33), (Value.int .i64 n34), (Value.slice A35 A35l A35c), (Value.slice A36 A36l A36c), (Value.slice A37 A37l A37c)] ∧
  R (Ending.returned (Value.tuple #[(Value.agg #[(Value.int .i64 n33), (Value.int .i64 n34), (Value.slice A35 A35l A35c), (Value.slice A36 A36l A36c), (Value.slice A37 A37l A37c)]), (Value.int .i64 260), (Value.int .i64 i_19)])) w32)
  (I17 (IntKind.wrap .i64 (i_19 + 1)) (World.drew w24) ∧ μ18 (IntKind.wrap .i64 (i_19 + 1)) (World.drew w24) < μ18 i_19 w21))))) ∧
  ∀ t3_38 t4_39 (j40 : Nat → Value) (w41 : World), J16 t3_38 t4_39 w41 →
  V.sel (decide (((b_1l : Nat) : Int) < 14))
  (∃ n42, ∃ n43, ∃ A44, ∃ A44l, ∃ A44c, ∃ A45, ∃ A45l, ∃ A45c, ∃ A46, ∃ A46l, ∃ A46c, V.cellsC (fun a_ x_ => World.cell? w41 a_ = some x_) ⟨Array.size (World.heap w2), 0, none⟩ [(Value.int .i64 n42), (Value.int .i64 n43), (Value.slice A44 A44l A44c), (Value.slice A45 A45l A45c), (Value.slice A46 A46l A46c)] ∧
  ∃ w47, Sem.run Tryz.prog (Instr.storeAt 26 (Value.pointer (some ⟨Array.size (World.heap w), 0, none⟩)) (Value.agg #[(Value.int .i64 n42), (Value.int .i64 n43), (Value.slice A44 A44l A44c), (Value.slice A45 A45l A45c), (Value.slice A46 A46l A46c)])) w41 = .ok () w47 ∧
  ∃ n48, ∃ n49, ∃ A50, ∃ A50l, ∃ A50c, ∃ A51, ∃ A51l, ∃ A51c, ∃ A52, ∃ A52l, ∃ A52c, V.cellsC (fun a_ x_ => World.cell? w47 a_ = some x_) ⟨Array.size (World.heap w), 0, none⟩ [(Value.int .i64 n48), (Value.int .i64 n49), (Value.slice A50 A50l A50c), (Value.slice A51 A51l A51c), (Value.slice A52 A52l A52c)] ∧
  R (Ending.returned (Value.tuple #[(Value.agg #[(Value.int .i64 n48), (Value.int .i64 n49), (Value.slice A50 A50l A50c), (Value.slice A51 A51l A51c), (Value.slice A52 A52l A52c)]), (Value.int .i64 262), (Value.int .i64 ((b_1l : Nat) : Int))])) w47)
  (V.lt (IntKind.wrap .i64 (((b_1l : Nat) : Int) - 8)) fun x53 =>
  V.when (decide ((0 : Int) ≤ x53 ∧ (x53 : Int) ≤ ((b_1c : Nat) : Int))) (Calls Tryz.prog 42 #[(Value.slice (V.cut b_1 b_1c 0 1) ((Int.toNat x53) - 0) (b_1c - 0))] w41 fun e55 w56 =>
  ∃ n54, e55 = Ending.returned (Value.int .u64 n54) ∧
  ∃ J57 : Value → Value → World → Prop, (∃ I58 : Int → World → Prop, ∃ μ59 : Int → World → Nat, I58 0 w56 ∧
  ∀ i_60 (j61 : Nat → Value) (w62 : World), I58 i_60 w62 →
  (V.sel (decide (i_60 < 8))
  (V.when (decide ((0 : Int) ≤ (IntKind.wrap .i64 (x53 + i_60)) ∧ ((IntKind.wrap .i64 (x53 + i_60)) : Int) < ((b_1l : Nat) : Int))) (V.ptr b_1 fun a63 =>
  ∃ n64, World.cell? w62 (Addr.add a63 ((Int.toNat (IntKind.wrap .i64 (x53 + i_60))) * 1)) = some (Value.int .u8 n64) ∧
  V.when (decide (0 ≤ (IntKind.wrap .i64 (8 * i_60)))) (V.sel (n64 != (IntKind.wrap .u8 ((Int.fdiv n54 (2 ^ (min (Int.toNat (IntKind.wrap .i64 (8 * i_60))) 64))))))
  (∃ n65, ∃ n66, ∃ A67, ∃ A67l, ∃ A67c, ∃ A68, ∃ A68l, ∃ A68c, ∃ A69, ∃ A69l, ∃ A69c, V.cellsC (fun a_ x_ => World.cell? (World.drew w62) a_ = some x_) ⟨Array.size (World.heap w2), 0, none⟩ [(Value.int .i64 n65), (Value.int .i64 n66), (Value.slice A67 A67l A67c), (Value.slice A68 A68l A68c), (Value.slice A69 A69l A69c)] ∧
  ∃ w70, Sem.run Tryz.prog (Instr.storeAt 26 (Value.pointer (some ⟨Array.size (World.heap w), 0, none⟩)) (Value.agg #[(Value.int .i64 n65), (Value.int .i64 n66), (Value.slice A67 A67l A67c), (Value.slice A68 A68l A68c), (Value.slice A69 A69l A69c)])) (World.drew w62) = .ok () w70 ∧
  ∃ n71, ∃ n72, ∃ A73, ∃ A73l, ∃ A73c, ∃ A74, ∃ A74l, ∃ A74c, ∃ A75, ∃ A75l, ∃ A75c, V.cellsC (fun a_ x_ => World.cell? w70 a_ = some x_) ⟨Array.size (World.heap w), 0, none⟩ [(Value.int .i64 n71), (Value.int .i64 n72), (Value.slice A73 A73l A73c), (Value.slice A74 A74l A74c), (Value.slice A75 A75l A75c)] ∧
  R (Ending.returned (Value.tuple #[(Value.agg #[(Value.int .i64 n71), (Value.int .i64 n72), (Value.slice A73 A73l A73c), (Value.slice A74 A74l A74c), (Value.slice A75 A75l A75c)]), (Value.int .i64 261), (Value.int .i64 x53)])) w70)
  (I58 (IntKind.wrap .i64 (i_60 + 1)) (World.drew w62) ∧ μ59 (IntKind.wrap .i64 (i_60 + 1)) (World.drew w62) < μ59 i_60 w62))))
  (J57 (j61 3) (j61 4) w62))) ∧
  ∀ t3_76 t4_77 (j78 : Nat → Value) (w79 : World), J57 t3_76 t4_77 w79 →
  ∀ w80, w80 = (World.alloc w79 (.cells #[(Value.slice b_1 b_1l b_1c), (Value.int .i64 6), (Value.int .i64 x53), (Value.slice none 0 0), (Value.slice none 0 0), (Value.slice none 0 0), (Value.int .i64 0), (Value.int .i64 0)] 149)) →
  Calls Tryz.prog 70 #[(Value.pointer (some ⟨Array.size (World.heap w79), 0, none⟩))] w80 fun e81 w82 =>
  e81 = Ending.returned undef ∧
  Calls Tryz.prog 71 #[(Value.pointer (some ⟨Array.size (World.heap w79), 0, none⟩))] w82 fun e88 w89 =>
  ∃ n83, ∃ n84, ∃ A85, ∃ A85l, ∃ A85c, ∃ A86, ∃ A86l, ∃ A86c, ∃ A87, ∃ A87l, ∃ A87c, e88 = Ending.returned (Value.agg #[(Value.int .i64 n83), (Value.int .i64 n84), (Value.slice A85 A85l A85c), (Value.slice A86 A86l A86c), (Value.slice A87 A87l A87c)]) ∧
  ∀ w90, w90 = (World.alloc w89 (.cells #[(Value.int .i64 0), (Value.int .i64 0), (Value.slice none 0 0), (Value.slice none 0 0), (Value.slice none 0 0)] 26)) →
  ∃ w91, Sem.run Tryz.prog (Instr.storeAt 26 (Value.pointer (some ⟨Array.size (World.heap w89), 0, none⟩)) (Value.agg #[(Value.int .i64 n83), (Value.int .i64 n84), (Value.slice A85 A85l A85c), (Value.slice A86 A86l A86c), (Value.slice A87 A87l A87c)])) w90 = .ok () w91 ∧
  ∃ J92 : World → Prop, (∃ n93, World.cell? w91 (Addr.add ⟨Array.size (World.heap w79), 0, none⟩ 6) = some (Value.int .i64 n93) ∧
  V.sel (n93 == 0)
  (∃ n94, World.cell? w91 (Addr.add ⟨Array.size (World.heap w79), 0, none⟩ 1) = some (Value.int .i64 n94) ∧
  V.sel (n94 != x53)
  (∃ n95, World.cell? w91 (Addr.add ⟨Array.size (World.heap w79), 0, none⟩ 1) = some (Value.int .i64 n95) ∧
  Calls Tryz.prog 72 #[(Value.pointer (some ⟨Array.size (World.heap w79), 0, none⟩)), (Value.int .i64 264), (Value.int .i64 n95)] w91 fun e96 w97 =>
  e96 = Ending.returned undef ∧
  J92  w97)
  (J92  w91))
  (J92  w91)) ∧
  ∀ (j98 : Nat → Value) (w99 : World), J92  w99 →
  ∃ J100 : World → Prop, (∃ I101 : Int → World → Prop, ∃ μ102 : Int → World → Nat, I101 0 w99 ∧
  ∀ i_103 (j104 : Nat → Value) (w105 : World), I101 i_103 w105 →
  (∃ A106, ∃ A106l, ∃ A106c, World.cell? w105 (Addr.add ⟨Array.size (World.heap w79), 0, none⟩ 3) = some (Value.slice A106 A106l A106c) ∧
  V.sel (decide (i_103 < ((A106l : Nat) : Int)))
  (∃ A107, ∃ A107l, ∃ A107c, World.cell? w105 (Addr.add ⟨Array.size (World.heap w79), 0, none⟩ 5) = some (Value.slice A107 A107l A107c) ∧
  V.when (decide ((0 : Int) ≤ i_103 ∧ (i_103 : Int) < ((A107l : Nat) : Int))) (V.ptr A107 fun a108 =>
  ∃ b109, World.cell? w105 (Addr.add a108 ((Int.toNat i_103) * 1)) = some (Value.bool b109) ∧
  V.sel (!b109)
  (∃ A110, ∃ A110l, ∃ A110c, World.cell? w105 (Addr.add ⟨Array.size (World.heap w79), 0, none⟩ 4) = some (Value.slice A110 A110l A110c) ∧
  V.when (decide ((0 : Int) ≤ i_103 ∧ (i_103 : Int) < ((A110l : Nat) : Int))) (V.ptr A110 fun a111 =>
  ∃ n112, World.cell? w105 (Addr.add a111 ((Int.toNat i_103) * 1)) = some (Value.int .i64 n112) ∧
  Calls Tryz.prog 72 #[(Value.pointer (some ⟨Array.size (World.heap w79), 0, none⟩)), (Value.int .i64 263), (Value.int .i64 n112)] w105 fun e113 w114 =>
  e113 = Ending.returned undef ∧
  J100  w114))
  (I101 (IntKind.wrap .i64 (i_103 + 1)) w105 ∧ μ102 (IntKind.wrap .i64 (i_103 + 1)) w105 < μ102 i_103 w105)))
  (J100  w105))) ∧
  ∀ (j115 : Nat → Value) (w116 : World), J100  w116 →
  ∃ n117, World.cell? w116 (Addr.add ⟨Array.size (World.heap w79), 0, none⟩ 6) = some (Value.int .i64 n117) ∧
  V.sel (n117 != 0)
  (∃ S118 : World → Prop, S118 (World.drew w116) ∧
  ∃ n120, ∃ n121, ∃ A122, ∃ A122l, ∃ A122c, ∃ A123, ∃ A123l, ∃ A123c, ∃ A124, ∃ A124l, ∃ A124c, V.cellsC (fun a_ x_ => ∀ w119, S118 w119 → World.cell? w119 a_ = some x_) ⟨Array.size (World.heap w2), 0, none⟩ [(Value.int .i64 n120), (Value.int .i64 n121), (Value.slice A122 A122l A122c), (Value.slice A123 A123l A123c), (Value.slice A124 A124l A124c)] ∧
  ∃ n125, (∀ w119, S118 w119 → World.cell? w119 (Addr.add ⟨Array.size (World.heap w79), 0, none⟩ 6) = some (Value.int .i64 n125)) ∧
  ∃ n126, (∀ w119, S118 w119 → World.cell? w119 (Addr.add ⟨Array.size (World.heap w79), 0, none⟩ 7) = some (Value.int .i64 n126)) ∧
  ∃ w127, Sem.run Tryz.prog (Instr.storeAt 26 (Value.pointer (some ⟨Array.size (World.heap w), 0, none⟩)) (Value.agg #[(Value.int .i64 n120), (Value.int .i64 n121), (Value.slice A122 A122l A122c), (Value.slice A123 A123l A123c), (Value.slice A124 A124l A124c)])) (World.drew w116) = .ok () w127 ∧
  S118 w127 ∧
  ∃ n128, ∃ n129, ∃ A130, ∃ A130l, ∃ A130c, ∃ A131, ∃ A131l, ∃ A131c, ∃ A132, ∃ A132l, ∃ A132c, V.cellsC (fun a_ x_ => World.cell? w127 a_ = some x_) ⟨Array.size (World.heap w), 0, none⟩ [(Value.int .i64 n128), (Value.int .i64 n129), (Value.slice A130 A130l A130c), (Value.slice A131 A131l A131c), (Value.slice A132 A132l A132c)] ∧
  R (Ending.returned (Value.tuple #[(Value.agg #[(Value.int .i64 n128), (Value.int .i64 n129), (Value.slice A130 A130l A130c), (Value.slice A131 A131l A131c), (Value.slice A132 A132l A132c)]), (Value.int .i64 n125), (Value.int .i64 n126)])) w127)
  (∃ n133, ∃ n134, ∃ A135, ∃ A135l, ∃ A135c, ∃ A136, ∃ A136l, ∃ A136c, ∃ A137, ∃ A137l, ∃ A137c, V.cellsC (fun a_ x_ => World.cell? w116 a_ = some x_) ⟨Array.size (World.heap w89), 0, none⟩ [(Value.int .i64 n133), (Value.int .i64 n134), (Value.slice A135 A135l A135c), (Value.slice A136 A136l A136c), (Value.slice A137 A137l A137c)] ∧
  ∃ w138, Sem.run Tryz.prog (Instr.storeAt 26 (Value.pointer (some ⟨Array.size (World.heap w), 0, none⟩)) (Value.agg #[(Value.int .i64 n133), (Value.int .i64 n134), (Value.slice A135 A135l A135c), (Value.slice A136 A136l A136c), (Value.slice A137 A137l A137c)])) w116 = .ok () w138 ∧
  ∃ n139, ∃ n140, ∃ A141, ∃ A141l, ∃ A141c, ∃ A142, ∃ A142l, ∃ A142c, ∃ A143, ∃ A143l, ∃ A143c, V.cellsC (fun a_ x_ => World.cell? w138 a_ = some x_) ⟨Array.size (World.heap w), 0, none⟩ [(Value.int .i64 n139), (Value.int .i64 n140), (Value.slice A141 A141l A141c), (Value.slice A142 A142l A142c), (Value.slice A143 A143l A143c)] ∧
  R (Ending.returned (Value.tuple #[(Value.agg #[(Value.int .i64 n139), (Value.int .i64 n140), (Value.slice A141 A141l A141c), (Value.slice A142 A142l A142c), (Value.slice A143 A143l A143c)]), (Value.int .i64 0), (Value.int .i64 0)])) w138))))) :
  Calls Tryz.prog 40 #[(Value.slice b_1 b_1l b_1c)] w R :=
  V.Z.calls_of_N ⟨V.assoc [(0, [6]), (1, [9]), (2, [12])], V.assocP [(7, V.line [0, 1, 2, 3, 4, 5, 6]), (16, V.line [0, 1, 2, 3, 4, 5, 6, 7, 8, 9, 10, 11]), (29, V.line [0, 1, 2, 3, 4, 5, 6, 7, 8, 9, 10, 11])], V.assocC [(1000008, ([], [])), (1000010, ([3, 4], [V.Sh.one .any, V.Sh.one .any])), (1000019, ([3, 4], [V.Sh.one .any, V.Sh.one .any])), (1000024, ([], [])), (1000029, ([], []))], V.assocS [], ⟨[], true⟩⟩ Tryz.func40 rfl (Eq.mp (by kernel_rfl) h)

theorem berthref26_Sum_nf (b_1 : Option Addr) (b_1l : Nat) (b_1c : Nat) (w : World) (R : Ending → World → Prop) (h :
  ∃ I2 : Int → Int → World → Prop, ∃ μ3 : Int → Int → World → Nat, I2 14695981039346656037 0 w ∧
  ∀ h_4 i_5 (j6 : Nat → Value) (w7 : World), I2 h_4 i_5 w7 →
  (V.sel (decide (i_5 < ((b_1l : Nat) : Int)))
  (V.when (decide ((0 : Int) ≤ i_5 ∧ (i_5 : Int) < ((b_1l : Nat) : Int))) (V.ptr b_1 fun a8 =>
  ∃ n9, World.cell? w7 (Addr.add a8 ((Int.toNat i_5) * 1)) = some (Value.int .u8 n9) ∧
  V.lt (IntKind.wrap .u64 ((IntKind.wrap .u64 ((BitVec.toNat (BitVec.ofInt 64 h_4 ^^^ BitVec.ofInt 64 (IntKind.wrap .u64 (n9))) : Nat) : Int)) * 1099511628211)) fun x10 =>
  I2 x10 (IntKind.wrap .i64 (i_5 + 1)) w7 ∧ μ3 x10 (IntKind.wrap .i64 (i_5 + 1)) w7 < μ3 h_4 i_5 w7))
  (R (Ending.returned (Value.int .u64 h_4)) w7))) :
  Calls Tryz.prog 42 #[(Value.slice b_1 b_1l b_1c)] w R :=
  V.Z.calls_of_N ⟨V.assoc [(0, [3, 4])], V.assocP [], V.assocC [], V.assocS [], ⟨[], true⟩⟩ Tryz.func42 rfl (Eq.mp (by kernel_rfl) h)

theorem berthref26_number_nf (l_1 : Option Addr) (l_1l : Nat) (l_1c : Nat) (n_2 : Int) (w : World) (R : Ending → World → Prop) (h :
  ∀ w3, w3 = (World.alloc w (.cells #[(Value.int .i64 2), (Value.int .i64 n_2), (Value.string ByteArray.empty)] 61)) →
  ∃ A4, ∃ A4l, ∃ A4c, ∃ w5, Sem.run Tryz.prog (Builtin.append_ #[54, 54] 54 #[(Value.slice l_1 l_1l l_1c), (Value.slice (some ⟨Array.size (World.heap w), 0, none⟩) 1 1)]) w3 = .ok (Value.slice A4 A4l A4c) w5 ∧
  R (Ending.returned (Value.slice A4 A4l A4c)) w5) :
  Calls Tryz.prog 43 #[(Value.slice l_1 l_1l l_1c), (Value.int .i64 n_2)] w R :=
  V.Z.calls_of_N ⟨V.assoc [], V.assocP [], V.assocC [], V.assocS [], ⟨[], true⟩⟩ Tryz.func43 rfl (Eq.mp (by kernel_rfl) h)

theorem berthref26_count_nf (l_1 : Option Addr) (l_1l : Nat) (l_1c : Nat) (n_2 : Int) (w : World) (R : Ending → World → Prop) (h :
  ∀ w3, w3 = (World.alloc w (.cells #[(Value.int .i64 1), (Value.int .i64 n_2), (Value.string ByteArray.empty)] 61)) →
  ∃ A4, ∃ A4l, ∃ A4c, ∃ w5, Sem.run Tryz.prog (Builtin.append_ #[54, 54] 54 #[(Value.slice l_1 l_1l l_1c), (Value.slice (some ⟨Array.size (World.heap w), 0, none⟩) 1 1)]) w3 = .ok (Value.slice A4 A4l A4c) w5 ∧
  R (Ending.returned (Value.slice A4 A4l A4c)) w5) :
  Calls Tryz.prog 44 #[(Value.slice l_1 l_1l l_1c), (Value.int .i64 n_2)] w R :=
  V.Z.calls_of_N ⟨V.assoc [], V.assocP [], V.assocC [], V.assocS [], ⟨[], true⟩⟩ Tryz.func44 rfl (Eq.mp (by kernel_rfl) h)

theorem berthref26_node_nf (l_1 : Option Addr) (l_1l : Nat) (l_1c : Nat) (n_2 : ByteArray) (n_3 : Option Addr) (n_3l : Nat) (n_3c : Nat) (n_4 : Option Addr) (n_4l : Nat) (n_4c : Nat) (n_5 : Option Addr) (n_5l : Nat) (n_5c : Nat) (n_6 : Bool) (w : World) (R : Ending → World → Prop) (h :
  ∀ w7, w7 = (World.alloc w (.cells #[(Value.string n_2), (Value.slice n_3 n_3l n_3c), (Value.slice n_4 n_4l n_4c), (Value.slice n_5 n_5l n_5c), (Value.bool n_6)] 53)) →
  ∃ s8, World.cell? w7 (Addr.add ⟨Array.size (World.heap w), 0, none⟩ 0) = some (Value.string s8) ∧
  Calls Tryz.prog 47 #[(Value.slice l_1 l_1l l_1c), (Value.string s8)] w7 fun e10 w11 =>
  ∃ A9, ∃ A9l, ∃ A9c, e10 = Ending.returned (Value.slice A9 A9l A9c) ∧
  ∃ A12, ∃ A12l, ∃ A12c, World.cell? w11 (Addr.add ⟨Array.size (World.heap w), 0, none⟩ 1) = some (Value.slice A12 A12l A12c) ∧
  Calls Tryz.prog 73 #[(Value.slice A9 A9l A9c), (Value.slice A12 A12l A12c)] w11 fun e14 w15 =>
  ∃ A13, ∃ A13l, ∃ A13c, e14 = Ending.returned (Value.slice A13 A13l A13c) ∧
  ∃ A16, ∃ A16l, ∃ A16c, World.cell? w15 (Addr.add ⟨Array.size (World.heap w), 0, none⟩ 2) = some (Value.slice A16 A16l A16c) ∧
  Calls Tryz.prog 44 #[(Value.slice A13 A13l A13c), (Value.int .i64 ((A16l : Nat) : Int))] w15 fun e18 w19 =>
  ∃ A17, ∃ A17l, ∃ A17c, e18 = Ending.returned (Value.slice A17 A17l A17c) ∧
  ∃ I20 : Option Addr → Nat → Nat → Int → World → Prop, ∃ μ21 : Option Addr → Nat → Nat → Int → World → Nat, I20 A17 A17l A17c 0 w19 ∧
  ∀ l_22 l_22l l_22c i_23 (j24 : Nat → Value) (w25 : World), I20 l_22 l_22l l_22c i_23 w25 →
  (∃ A26, ∃ A26l, ∃ A26c, World.cell? w25 (Addr.add ⟨Array.size (World.heap w), 0, none⟩ 2) = some (Value.slice A26 A26l A26c) ∧
  V.sel (decide (i_23 < ((A26l : Nat) : Int)))
  (∃ A27, ∃ A27l, ∃ A27c, World.cell? w25 (Addr.add ⟨Array.size (World.heap w), 0, none⟩ 2) = some (Value.slice A27 A27l A27c) ∧
  V.when (decide ((0 : Int) ≤ i_23 ∧ (i_23 : Int) < ((A27l : Nat) : Int))) (V.ptr A27 fun a28 =>
  ∃ s29, World.cell? w25 (Addr.add (Addr.add a28 ((Int.toNat i_23) * 3)) 0) = some (Value.string s29) ∧
  Calls Tryz.prog 47 #[(Value.slice l_22 l_22l l_22c), (Value.string s29)] w25 fun e31 w32 =>
  ∃ A30, ∃ A30l, ∃ A30c, e31 = Ending.returned (Value.slice A30 A30l A30c) ∧
  ∃ A33, ∃ A33l, ∃ A33c, World.cell? w32 (Addr.add ⟨Array.size (World.heap w), 0, none⟩ 2) = some (Value.slice A33 A33l A33c) ∧
  V.when (decide ((0 : Int) ≤ i_23 ∧ (i_23 : Int) < ((A33l : Nat) : Int))) (V.ptr A33 fun a34 =>
  ∃ s35, World.cell? w32 (Addr.add (Addr.add a34 ((Int.toNat i_23) * 3)) 1) = some (Value.string s35) ∧
  Calls Tryz.prog 47 #[(Value.slice A30 A30l A30c), (Value.string s35)] w32 fun e37 w38 =>
  ∃ A36, ∃ A36l, ∃ A36c, e37 = Ending.returned (Value.slice A36 A36l A36c) ∧
  ∃ A39, ∃ A39l, ∃ A39c, World.cell? w38 (Addr.add ⟨Array.size (World.heap w), 0, none⟩ 2) = some (Value.slice A39 A39l A39c) ∧
  V.when (decide ((0 : Int) ≤ i_23 ∧ (i_23 : Int) < ((A39l : Nat) : Int))) (V.ptr A39 fun a40 =>
  ∃ s41, World.cell? w38 (Addr.add (Addr.add a40 ((Int.toNat i_23) * 3)) 2) = some (Value.string s41) ∧
  Calls Tryz.prog 47 #[(Value.slice A36 A36l A36c), (Value.string s41)] w38 fun e43 w44 =>
  ∃ A42, ∃ A42l, ∃ A42c, e43 = Ending.returned (Value.slice A42 A42l A42c) ∧
  I20 A42 A42l A42c (IntKind.wrap .i64 (i_23 + 1)) w44 ∧ μ21 A42 A42l A42c (IntKind.wrap .i64 (i_23 + 1)) w44 < μ21 l_22 l_22l l_22c i_23 w25))))
  (∃ A45, ∃ A45l, ∃ A45c, World.cell? w25 (Addr.add ⟨Array.size (World.heap w), 0, none⟩ 3) = some (Value.slice A45 A45l A45c) ∧
  Calls Tryz.prog 74 #[(Value.slice l_22 l_22l l_22c), (Value.slice A45 A45l A45c)] w25 fun e47 w48 =>
  ∃ A46, ∃ A46l, ∃ A46c, e47 = Ending.returned (Value.slice A46 A46l A46c) ∧
  ∃ b49, World.cell? w48 (Addr.add ⟨Array.size (World.heap w), 0, none⟩ 4) = some (Value.bool b49) ∧
  Calls Tryz.prog 48 #[(Value.slice A46 A46l A46c), (Value.bool b49)] w48 fun e51 w52 =>
  ∃ A50, ∃ A50l, ∃ A50c, e51 = Ending.returned (Value.slice A50 A50l A50c) ∧
  R (Ending.returned (Value.slice A50 A50l A50c)) w52))) :
  Calls Tryz.prog 45 #[(Value.slice l_1 l_1l l_1c), (Value.agg #[(Value.string n_2), (Value.slice n_3 n_3l n_3c), (Value.slice n_4 n_4l n_4c), (Value.slice n_5 n_5l n_5c), (Value.bool n_6)])] w R :=
  V.Z.calls_of_N ⟨V.assoc [(0, [0, 5])], V.assocP [], V.assocC [], V.assocS [], ⟨[], true⟩⟩ Tryz.func45 rfl (Eq.mp (by kernel_rfl) h)

theorem berthref26_pod_nf (l_1 : Option Addr) (l_1l : Nat) (l_1c : Nat) (p_2 : ByteArray) (p_3 : Option Addr) (p_3l : Nat) (p_3c : Nat) (p_4 : Option Addr) (p_4l : Nat) (p_4c : Nat) (p_5 : Option Addr) (p_5l : Nat) (p_5c : Nat) (p_6 : ByteArray) (p_7 : Option Addr) (p_7l : Nat) (p_7c : Nat) (p_8 : Option Addr) (p_8l : Nat) (p_8c : Nat) (p_9 : Int) (w : World) (R : Ending → World → Prop) (h :
  ∀ w10, w10 = (World.alloc w (.cells #[(Value.string p_2), (Value.slice p_3 p_3l p_3c), (Value.slice p_4 p_4l p_4c), (Value.slice p_5 p_5l p_5c), (Value.string p_6), (Value.slice p_7 p_7l p_7c), (Value.slice p_8 p_8l p_8c), (Value.int .i64 p_9)] 68)) →
  ∃ s11, World.cell? w10 (Addr.add ⟨Array.size (World.heap w), 0, none⟩ 0) = some (Value.string s11) ∧
  Calls Tryz.prog 47 #[(Value.slice l_1 l_1l l_1c), (Value.string s11)] w10 fun e13 w14 =>
  ∃ A12, ∃ A12l, ∃ A12c, e13 = Ending.returned (Value.slice A12 A12l A12c) ∧
  ∃ A15, ∃ A15l, ∃ A15c, World.cell? w14 (Addr.add ⟨Array.size (World.heap w), 0, none⟩ 1) = some (Value.slice A15 A15l A15c) ∧
  Calls Tryz.prog 73 #[(Value.slice A12 A12l A12c), (Value.slice A15 A15l A15c)] w14 fun e17 w18 =>
  ∃ A16, ∃ A16l, ∃ A16c, e17 = Ending.returned (Value.slice A16 A16l A16c) ∧
  ∃ A19, ∃ A19l, ∃ A19c, World.cell? w18 (Addr.add ⟨Array.size (World.heap w), 0, none⟩ 2) = some (Value.slice A19 A19l A19c) ∧
  Calls Tryz.prog 74 #[(Value.slice A16 A16l A16c), (Value.slice A19 A19l A19c)] w18 fun e21 w22 =>
  ∃ A20, ∃ A20l, ∃ A20c, e21 = Ending.returned (Value.slice A20 A20l A20c) ∧
  ∃ A23, ∃ A23l, ∃ A23c, World.cell? w22 (Addr.add ⟨Array.size (World.heap w), 0, none⟩ 3) = some (Value.slice A23 A23l A23c) ∧
  Calls Tryz.prog 44 #[(Value.slice A20 A20l A20c), (Value.int .i64 ((A23l : Nat) : Int))] w22 fun e25 w26 =>
  ∃ A24, ∃ A24l, ∃ A24c, e25 = Ending.returned (Value.slice A24 A24l A24c) ∧
  ∃ I27 : Option Addr → Nat → Nat → Int → World → Prop, ∃ μ28 : Option Addr → Nat → Nat → Int → World → Nat, I27 A24 A24l A24c 0 w26 ∧
  ∀ l_29 l_29l l_29c i_30 (j31 : Nat → Value) (w32 : World), I27 l_29 l_29l l_29c i_30 w32 →
  (∃ A33, ∃ A33l, ∃ A33c, World.cell? w32 (Addr.add ⟨Array.size (World.heap w), 0, none⟩ 3) = some (Value.slice A33 A33l A33c) ∧
  V.sel (decide (i_30 < ((A33l : Nat) : Int)))
  (∃ A34, ∃ A34l, ∃ A34c, World.cell? w32 (Addr.add ⟨Array.size (World.heap w), 0, none⟩ 3) = some (Value.slice A34 A34l A34c) ∧
  V.when (decide ((0 : Int) ≤ i_30 ∧ (i_30 : Int) < ((A34l : Nat) : Int))) (V.ptr A34 fun a35 =>
  ∃ s36, ∃ s37, ∃ s38, ∃ s39, V.cellsC (fun a_ x_ => World.cell? w32 a_ = some x_) (Addr.add a35 ((Int.toNat i_30) * 4)) [(Value.string s36), (Value.string s37), (Value.string s38), (Value.string s39)] ∧
  ∀ w40, w40 = (World.alloc w32 (.cells #[(Value.string ByteArray.empty), (Value.string ByteArray.empty), (Value.string ByteArray.empty), (Value.string ByteArray.empty)] 123)) →
  ∃ w41, Sem.run Tryz.prog (Instr.storeAt 123 (Value.pointer (some ⟨Array.size (World.heap w32), 0, none⟩)) (Value.agg #[(Value.string s36), (Value.string s37), (Value.string s38), (Value.string s39)])) w40 = .ok () w41 ∧
  ∃ s42, World.cell? w41 (Addr.add ⟨Array.size (World.heap w32), 0, none⟩ 0) = some (Value.string s42) ∧
  Calls Tryz.prog 47 #[(Value.slice l_29 l_29l l_29c), (Value.string s42)] w41 fun e44 w45 =>
  ∃ A43, ∃ A43l, ∃ A43c, e44 = Ending.returned (Value.slice A43 A43l A43c) ∧
  ∃ s46, World.cell? w45 (Addr.add ⟨Array.size (World.heap w32), 0, none⟩ 1) = some (Value.string s46) ∧
  Calls Tryz.prog 47 #[(Value.slice A43 A43l A43c), (Value.string s46)] w45 fun e48 w49 =>
  ∃ A47, ∃ A47l, ∃ A47c, e48 = Ending.returned (Value.slice A47 A47l A47c) ∧
  ∃ s50, World.cell? w49 (Addr.add ⟨Array.size (World.heap w32), 0, none⟩ 2) = some (Value.string s50) ∧
  Calls Tryz.prog 47 #[(Value.slice A47 A47l A47c), (Value.string s50)] w49 fun e52 w53 =>
  ∃ A51, ∃ A51l, ∃ A51c, e52 = Ending.returned (Value.slice A51 A51l A51c) ∧
  ∃ s54, World.cell? w53 (Addr.add ⟨Array.size (World.heap w32), 0, none⟩ 3) = some (Value.string s54) ∧
  Calls Tryz.prog 47 #[(Value.slice A51 A51l A51c), (Value.string s54)] w53 fun e56 w57 =>
  ∃ A55, ∃ A55l, ∃ A55c, e56 = Ending.returned (Value.slice A55 A55l A55c) ∧
  I27 A55 A55l A55c (IntKind.wrap .i64 (i_30 + 1)) w57 ∧ μ28 A55 A55l A55c (IntKind.wrap .i64 (i_30 + 1)) w57 < μ28 l_29 l_29l l_29c i_30 w32))
  (∃ s58, World.cell? w32 (Addr.add ⟨Array.size (World.heap w), 0, none⟩ 4) = some (Value.string s58) ∧
  Calls Tryz.prog 47 #[(Value.slice l_29 l_29l l_29c), (Value.string s58)] w32 fun e60 w61 =>
  ∃ A59, ∃ A59l, ∃ A59c, e60 = Ending.returned (Value.slice A59 A59l A59c) ∧
  ∃ A62, ∃ A62l, ∃ A62c, World.cell? w61 (Addr.add ⟨Array.size (World.heap w), 0, none⟩ 5) = some (Value.slice A62 A62l A62c) ∧
  Calls Tryz.prog 44 #[(Value.slice A59 A59l A59c), (Value.int .i64 ((A62l : Nat) : Int))] w61 fun e64 w65 =>
  ∃ A63, ∃ A63l, ∃ A63c, e64 = Ending.returned (Value.slice A63 A63l A63c) ∧
  ∃ I66 : Option Addr → Nat → Nat → Int → World → Prop, ∃ μ67 : Option Addr → Nat → Nat → Int → World → Nat, I66 A63 A63l A63c 0 w65 ∧
  ∀ l_68 l_68l l_68c i_69 (j70 : Nat → Value) (w71 : World), I66 l_68 l_68l l_68c i_69 w71 →
  (∃ A72, ∃ A72l, ∃ A72c, World.cell? w71 (Addr.add ⟨Array.size (World.heap w), 0, none⟩ 5) = some (Value.slice A72 A72l A72c) ∧
  V.sel (decide (i_69 < ((A72l : Nat) : Int)))
  (∃ A73, ∃ A73l, ∃ A73c, World.cell? w71 (Addr.add ⟨Array.size (World.heap w), 0, none⟩ 5) = some (Value.slice A73 A73l A73c) ∧
  V.when (decide ((0 : Int) ≤ i_69 ∧ (i_69 : Int) < ((A73l : Nat) : Int))) (V.ptr A73 fun a74 =>
  ∃ s75, World.cell? w71 (Addr.add (Addr.add a74 ((Int.toNat i_69) * 2)) 0) = some (Value.string s75) ∧
  Calls Tryz.prog 47 #[(Value.slice l_68 l_68l l_68c), (Value.string s75)] w71 fun e77 w78 =>
  ∃ A76, ∃ A76l, ∃ A76c, e77 = Ending.returned (Value.slice A76 A76l A76c) ∧
  ∃ A79, ∃ A79l, ∃ A79c, World.cell? w78 (Addr.add ⟨Array.size (World.heap w), 0, none⟩ 5) = some (Value.slice A79 A79l A79c) ∧
  V.when (decide ((0 : Int) ≤ i_69 ∧ (i_69 : Int) < ((A79l : Nat) : Int))) (V.ptr A79 fun a80 =>
  ∃ s81, World.cell? w78 (Addr.add (Addr.add a80 ((Int.toNat i_69) * 2)) 1) = some (Value.string s81) ∧
  Calls Tryz.prog 47 #[(Value.slice A76 A76l A76c), (Value.string s81)] w78 fun e83 w84 =>
  ∃ A82, ∃ A82l, ∃ A82c, e83 = Ending.returned (Value.slice A82 A82l A82c) ∧
  I66 A82 A82l A82c (IntKind.wrap .i64 (i_69 + 1)) w84 ∧ μ67 A82 A82l A82c (IntKind.wrap .i64 (i_69 + 1)) w84 < μ67 l_68 l_68l l_68c i_69 w71)))
  (∃ A85, ∃ A85l, ∃ A85c, World.cell? w71 (Addr.add ⟨Array.size (World.heap w), 0, none⟩ 6) = some (Value.slice A85 A85l A85c) ∧
  Calls Tryz.prog 44 #[(Value.slice l_68 l_68l l_68c), (Value.int .i64 ((A85l : Nat) : Int))] w71 fun e87 w88 =>
  ∃ A86, ∃ A86l, ∃ A86c, e87 = Ending.returned (Value.slice A86 A86l A86c) ∧
  ∃ I89 : Option Addr → Nat → Nat → Int → World → Prop, ∃ μ90 : Option Addr → Nat → Nat → Int → World → Nat, I89 A86 A86l A86c 0 w88 ∧
  ∀ l_91 l_91l l_91c i_92 (j93 : Nat → Value) (w94 : World), I89 l_91 l_91l l_91c i_92 w94 →
  (∃ A95, ∃ A95l, ∃ A95c, World.cell? w94 (Addr.add ⟨Array.size (World.heap w), 0, none⟩ 6) = some (Value.slice A95 A95l A95c) ∧
  V.sel (decide (i_92 < ((A95l : Nat) : Int)))
  (∃ A96, ∃ A96l, ∃ A96c, World.cell? w94 (Addr.add ⟨Array.size (World.heap w), 0, none⟩ 6) = some (Value.slice A96 A96l A96c) ∧
  V.when (decide ((0 : Int) ≤ i_92 ∧ (i_92 : Int) < ((A96l : Nat) : Int))) (V.ptr A96 fun a97 =>
  ∃ n98, World.cell? w94 (Addr.add (Addr.add a97 ((Int.toNat i_92) * 2)) 0) = some (Value.int .i64 n98) ∧
  Calls Tryz.prog 43 #[(Value.slice l_91 l_91l l_91c), (Value.int .i64 n98)] w94 fun e100 w101 =>
  ∃ A99, ∃ A99l, ∃ A99c, e100 = Ending.returned (Value.slice A99 A99l A99c) ∧
  ∃ A102, ∃ A102l, ∃ A102c, World.cell? w101 (Addr.add ⟨Array.size (World.heap w), 0, none⟩ 6) = some (Value.slice A102 A102l A102c) ∧
  V.when (decide ((0 : Int) ≤ i_92 ∧ (i_92 : Int) < ((A102l : Nat) : Int))) (V.ptr A102 fun a103 =>
  ∃ s104, World.cell? w101 (Addr.add (Addr.add a103 ((Int.toNat i_92) * 2)) 1) = some (Value.string s104) ∧
  Calls Tryz.prog 47 #[(Value.slice A99 A99l A99c), (Value.string s104)] w101 fun e106 w107 =>
  ∃ A105, ∃ A105l, ∃ A105c, e106 = Ending.returned (Value.slice A105 A105l A105c) ∧
  I89 A105 A105l A105c (IntKind.wrap .i64 (i_92 + 1)) w107 ∧ μ90 A105 A105l A105c (IntKind.wrap .i64 (i_92 + 1)) w107 < μ90 l_91 l_91l l_91c i_92 w94)))
  (∃ n108, World.cell? w94 (Addr.add ⟨Array.size (World.heap w), 0, none⟩ 7) = some (Value.int .i64 n108) ∧
  Calls Tryz.prog 43 #[(Value.slice l_91 l_91l l_91c), (Value.int .i64 n108)] w94 fun e110 w111 =>
  ∃ A109, ∃ A109l, ∃ A109c, e110 = Ending.returned (Value.slice A109 A109l A109c) ∧
  R (Ending.returned (Value.slice A109 A109l A109c)) w111))))))) :
  Calls Tryz.prog 46 #[(Value.slice l_1 l_1l l_1c), (Value.agg #[(Value.string p_2), (Value.slice p_3 p_3l p_3c), (Value.slice p_4 p_4l p_4c), (Value.slice p_5 p_5l p_5c), (Value.string p_6), (Value.slice p_7 p_7l p_7c), (Value.slice p_8 p_8l p_8c), (Value.int .i64 p_9)])] w R :=
  V.Z.calls_of_N ⟨V.assoc [(0, [0, 5]), (1, [0, 7]), (2, [0, 8])], V.assocP [], V.assocC [], V.assocS [], ⟨[], true⟩⟩ Tryz.func46 rfl (Eq.mp (by kernel_rfl) h)

theorem berthref26_text_nf (l_1 : Option Addr) (l_1l : Nat) (l_1c : Nat) (s_2 : ByteArray) (w : World) (R : Ending → World → Prop) (h :
  ∀ w3, w3 = (World.alloc w (.cells #[(Value.int .i64 4), (Value.int .i64 0), (Value.string s_2)] 61)) →
  ∃ A4, ∃ A4l, ∃ A4c, ∃ w5, Sem.run Tryz.prog (Builtin.append_ #[54, 54] 54 #[(Value.slice l_1 l_1l l_1c), (Value.slice (some ⟨Array.size (World.heap w), 0, none⟩) 1 1)]) w3 = .ok (Value.slice A4 A4l A4c) w5 ∧
  R (Ending.returned (Value.slice A4 A4l A4c)) w5) :
  Calls Tryz.prog 47 #[(Value.slice l_1 l_1l l_1c), (Value.string s_2)] w R :=
  V.Z.calls_of_N ⟨V.assoc [], V.assocP [], V.assocC [], V.assocS [], ⟨[], true⟩⟩ Tryz.func47 rfl (Eq.mp (by kernel_rfl) h)

theorem berthref26_truth_nf (l_1 : Option Addr) (l_1l : Nat) (l_1c : Nat) (b_2 : Bool) (w : World) (R : Ending → World → Prop) (h :
  V.sel b_2
  (∀ w3, w3 = (World.alloc w (.cells #[(Value.int .i64 3), (Value.int .i64 1), (Value.string ByteArray.empty)] 61)) →
  ∃ A4, ∃ A4l, ∃ A4c, ∃ w5, Sem.run Tryz.prog (Builtin.append_ #[54, 54] 54 #[(Value.slice l_1 l_1l l_1c), (Value.slice (some ⟨Array.size (World.heap w), 0, none⟩) 1 1)]) w3 = .ok (Value.slice A4 A4l A4c) w5 ∧
  R (Ending.returned (Value.slice A4 A4l A4c)) w5)
  (∀ w6, w6 = (World.alloc w (.cells #[(Value.int .i64 3), (Value.int .i64 0), (Value.string ByteArray.empty)] 61)) →
  ∃ A7, ∃ A7l, ∃ A7c, ∃ w8, Sem.run Tryz.prog (Builtin.append_ #[54, 54] 54 #[(Value.slice l_1 l_1l l_1c), (Value.slice (some ⟨Array.size (World.heap w), 0, none⟩) 1 1)]) w6 = .ok (Value.slice A7 A7l A7c) w8 ∧
  R (Ending.returned (Value.slice A7 A7l A7c)) w8)) :
  Calls Tryz.prog 48 #[(Value.slice l_1 l_1l l_1c), (Value.bool b_2)] w R :=
  V.Z.calls_of_N ⟨V.assoc [], V.assocP [], V.assocC [], V.assocS [], ⟨[], true⟩⟩ Tryz.func48 rfl (Eq.mp (by kernel_rfl) h)

theorem image_writer_number_nf (w_1 : Option Addr) (n_2 : Int) (w : World) (R : Ending → World → Prop) (h :
  Calls Tryz.prog 32 #[(Value.pointer w_1), (Value.int .u64 (IntKind.wrap .u64 ((BitVec.toNat (BitVec.ofInt 64 (IntKind.wrap .u64 ((IntKind.wrap .u64 (n_2)) * 2 ^ 1)) ^^^ BitVec.ofInt 64 (IntKind.wrap .u64 ((Int.fdiv n_2 (2 ^ 63))))) : Nat) : Int)))] w fun e3 w4 =>
  e3 = Ending.returned undef ∧
  R (Ending.returned undef) w4) :
  Calls Tryz.prog 49 #[(Value.pointer w_1), (Value.int .i64 n_2)] w R :=
  V.Z.calls_of_N ⟨V.assoc [], V.assocP [], V.assocC [], V.assocS [], ⟨[], true⟩⟩ Tryz.func49 rfl (Eq.mp (by kernel_rfl) h)

theorem image_list_api_Node__nf (w_1 : Option Addr) (l_2 : Option Addr) (l_2l : Nat) (l_2c : Nat) (one_f3 : Nat) (one_a4 : Array Value) (one_c5 : Array Value) (w : World) (R : Ending → World → Prop) (h :
  Calls Tryz.prog 32 #[(Value.pointer w_1), (Value.int .u64 (IntKind.wrap .u64 (((l_2l : Nat) : Int))))] w fun e6 w7 =>
  e6 = Ending.returned undef ∧
  ∃ I8 : Int → World → Prop, ∃ μ9 : Int → World → Nat, I8 0 w7 ∧
  ∀ t15_10 (j11 : Nat → Value) (w12 : World), I8 t15_10 w12 →
  (V.sel (decide (t15_10 < ((l_2l : Nat) : Int)))
  (V.when (decide ((0 : Int) ≤ t15_10 ∧ (t15_10 : Int) < ((l_2l : Nat) : Int))) (V.ptr l_2 fun a13 =>
  ∃ s14, ∃ A15, ∃ A15l, ∃ A15c, ∃ A16, ∃ A16l, ∃ A16c, ∃ A17, ∃ A17l, ∃ A17c, ∃ b18, V.cellsC (fun a_ x_ => World.cell? w12 a_ = some x_) (Addr.add a13 ((Int.toNat t15_10) * 5)) [(Value.string s14), (Value.slice A15 A15l A15c), (Value.slice A16 A16l A16c), (Value.slice A17 A17l A17c), (Value.bool b18)] ∧
  ∀ w19, w19 = (World.alloc w12 (.cells #[(Value.string ByteArray.empty), (Value.slice none 0 0), (Value.slice none 0 0), (Value.slice none 0 0), (Value.bool false)] 53)) →
  ∃ w20, Sem.run Tryz.prog (Instr.storeAt 53 (Value.pointer (some ⟨Array.size (World.heap w12), 0, none⟩)) (Value.agg #[(Value.string s14), (Value.slice A15 A15l A15c), (Value.slice A16 A16l A16c), (Value.slice A17 A17l A17c), (Value.bool b18)])) w19 = .ok () w20 ∧
  ∃ s21, ∃ A22, ∃ A22l, ∃ A22c, ∃ A23, ∃ A23l, ∃ A23c, ∃ A24, ∃ A24l, ∃ A24c, ∃ b25, V.cellsC (fun a_ x_ => World.cell? w20 a_ = some x_) ⟨Array.size (World.heap w12), 0, none⟩ [(Value.string s21), (Value.slice A22 A22l A22c), (Value.slice A23 A23l A23c), (Value.slice A24 A24l A24c), (Value.bool b25)] ∧
  V.when (V.hasB Tryz.prog one_f3) (Calls Tryz.prog one_f3 ⟨Array.toList one_a4 ++ [(Value.agg #[(Value.string s21), (Value.slice A22 A22l A22c), (Value.slice A23 A23l A23c), (Value.slice A24 A24l A24c), (Value.bool b25)])] ++ Array.toList one_c5⟩ w20 fun e26 w27 =>
  e26 = Ending.returned undef ∧
  I8 (IntKind.wrap .i64 (t15_10 + 1)) w27 ∧ μ9 (IntKind.wrap .i64 (t15_10 + 1)) w27 < μ9 t15_10 w12)))
  (R (Ending.returned undef) w12))) :
  Calls Tryz.prog 50 #[(Value.pointer w_1), (Value.slice l_2 l_2l l_2c), (Value.func (.func one_f3) one_a4 one_c5)] w R :=
  V.Z.calls_of_N ⟨V.assoc [(0, [15])], V.assocP [], V.assocC [], V.assocS [], ⟨[], true⟩⟩ Tryz.func50 rfl (Eq.mp (by kernel_rfl) h)

theorem image_writer_node_nf (w_1 : Option Addr) (n_2 : ByteArray) (n_3 : Option Addr) (n_3l : Nat) (n_3c : Nat) (n_4 : Option Addr) (n_4l : Nat) (n_4c : Nat) (n_5 : Option Addr) (n_5l : Nat) (n_5c : Nat) (n_6 : Bool) (w : World) (R : Ending → World → Prop) (h :
  ∀ w7, w7 = (World.alloc w (.cells #[(Value.string n_2), (Value.slice n_3 n_3l n_3c), (Value.slice n_4 n_4l n_4c), (Value.slice n_5 n_5l n_5c), (Value.bool n_6)] 53)) →
  ∃ s8, World.cell? w7 (Addr.add ⟨Array.size (World.heap w), 0, none⟩ 0) = some (Value.string s8) ∧
  Calls Tryz.prog 75 #[(Value.pointer w_1), (Value.string s8)] w7 fun e9 w10 =>
  e9 = Ending.returned undef ∧
  ∃ A11, ∃ A11l, ∃ A11c, World.cell? w10 (Addr.add ⟨Array.size (World.heap w), 0, none⟩ 1) = some (Value.slice A11 A11l A11c) ∧
  Calls Tryz.prog 76 #[(Value.pointer w_1), (Value.slice A11 A11l A11c), (Value.func (.func 77) #[(Value.pointer w_1)] #[])] w10 fun e12 w13 =>
  e12 = Ending.returned undef ∧
  ∃ A14, ∃ A14l, ∃ A14c, World.cell? w13 (Addr.add ⟨Array.size (World.heap w), 0, none⟩ 2) = some (Value.slice A14 A14l A14c) ∧
  Calls Tryz.prog 78 #[(Value.pointer w_1), (Value.slice A14 A14l A14c), (Value.func (.func 79) #[(Value.pointer w_1)] #[])] w13 fun e15 w16 =>
  e15 = Ending.returned undef ∧
  ∃ A17, ∃ A17l, ∃ A17c, World.cell? w16 (Addr.add ⟨Array.size (World.heap w), 0, none⟩ 3) = some (Value.slice A17 A17l A17c) ∧
  Calls Tryz.prog 80 #[(Value.pointer w_1), (Value.slice A17 A17l A17c), (Value.func (.func 81) #[(Value.pointer w_1)] #[])] w16 fun e18 w19 =>
  e18 = Ending.returned undef ∧
  ∃ b20, World.cell? w19 (Addr.add ⟨Array.size (World.heap w), 0, none⟩ 4) = some (Value.bool b20) ∧
  Calls Tryz.prog 82 #[(Value.pointer w_1), (Value.bool b20)] w19 fun e21 w22 =>
  e21 = Ending.returned undef ∧
  R (Ending.returned undef) w22) :
  Calls Tryz.prog 51 #[(Value.pointer w_1), (Value.agg #[(Value.string n_2), (Value.slice n_3 n_3l n_3c), (Value.slice n_4 n_4l n_4c), (Value.slice n_5 n_5l n_5c), (Value.bool n_6)])] w R :=
  V.Z.calls_of_N ⟨V.assoc [], V.assocP [], V.assocC [], V.assocS [], ⟨[], true⟩⟩ Tryz.func51 rfl (Eq.mp (by kernel_rfl) h)

theorem image_list_api_Bound__nf (w_1 : Option Addr) (l_2 : Option Addr) (l_2l : Nat) (l_2c : Nat) (one_f3 : Nat) (one_a4 : Array Value) (one_c5 : Array Value) (w : World) (R : Ending → World → Prop) (h :
  Calls Tryz.prog 32 #[(Value.pointer w_1), (Value.int .u64 (IntKind.wrap .u64 (((l_2l : Nat) : Int))))] w fun e6 w7 =>
  e6 = Ending.returned undef ∧
  ∃ I8 : Int → World → Prop, ∃ μ9 : Int → World → Nat, I8 0 w7 ∧
  ∀ t15_10 (j11 : Nat → Value) (w12 : World), I8 t15_10 w12 →
  (V.sel (decide (t15_10 < ((l_2l : Nat) : Int)))
  (V.when (decide ((0 : Int) ≤ t15_10 ∧ (t15_10 : Int) < ((l_2l : Nat) : Int))) (V.ptr l_2 fun a13 =>
  ∃ s14, ∃ A15, ∃ A15l, ∃ A15c, ∃ A16, ∃ A16l, ∃ A16c, ∃ A17, ∃ A17l, ∃ A17c, ∃ s18, ∃ A19, ∃ A19l, ∃ A19c, ∃ A20, ∃ A20l, ∃ A20c, ∃ n21, ∃ s22, V.cellsC (fun a_ x_ => World.cell? w12 a_ = some x_) (Addr.add a13 ((Int.toNat t15_10) * 9)) [(Value.string s14), (Value.slice A15 A15l A15c), (Value.slice A16 A16l A16c), (Value.slice A17 A17l A17c), (Value.string s18), (Value.slice A19 A19l A19c), (Value.slice A20 A20l A20c), (Value.int .i64 n21), (Value.string s22)] ∧
  ∀ w23, w23 = (World.alloc w12 (.cells #[(Value.string ByteArray.empty), (Value.slice none 0 0), (Value.slice none 0 0), (Value.slice none 0 0), (Value.string ByteArray.empty), (Value.slice none 0 0), (Value.slice none 0 0), (Value.int .i64 0), (Value.string ByteArray.empty)] 71)) →
  ∃ w24, Sem.run Tryz.prog (Instr.storeAt 71 (Value.pointer (some ⟨Array.size (World.heap w12), 0, none⟩)) (Value.agg #[(Value.string s14), (Value.slice A15 A15l A15c), (Value.slice A16 A16l A16c), (Value.slice A17 A17l A17c), (Value.string s18), (Value.slice A19 A19l A19c), (Value.slice A20 A20l A20c), (Value.int .i64 n21), (Value.string s22)])) w23 = .ok () w24 ∧
  ∃ s25, ∃ A26, ∃ A26l, ∃ A26c, ∃ A27, ∃ A27l, ∃ A27c, ∃ A28, ∃ A28l, ∃ A28c, ∃ s29, ∃ A30, ∃ A30l, ∃ A30c, ∃ A31, ∃ A31l, ∃ A31c, ∃ n32, ∃ s33, V.cellsC (fun a_ x_ => World.cell? w24 a_ = some x_) ⟨Array.size (World.heap w12), 0, none⟩ [(Value.string s25), (Value.slice A26 A26l A26c), (Value.slice A27 A27l A27c), (Value.slice A28 A28l A28c), (Value.string s29), (Value.slice A30 A30l A30c), (Value.slice A31 A31l A31c), (Value.int .i64 n32), (Value.string s33)] ∧
  V.when (V.hasB Tryz.prog one_f3) (Calls Tryz.prog one_f3 ⟨Array.toList one_a4 ++ [(Value.agg #[(Value.string s25), (Value.slice A26 A26l A26c), (Value.slice A27 A27l A27c), (Value.slice A28 A28l A28c), (Value.string s29), (Value.slice A30 A30l A30c), (Value.slice A31 A31l A31c), (Value.int .i64 n32), (Value.string s33)])] ++ Array.toList one_c5⟩ w24 fun e34 w35 =>
  e34 = Ending.returned undef ∧
  I8 (IntKind.wrap .i64 (t15_10 + 1)) w35 ∧ μ9 (IntKind.wrap .i64 (t15_10 + 1)) w35 < μ9 t15_10 w12)))
  (R (Ending.returned undef) w12))) :
  Calls Tryz.prog 52 #[(Value.pointer w_1), (Value.slice l_2 l_2l l_2c), (Value.func (.func one_f3) one_a4 one_c5)] w R :=
  V.Z.calls_of_N ⟨V.assoc [(0, [15])], V.assocP [], V.assocC [], V.assocS [], ⟨[], true⟩⟩ Tryz.func52 rfl (Eq.mp (by kernel_rfl) h)

theorem image_writer_bound_nf (w_1 : Option Addr) (b_2 : ByteArray) (b_3 : Option Addr) (b_3l : Nat) (b_3c : Nat) (b_4 : Option Addr) (b_4l : Nat) (b_4c : Nat) (b_5 : Option Addr) (b_5l : Nat) (b_5c : Nat) (b_6 : ByteArray) (b_7 : Option Addr) (b_7l : Nat) (b_7c : Nat) (b_8 : Option Addr) (b_8l : Nat) (b_8c : Nat) (b_9 : Int) (b_10 : ByteArray) (w : World) (R : Ending → World → Prop) (h :
  ∀ w11, w11 = (World.alloc w (.cells #[(Value.string b_2), (Value.slice b_3 b_3l b_3c), (Value.slice b_4 b_4l b_4c), (Value.slice b_5 b_5l b_5c), (Value.string b_6), (Value.slice b_7 b_7l b_7c), (Value.slice b_8 b_8l b_8c), (Value.int .i64 b_9), (Value.string b_10)] 71)) →
  ∃ s12, ∃ A13, ∃ A13l, ∃ A13c, ∃ A14, ∃ A14l, ∃ A14c, ∃ A15, ∃ A15l, ∃ A15c, ∃ s16, ∃ A17, ∃ A17l, ∃ A17c, ∃ A18, ∃ A18l, ∃ A18c, ∃ n19, V.cellsC (fun a_ x_ => World.cell? w11 a_ = some x_) (Addr.add ⟨Array.size (World.heap w), 0, none⟩ 0) [(Value.string s12), (Value.slice A13 A13l A13c), (Value.slice A14 A14l A14c), (Value.slice A15 A15l A15c), (Value.string s16), (Value.slice A17 A17l A17c), (Value.slice A18 A18l A18c), (Value.int .i64 n19)] ∧
  Calls Tryz.prog 83 #[(Value.pointer w_1), (Value.agg #[(Value.string s12), (Value.slice A13 A13l A13c), (Value.slice A14 A14l A14c), (Value.slice A15 A15l A15c), (Value.string s16), (Value.slice A17 A17l A17c), (Value.slice A18 A18l A18c), (Value.int .i64 n19)])] w11 fun e20 w21 =>
  e20 = Ending.returned undef ∧
  ∃ s22, World.cell? w21 (Addr.add ⟨Array.size (World.heap w), 0, none⟩ 8) = some (Value.string s22) ∧
  Calls Tryz.prog 75 #[(Value.pointer w_1), (Value.string s22)] w21 fun e23 w24 =>
  e23 = Ending.returned undef ∧
  R (Ending.returned undef) w24) :
  Calls Tryz.prog 53 #[(Value.pointer w_1), (Value.agg #[(Value.string b_2), (Value.slice b_3 b_3l b_3c), (Value.slice b_4 b_4l b_4c), (Value.slice b_5 b_5l b_5c), (Value.string b_6), (Value.slice b_7 b_7l b_7c), (Value.slice b_8 b_8l b_8c), (Value.int .i64 b_9), (Value.string b_10)])] w R :=
  V.Z.calls_of_N ⟨V.assoc [], V.assocP [], V.assocC [], V.assocS [], ⟨[], true⟩⟩ Tryz.func53 rfl (Eq.mp (by kernel_rfl) h)

theorem image_list_api_Pending__nf (w_1 : Option Addr) (l_2 : Option Addr) (l_2l : Nat) (l_2c : Nat) (one_f3 : Nat) (one_a4 : Array Value) (one_c5 : Array Value) (w : World) (R : Ending → World → Prop) (h :
  Calls Tryz.prog 32 #[(Value.pointer w_1), (Value.int .u64 (IntKind.wrap .u64 (((l_2l : Nat) : Int))))] w fun e6 w7 =>
  e6 = Ending.returned undef ∧
  ∃ I8 : Int → World → Prop, ∃ μ9 : Int → World → Nat, I8 0 w7 ∧
  ∀ t15_10 (j11 : Nat → Value) (w12 : World), I8 t15_10 w12 →
  (V.sel (decide (t15_10 < ((l_2l : Nat) : Int)))
  (V.when (decide ((0 : Int) ≤ t15_10 ∧ (t15_10 : Int) < ((l_2l : Nat) : Int))) (V.ptr l_2 fun a13 =>
  ∃ s14, ∃ A15, ∃ A15l, ∃ A15c, ∃ A16, ∃ A16l, ∃ A16c, ∃ A17, ∃ A17l, ∃ A17c, ∃ s18, ∃ A19, ∃ A19l, ∃ A19c, ∃ A20, ∃ A20l, ∃ A20c, ∃ n21, ∃ n22, ∃ n23, ∃ n24, ∃ b25, V.cellsC (fun a_ x_ => World.cell? w12 a_ = some x_) (Addr.add a13 ((Int.toNat t15_10) * 12)) [(Value.string s14), (Value.slice A15 A15l A15c), (Value.slice A16 A16l A16c), (Value.slice A17 A17l A17c), (Value.string s18), (Value.slice A19 A19l A19c), (Value.slice A20 A20l A20c), (Value.int .i64 n21), (Value.int .i64 n22), (Value.int .i64 n23), (Value.int .i64 n24), (Value.bool b25)] ∧
  ∀ w26, w26 = (World.alloc w12 (.cells #[(Value.string ByteArray.empty), (Value.slice none 0 0), (Value.slice none 0 0), (Value.slice none 0 0), (Value.string ByteArray.empty), (Value.slice none 0 0), (Value.slice none 0 0), (Value.int .i64 0), (Value.int .i64 0), (Value.int .i64 0), (Value.int .i64 0), (Value.bool false)] 73)) →
  ∃ w27, Sem.run Tryz.prog (Instr.storeAt 73 (Value.pointer (some ⟨Array.size (World.heap w12), 0, none⟩)) (Value.agg #[(Value.string s14), (Value.slice A15 A15l A15c), (Value.slice A16 A16l A16c), (Value.slice A17 A17l A17c), (Value.string s18), (Value.slice A19 A19l A19c), (Value.slice A20 A20l A20c), (Value.int .i64 n21), (Value.int .i64 n22), (Value.int .i64 n23), (Value.int .i64 n24), (Value.bool b25)])) w26 = .ok () w27 ∧
  ∃ s28, ∃ A29, ∃ A29l, ∃ A29c, ∃ A30, ∃ A30l, ∃ A30c, ∃ A31, ∃ A31l, ∃ A31c, ∃ s32, ∃ A33, ∃ A33l, ∃ A33c, ∃ A34, ∃ A34l, ∃ A34c, ∃ n35, ∃ n36, ∃ n37, ∃ n38, ∃ b39, V.cellsC (fun a_ x_ => World.cell? w27 a_ = some x_) ⟨Array.size (World.heap w12), 0, none⟩ [(Value.string s28), (Value.slice A29 A29l A29c), (Value.slice A30 A30l A30c), (Value.slice A31 A31l A31c), (Value.string s32), (Value.slice A33 A33l A33c), (Value.slice A34 A34l A34c), (Value.int .i64 n35), (Value.int .i64 n36), (Value.int .i64 n37), (Value.int .i64 n38), (Value.bool b39)] ∧
  V.when (V.hasB Tryz.prog one_f3) (Calls Tryz.prog one_f3 ⟨Array.toList one_a4 ++ [(Value.agg #[(Value.string s28), (Value.slice A29 A29l A29c), (Value.slice A30 A30l A30c), (Value.slice A31 A31l A31c), (Value.string s32), (Value.slice A33 A33l A33c), (Value.slice A34 A34l A34c), (Value.int .i64 n35), (Value.int .i64 n36), (Value.int .i64 n37), (Value.int .i64 n38), (Value.bool b39)])] ++ Array.toList one_c5⟩ w27 fun e40 w41 =>
  e40 = Ending.returned undef ∧
  I8 (IntKind.wrap .i64 (t15_10 + 1)) w41 ∧ μ9 (IntKind.wrap .i64 (t15_10 + 1)) w41 < μ9 t15_10 w12)))
  (R (Ending.returned undef) w12))) :
  Calls Tryz.prog 54 #[(Value.pointer w_1), (Value.slice l_2 l_2l l_2c), (Value.func (.func one_f3) one_a4 one_c5)] w R :=
  V.Z.calls_of_N ⟨V.assoc [(0, [15])], V.assocP [], V.assocC [], V.assocS [], ⟨[], true⟩⟩ Tryz.func54 rfl (Eq.mp (by kernel_rfl) h)

theorem image_writer_pending_nf (w_1 : Option Addr) (p_2 : ByteArray) (p_3 : Option Addr) (p_3l : Nat) (p_3c : Nat) (p_4 : Option Addr) (p_4l : Nat) (p_4c : Nat) (p_5 : Option Addr) (p_5l : Nat) (p_5c : Nat) (p_6 : ByteArray) (p_7 : Option Addr) (p_7l : Nat) (p_7c : Nat) (p_8 : Option Addr) (p_8l : Nat) (p_8c : Nat) (p_9 : Int) (p_10 : Int) (p_11 : Int) (p_12 : Int) (p_13 : Bool) (w : World) (R : Ending → World → Prop) (h :
  ∀ w14, w14 = (World.alloc w (.cells #[(Value.string p_2), (Value.slice p_3 p_3l p_3c), (Value.slice p_4 p_4l p_4c), (Value.slice p_5 p_5l p_5c), (Value.string p_6), (Value.slice p_7 p_7l p_7c), (Value.slice p_8 p_8l p_8c), (Value.int .i64 p_9), (Value.int .i64 p_10), (Value.int .i64 p_11), (Value.int .i64 p_12), (Value.bool p_13)] 73)) →
  ∃ s15, ∃ A16, ∃ A16l, ∃ A16c, ∃ A17, ∃ A17l, ∃ A17c, ∃ A18, ∃ A18l, ∃ A18c, ∃ s19, ∃ A20, ∃ A20l, ∃ A20c, ∃ A21, ∃ A21l, ∃ A21c, ∃ n22, V.cellsC (fun a_ x_ => World.cell? w14 a_ = some x_) (Addr.add ⟨Array.size (World.heap w), 0, none⟩ 0) [(Value.string s15), (Value.slice A16 A16l A16c), (Value.slice A17 A17l A17c), (Value.slice A18 A18l A18c), (Value.string s19), (Value.slice A20 A20l A20c), (Value.slice A21 A21l A21c), (Value.int .i64 n22)] ∧
  Calls Tryz.prog 83 #[(Value.pointer w_1), (Value.agg #[(Value.string s15), (Value.slice A16 A16l A16c), (Value.slice A17 A17l A17c), (Value.slice A18 A18l A18c), (Value.string s19), (Value.slice A20 A20l A20c), (Value.slice A21 A21l A21c), (Value.int .i64 n22)])] w14 fun e23 w24 =>
  e23 = Ending.returned undef ∧
  ∃ n25, World.cell? w24 (Addr.add ⟨Array.size (World.heap w), 0, none⟩ 8) = some (Value.int .i64 n25) ∧
  Calls Tryz.prog 49 #[(Value.pointer w_1), (Value.int .i64 n25)] w24 fun e26 w27 =>
  e26 = Ending.returned undef ∧
  ∃ n28, World.cell? w27 (Addr.add ⟨Array.size (World.heap w), 0, none⟩ 9) = some (Value.int .i64 n28) ∧
  Calls Tryz.prog 49 #[(Value.pointer w_1), (Value.int .i64 n28)] w27 fun e29 w30 =>
  e29 = Ending.returned undef ∧
  ∃ n31, World.cell? w30 (Addr.add ⟨Array.size (World.heap w), 0, none⟩ 10) = some (Value.int .i64 n31) ∧
  Calls Tryz.prog 49 #[(Value.pointer w_1), (Value.int .i64 n31)] w30 fun e32 w33 =>
  e32 = Ending.returned undef ∧
  ∃ b34, World.cell? w33 (Addr.add ⟨Array.size (World.heap w), 0, none⟩ 11) = some (Value.bool b34) ∧
  Calls Tryz.prog 82 #[(Value.pointer w_1), (Value.bool b34)] w33 fun e35 w36 =>
  e35 = Ending.returned undef ∧
  R (Ending.returned undef) w36) :
  Calls Tryz.prog 55 #[(Value.pointer w_1), (Value.agg #[(Value.string p_2), (Value.slice p_3 p_3l p_3c), (Value.slice p_4 p_4l p_4c), (Value.slice p_5 p_5l p_5c), (Value.string p_6), (Value.slice p_7 p_7l p_7c), (Value.slice p_8 p_8l p_8c), (Value.int .i64 p_9), (Value.int .i64 p_10), (Value.int .i64 p_11), (Value.int .i64 p_12), (Value.bool p_13)])] w R :=
  V.Z.calls_of_N ⟨V.assoc [], V.assocP [], V.assocC [], V.assocS [], ⟨[], true⟩⟩ Tryz.func55 rfl (Eq.mp (by kernel_rfl) h)

theorem slices_Equal___api_Label_api_Label__nf (s1_1 : Option Addr) (s1_1l : Nat) (s1_1c : Nat) (s2_2 : Option Addr) (s2_2l : Nat) (s2_2c : Nat) (w : World) (R : Ending → World → Prop) (h :
  V.sel (((s1_1l : Nat) : Int) != ((s2_2l : Nat) : Int))
  (R (Ending.returned (Value.bool false)) w)
  (∃ I3 : Int → World → Prop, ∃ μ4 : Int → World → Nat, I3 0 w ∧
  ∀ t13_5 (j6 : Nat → Value) (w7 : World), I3 t13_5 w7 →
  (V.sel (decide (t13_5 < ((s1_1l : Nat) : Int)))
  (V.when (decide ((0 : Int) ≤ t13_5 ∧ (t13_5 : Int) < ((s1_1l : Nat) : Int))) (V.ptr s1_1 fun a8 =>
  ∃ s9, ∃ s10, V.cellsC (fun a_ x_ => World.cell? w7 a_ = some x_) (Addr.add a8 ((Int.toNat t13_5) * 2)) [(Value.string s9), (Value.string s10)] ∧
  V.when (decide ((0 : Int) ≤ t13_5 ∧ (t13_5 : Int) < ((s2_2l : Nat) : Int))) (V.ptr s2_2 fun a11 =>
  ∃ s12, ∃ s13, V.cellsC (fun a_ x_ => World.cell? w7 a_ = some x_) (Addr.add a11 ((Int.toNat t13_5) * 2)) [(Value.string s12), (Value.string s13)] ∧
  V.sel (!((ByteArray.toList s9 == ByteArray.toList s12) && ((ByteArray.toList s10 == ByteArray.toList s13) && true)))
  (R (Ending.returned (Value.bool false)) (World.drew w7))
  (I3 (IntKind.wrap .i64 (t13_5 + 1)) (World.drew w7) ∧ μ4 (IntKind.wrap .i64 (t13_5 + 1)) (World.drew w7) < μ4 t13_5 w7))))
  (R (Ending.returned (Value.bool true)) w7)))) :
  Calls Tryz.prog 64 #[(Value.slice s1_1 s1_1l s1_1c), (Value.slice s2_2 s2_2l s2_2c)] w R :=
  V.Z.calls_of_N ⟨V.assoc [(0, [13])], V.assocP [(6, V.line [0, 1, 2, 3, 4, 5, 6, 7, 8])], V.assocC [], V.assocS [], ⟨[], true⟩⟩ Tryz.func64 rfl (Eq.mp (by kernel_rfl) h)

theorem slices_Equal___api_Taint_api_Taint__nf (s1_1 : Option Addr) (s1_1l : Nat) (s1_1c : Nat) (s2_2 : Option Addr) (s2_2l : Nat) (s2_2c : Nat) (w : World) (R : Ending → World → Prop) (h :
  V.sel (((s1_1l : Nat) : Int) != ((s2_2l : Nat) : Int))
  (R (Ending.returned (Value.bool false)) w)
  (∃ I3 : Int → World → Prop, ∃ μ4 : Int → World → Nat, I3 0 w ∧
  ∀ t13_5 (j6 : Nat → Value) (w7 : World), I3 t13_5 w7 →
  (V.sel (decide (t13_5 < ((s1_1l : Nat) : Int)))
  (V.when (decide ((0 : Int) ≤ t13_5 ∧ (t13_5 : Int) < ((s1_1l : Nat) : Int))) (V.ptr s1_1 fun a8 =>
  ∃ s9, ∃ s10, ∃ s11, V.cellsC (fun a_ x_ => World.cell? w7 a_ = some x_) (Addr.add a8 ((Int.toNat t13_5) * 3)) [(Value.string s9), (Value.string s10), (Value.string s11)] ∧
  V.when (decide ((0 : Int) ≤ t13_5 ∧ (t13_5 : Int) < ((s2_2l : Nat) : Int))) (V.ptr s2_2 fun a12 =>
  ∃ s13, ∃ s14, ∃ s15, V.cellsC (fun a_ x_ => World.cell? w7 a_ = some x_) (Addr.add a12 ((Int.toNat t13_5) * 3)) [(Value.string s13), (Value.string s14), (Value.string s15)] ∧
  V.sel (!((ByteArray.toList s9 == ByteArray.toList s13) && ((ByteArray.toList s10 == ByteArray.toList s14) && ((ByteArray.toList s11 == ByteArray.toList s15) && true))))
  (R (Ending.returned (Value.bool false)) (World.drew w7))
  (I3 (IntKind.wrap .i64 (t13_5 + 1)) (World.drew w7) ∧ μ4 (IntKind.wrap .i64 (t13_5 + 1)) (World.drew w7) < μ4 t13_5 w7))))
  (R (Ending.returned (Value.bool true)) w7)))) :
  Calls Tryz.prog 65 #[(Value.slice s1_1 s1_1l s1_1c), (Value.slice s2_2 s2_2l s2_2c)] w R :=
  V.Z.calls_of_N ⟨V.assoc [(0, [13])], V.assocP [(6, V.line [0, 1, 2, 3, 4, 5, 6, 7, 8])], V.assocC [], V.assocS [], ⟨[], true⟩⟩ Tryz.func65 rfl (Eq.mp (by kernel_rfl) h)

theorem slices_Equal___api_Item_api_Item__nf (s1_1 : Option Addr) (s1_1l : Nat) (s1_1c : Nat) (s2_2 : Option Addr) (s2_2l : Nat) (s2_2c : Nat) (w : World) (R : Ending → World → Prop) (h :
  V.sel (((s1_1l : Nat) : Int) != ((s2_2l : Nat) : Int))
  (R (Ending.returned (Value.bool false)) w)
  (∃ I3 : Int → World → Prop, ∃ μ4 : Int → World → Nat, I3 0 w ∧
  ∀ t13_5 (j6 : Nat → Value) (w7 : World), I3 t13_5 w7 →
  (V.sel (decide (t13_5 < ((s1_1l : Nat) : Int)))
  (V.when (decide ((0 : Int) ≤ t13_5 ∧ (t13_5 : Int) < ((s1_1l : Nat) : Int))) (V.ptr s1_1 fun a8 =>
  ∃ s9, ∃ n10, V.cellsC (fun a_ x_ => World.cell? w7 a_ = some x_) (Addr.add a8 ((Int.toNat t13_5) * 2)) [(Value.string s9), (Value.int .i64 n10)] ∧
  V.when (decide ((0 : Int) ≤ t13_5 ∧ (t13_5 : Int) < ((s2_2l : Nat) : Int))) (V.ptr s2_2 fun a11 =>
  ∃ s12, ∃ n13, V.cellsC (fun a_ x_ => World.cell? w7 a_ = some x_) (Addr.add a11 ((Int.toNat t13_5) * 2)) [(Value.string s12), (Value.int .i64 n13)] ∧
  V.sel (!((ByteArray.toList s9 == ByteArray.toList s12) && (((n10 : Int) == n13) && true)))
  (R (Ending.returned (Value.bool false)) (World.drew w7))
  (I3 (IntKind.wrap .i64 (t13_5 + 1)) (World.drew w7) ∧ μ4 (IntKind.wrap .i64 (t13_5 + 1)) (World.drew w7) < μ4 t13_5 w7))))
  (R (Ending.returned (Value.bool true)) w7)))) :
  Calls Tryz.prog 66 #[(Value.slice s1_1 s1_1l s1_1c), (Value.slice s2_2 s2_2l s2_2c)] w R :=
  V.Z.calls_of_N ⟨V.assoc [(0, [13])], V.assocP [(6, V.line [0, 1, 2, 3, 4, 5, 6, 7, 8])], V.assocC [], V.assocS [], ⟨[], true⟩⟩ Tryz.func66 rfl (Eq.mp (by kernel_rfl) h)

theorem slices_Equal___api_Toleration_api_Toleration__nf (s1_1 : Option Addr) (s1_1l : Nat) (s1_1c : Nat) (s2_2 : Option Addr) (s2_2l : Nat) (s2_2c : Nat) (w : World) (R : Ending → World → Prop) (h :
  V.sel (((s1_1l : Nat) : Int) != ((s2_2l : Nat) : Int))
  (R (Ending.returned (Value.bool false)) w)
  (∃ I3 : Int → World → Prop, ∃ μ4 : Int → World → Nat, I3 0 w ∧
  ∀ t13_5 (j6 : Nat → Value) (w7 : World), I3 t13_5 w7 →
  (V.sel (decide (t13_5 < ((s1_1l : Nat) : Int)))
  (V.when (decide ((0 : Int) ≤ t13_5 ∧ (t13_5 : Int) < ((s1_1l : Nat) : Int))) (V.ptr s1_1 fun a8 =>
  ∃ s9, ∃ s10, ∃ s11, ∃ s12, V.cellsC (fun a_ x_ => World.cell? w7 a_ = some x_) (Addr.add a8 ((Int.toNat t13_5) * 4)) [(Value.string s9), (Value.string s10), (Value.string s11), (Value.string s12)] ∧
  V.when (decide ((0 : Int) ≤ t13_5 ∧ (t13_5 : Int) < ((s2_2l : Nat) : Int))) (V.ptr s2_2 fun a13 =>
  ∃ s14, ∃ s15, ∃ s16, ∃ s17, V.cellsC (fun a_ x_ => World.cell? w7 a_ = some x_) (Addr.add a13 ((Int.toNat t13_5) * 4)) [(Value.string s14), (Value.string s15), (Value.string s16), (Value.string s17)] ∧
  V.sel (!((ByteArray.toList s9 == ByteArray.toList s14) && ((ByteArray.toList s10 == ByteArray.toList s15) && ((ByteArray.toList s11 == ByteArray.toList s16) && ((ByteArray.toList s12 == ByteArray.toList s17) && true)))))
  (R (Ending.returned (Value.bool false)) (World.drew w7))
  (I3 (IntKind.wrap .i64 (t13_5 + 1)) (World.drew w7) ∧ μ4 (IntKind.wrap .i64 (t13_5 + 1)) (World.drew w7) < μ4 t13_5 w7))))
  (R (Ending.returned (Value.bool true)) w7)))) :
  Calls Tryz.prog 67 #[(Value.slice s1_1 s1_1l s1_1c), (Value.slice s2_2 s2_2l s2_2c)] w R :=
  V.Z.calls_of_N ⟨V.assoc [(0, [13])], V.assocP [(6, V.line [0, 1, 2, 3, 4, 5, 6, 7, 8])], V.assocC [], V.assocS [], ⟨[], true⟩⟩ Tryz.func67 rfl (Eq.mp (by kernel_rfl) h)

theorem slices_Equal___api_Apart_api_Apart__nf (s1_1 : Option Addr) (s1_1l : Nat) (s1_1c : Nat) (s2_2 : Option Addr) (s2_2l : Nat) (s2_2c : Nat) (w : World) (R : Ending → World → Prop) (h :
  V.sel (((s1_1l : Nat) : Int) != ((s2_2l : Nat) : Int))
  (R (Ending.returned (Value.bool false)) w)
  (∃ I3 : Int → World → Prop, ∃ μ4 : Int → World → Nat, I3 0 w ∧
  ∀ t13_5 (j6 : Nat → Value) (w7 : World), I3 t13_5 w7 →
  (V.sel (decide (t13_5 < ((s1_1l : Nat) : Int)))
  (V.when (decide ((0 : Int) ≤ t13_5 ∧ (t13_5 : Int) < ((s1_1l : Nat) : Int))) (V.ptr s1_1 fun a8 =>
  ∃ s9, ∃ s10, V.cellsC (fun a_ x_ => World.cell? w7 a_ = some x_) (Addr.add a8 ((Int.toNat t13_5) * 2)) [(Value.string s9), (Value.string s10)] ∧
  V.when (decide ((0 : Int) ≤ t13_5 ∧ (t13_5 : Int) < ((s2_2l : Nat) : Int))) (V.ptr s2_2 fun a11 =>
  ∃ s12, ∃ s13, V.cellsC (fun a_ x_ => World.cell? w7 a_ = some x_) (Addr.add a11 ((Int.toNat t13_5) * 2)) [(Value.string s12), (Value.string s13)] ∧
  V.sel (!((ByteArray.toList s9 == ByteArray.toList s12) && ((ByteArray.toList s10 == ByteArray.toList s13) && true)))
  (R (Ending.returned (Value.bool false)) (World.drew w7))
  (I3 (IntKind.wrap .i64 (t13_5 + 1)) (World.drew w7) ∧ μ4 (IntKind.wrap .i64 (t13_5 + 1)) (World.drew w7) < μ4 t13_5 w7))))
  (R (Ending.returned (Value.bool true)) w7)))) :
  Calls Tryz.prog 68 #[(Value.slice s1_1 s1_1l s1_1c), (Value.slice s2_2 s2_2l s2_2c)] w R :=
  V.Z.calls_of_N ⟨V.assoc [(0, [13])], V.assocP [(6, V.line [0, 1, 2, 3, 4, 5, 6, 7, 8])], V.assocC [], V.assocS [], ⟨[], true⟩⟩ Tryz.func68 rfl (Eq.mp (by kernel_rfl) h)

theorem slices_Equal___api_Prefer_api_Prefer__nf (s1_1 : Option Addr) (s1_1l : Nat) (s1_1c : Nat) (s2_2 : Option Addr) (s2_2l : Nat) (s2_2c : Nat) (w : World) (R : Ending → World → Prop) (h :
  V.sel (((s1_1l : Nat) : Int) != ((s2_2l : Nat) : Int))
  (R (Ending.returned (Value.bool false)) w)
  (∃ I3 : Int → World → Prop, ∃ μ4 : Int → World → Nat, I3 0 w ∧
  ∀ t13_5 (j6 : Nat → Value) (w7 : World), I3 t13_5 w7 →
  (V.sel (decide (t13_5 < ((s1_1l : Nat) : Int)))
  (V.when (decide ((0 : Int) ≤ t13_5 ∧ (t13_5 : Int) < ((s1_1l : Nat) : Int))) (V.ptr s1_1 fun a8 =>
  ∃ n9, ∃ s10, V.cellsC (fun a_ x_ => World.cell? w7 a_ = some x_) (Addr.add a8 ((Int.toNat t13_5) * 2)) [(Value.int .i64 n9), (Value.string s10)] ∧
  V.when (decide ((0 : Int) ≤ t13_5 ∧ (t13_5 : Int) < ((s2_2l : Nat) : Int))) (V.ptr s2_2 fun a11 =>
  ∃ n12, ∃ s13, V.cellsC (fun a_ x_ => World.cell? w7 a_ = some x_) (Addr.add a11 ((Int.toNat t13_5) * 2)) [(Value.int .i64 n12), (Value.string s13)] ∧
  V.sel (!(((n9 : Int) == n12) && ((ByteArray.toList s10 == ByteArray.toList s13) && true)))
  (R (Ending.returned (Value.bool false)) (World.drew w7))
  (I3 (IntKind.wrap .i64 (t13_5 + 1)) (World.drew w7) ∧ μ4 (IntKind.wrap .i64 (t13_5 + 1)) (World.drew w7) < μ4 t13_5 w7))))
  (R (Ending.returned (Value.bool true)) w7)))) :
  Calls Tryz.prog 69 #[(Value.slice s1_1 s1_1l s1_1c), (Value.slice s2_2 s2_2l s2_2c)] w R :=
  V.Z.calls_of_N ⟨V.assoc [(0, [13])], V.assocP [(6, V.line [0, 1, 2, 3, 4, 5, 6, 7, 8])], V.assocC [], V.assocS [], ⟨[], true⟩⟩ Tryz.func69 rfl (Eq.mp (by kernel_rfl) h)

end Go.Proofs.YtoaeefjcjdhlkaaGreat
