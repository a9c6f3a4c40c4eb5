/- Normal forms of the program's functions, printed by a program of mine; the kernel checks each. -/
import Derived.Test.YtcampkaenlohbaaProg
import Derived.Test.YtcampkaenlohbaaV2
set_option linter.unusedVariables false
set_option maxRecDepth 100000
namespace Go.Proofs.Ytcampkaenlohbaa
open Go

theorem slots_Table_int__Copy_nil_nf (t_1 : Option Addr) (w : World) (R : Ending → World → Prop) (h :
  V.sel (Option.isNone t_1)
  (R (Ending.returned (Value.pointer none)) w)
  (∃ S2 : World → Prop, S2 (World.drew w) ∧
  V.ptr t_1 fun a4 =>
  ∃ n5, (∀ w3, S2 w3 → World.cell? w3 (Addr.add a4 0) = some (Value.int .i64 n5)) ∧
  V.ptr t_1 fun a6 =>
  ∃ n7, (∀ w3, S2 w3 → World.cell? w3 (Addr.add a6 3) = some (Value.int .i64 n7)) ∧
  ∀ w8, w8 = (World.alloc (World.drew w) (.map #[] 0)) →
  S2 w8 ∧
  ∀ w9, w9 = (World.alloc w8 (.cells #[(Value.int .i64 n5), (Value.map (some (Array.size (World.heap (World.drew w))))), (Value.slice none 0 0), (Value.int .i64 n7)] 79)) →
  S2 w9 ∧
  V.ptr t_1 fun a10 =>
  ∃ A11, ∃ A11l, ∃ A11c, World.cell? w9 (Addr.add a10 2) = some (Value.slice A11 A11l A11c) ∧
  ∃ I12 : Int → World → Prop, ∃ μ13 : Int → World → Nat, I12 0 w9 ∧
  ∀ t26_14 (j15 : Nat → Value) (w16 : World), I12 t26_14 w16 →
  (V.sel (decide (t26_14 < ((A11l : Nat) : Int)))
  (V.when (decide ((0 : Int) ≤ t26_14 ∧ (t26_14 : Int) < ((A11l : Nat) : Int))) (V.ptr A11 fun a17 =>
  ∃ b18, ∃ s19, ∃ n20, V.cellsC (fun a_ x_ => World.cell? w16 a_ = some x_) (Addr.add a17 ((Int.toNat t26_14) * 3)) [(Value.bool b18), (Value.string s19), (Value.int .i64 n20)] ∧
  ∀ w21, w21 = (World.alloc w16 (.cells #[(Value.bool false), (Value.string ByteArray.empty), (Value.int .i64 0)] 81)) →
  ∃ w22, Sem.run Try.prog (Instr.storeAt 81 (Value.pointer (some ⟨Array.size (World.heap w16), 0, none⟩)) (Value.agg #[(Value.bool b18), (Value.string s19), (Value.int .i64 n20)])) w21 = .ok () w22 ∧
  ∃ b23, World.cell? w22 (Addr.add ⟨Array.size (World.heap w16), 0, none⟩ 0) = some (Value.bool b23) ∧
  V.sel b23
  (∃ m24, World.cell? w22 (Addr.add ⟨Array.size (World.heap w8), 0, none⟩ 1) = some (Value.map m24) ∧
  ∃ s25, World.cell? w22 (Addr.add ⟨Array.size (World.heap w16), 0, none⟩ 1) = some (Value.string s25) ∧
  ∃ w26, Sem.run Try.prog (Instr.mapUpdate 28 (Value.map m24) (Value.string s25) (Value.int .i64 t26_14)) (World.drew w22) = .ok () w26 ∧
  ∃ S27 : World → Prop, S27 (World.drew w26) ∧
  ∃ A29, ∃ A29l, ∃ A29c, (∀ w28, S27 w28 → World.cell? w28 (Addr.add ⟨Array.size (World.heap w8), 0, none⟩ 2) = some (Value.slice A29 A29l A29c)) ∧
  ∃ b30, ∃ s31, ∃ n32, V.cellsC (fun a_ x_ => ∀ w28, S27 w28 → World.cell? w28 a_ = some x_) ⟨Array.size (World.heap w16), 0, none⟩ [(Value.bool b30), (Value.string s31), (Value.int .i64 n32)] ∧
  ∀ w33, w33 = (World.alloc (World.drew w26) (.cells #[(Value.bool b30), (Value.string s31), (Value.int .i64 n32)] 81)) →
  S27 w33 ∧
  ∃ A34, ∃ A34l, ∃ A34c, ∃ w35, Sem.run Try.prog (Builtin.append_ #[77, 77] 77 #[(Value.slice A29 A29l A29c), (Value.slice (some ⟨Array.size (World.heap (World.drew w26)), 0, none⟩) 1 1)]) w33 = .ok (Value.slice A34 A34l A34c) w35 ∧
  S27 w35 ∧
  ∃ w36, Sem.run Try.prog (Instr.storeAt 77 (Value.pointer (some (Addr.add ⟨Array.size (World.heap w8), 0, none⟩ 2))) (Value.slice A34 A34l A34c)) w35 = .ok () w36 ∧
  I12 (IntKind.wrap .i64 (t26_14 + 1)) w36 ∧ μ13 (IntKind.wrap .i64 (t26_14 + 1)) w36 < μ13 t26_14 w16)
  (∃ S37 : World → Prop, S37 (World.drew w22) ∧
  ∃ A39, ∃ A39l, ∃ A39c, (∀ w38, S37 w38 → World.cell? w38 (Addr.add ⟨Array.size (World.heap w8), 0, none⟩ 2) = some (Value.slice A39 A39l A39c)) ∧
  ∃ b40, ∃ s41, ∃ n42, V.cellsC (fun a_ x_ => ∀ w38, S37 w38 → World.cell? w38 a_ = some x_) ⟨Array.size (World.heap w16), 0, none⟩ [(Value.bool b40), (Value.string s41), (Value.int .i64 n42)] ∧
  ∀ w43, w43 = (World.alloc (World.drew w22) (.cells #[(Value.bool b40), (Value.string s41), (Value.int .i64 n42)] 81)) →
  S37 w43 ∧
  ∃ A44, ∃ A44l, ∃ A44c, ∃ w45, Sem.run Try.prog (Builtin.append_ #[77, 77] 77 #[(Value.slice A39 A39l A39c), (Value.slice (some ⟨Array.size (World.heap (World.drew w22)), 0, none⟩) 1 1)]) w43 = .ok (Value.slice A44 A44l A44c) w45 ∧
  S37 w45 ∧
  ∃ w46, Sem.run Try.prog (Instr.storeAt 77 (Value.pointer (some (Addr.add ⟨Array.size (World.heap w8), 0, none⟩ 2))) (Value.slice A44 A44l A44c)) w45 = .ok () w46 ∧
  I12 (IntKind.wrap .i64 (t26_14 + 1)) w46 ∧ μ13 (IntKind.wrap .i64 (t26_14 + 1)) w46 < μ13 t26_14 w16)))
  (R (Ending.returned (Value.pointer (some ⟨Array.size (World.heap w8), 0, none⟩))) w16)))) :
  Calls Try.prog 27 #[(Value.pointer t_1), Value.nilFunc] w R :=
  V.calls_of_R ⟨V.assoc [(0, [26])], V.assocP [(3, V.line [0, 1, 2, 3, 5, 6, 7, 8, 4, 9, 10, 11]), (8, V.line [0, 1, 2, 3, 4, 5, 6, 7]), (11, V.line [0, 1, 2, 3, 4, 5, 6, 7, 8, 9, 10])], V.assocC [], V.assocS [], ⟨[], true⟩⟩ Try.func27 rfl (Eq.mp (by kernel_rfl) h)

end Go.Proofs.Ytcampkaenlohbaa
