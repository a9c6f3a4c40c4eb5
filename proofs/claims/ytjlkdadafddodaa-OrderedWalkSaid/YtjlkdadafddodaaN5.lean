/- Normal forms of the program's functions, printed by a program of mine; the kernel checks each. -/
import Derived.Test.YtjlkdadafddodaaProg
import Derived.Test.YtjlkdadafddodaaV2
set_option linter.unusedVariables false
set_option maxRecDepth 100000
namespace Go.Proofs.Ytjlkdadafddodaa
open Go

theorem ordered_Index_Keys_nf (x_1 : Option Addr) (w : World) (R : Ending → World → Prop) (h :
  V.sel (!(Option.isNone x_1))
  (V.ptr x_1 fun a2 =>
  ∃ m3, World.cell? w (Addr.add a2 1) = some (Value.map m3) ∧
  ∃ p4, ∃ w5, Sem.run Try.prog (Instr.range 94 (Value.map m3)) w = .ok (Value.pointer p4) w5 ∧
  ∃ I6 : Option Addr → Nat → Nat → World → Prop, ∃ μ7 : Option Addr → Nat → Nat → World → Nat, I6 none 0 0 w5 ∧
  ∀ keys_8 keys_8l keys_8c (j9 : Nat → Value) (w10 : World), I6 keys_8 keys_8l keys_8c w10 →
  ((∃ w11, Sem.run Try.prog (Instr.next (Value.pointer p4) false 0) w10 = .ok (.tuple #[.bool false]) w11 ∧
  Calls Try.prog 52 #[(Value.slice keys_8 keys_8l keys_8c)] w11 fun e12 w13 =>
  e12 = Ending.returned undef ∧
  R (Ending.returned (Value.slice keys_8 keys_8l keys_8c)) w13) ∨
  (∃ k14, ∃ v15, ∃ w16, Sem.run Try.prog (Instr.next (Value.pointer p4) false 0) w10 = .ok (.tuple #[.bool true, k14, v15]) w16 ∧
  ∃ k17, ∃ v18, ∃ w19, Sem.run Try.prog (Instr.entry (Value.pointer p4)) w16 = .ok (.tuple #[.string k17, v18]) w19 ∧
  ∀ w20, w20 = (World.alloc w19 (.cells #[(Value.string k17)] 9)) →
  ∃ A21, ∃ A21l, ∃ A21c, ∃ w22, Sem.run Try.prog (Builtin.append_ #[43, 43] 43 #[(Value.slice keys_8 keys_8l keys_8c), (Value.slice (some ⟨Array.size (World.heap w19), 0, none⟩) 1 1)]) w20 = .ok (Value.slice A21 A21l A21c) w22 ∧
  I6 A21 A21l A21c w22 ∧ μ7 A21 A21l A21c w22 < μ7 keys_8 keys_8l keys_8c w10)))
  (Calls Try.prog 52 #[(Value.slice none 0 0)] w fun e23 w24 =>
  e23 = Ending.returned undef ∧
  R (Ending.returned (Value.slice none 0 0)) w24)) :
  Calls Try.prog 21 #[(Value.pointer x_1)] w R :=
  V.calls_of_R ⟨V.assoc [(0, [3])], V.assocP [], V.assocC [], V.assocS [], ⟨[], true⟩⟩ Try.func21 rfl (Eq.mp (by kernel_rfl) h)

end Go.Proofs.Ytjlkdadafddodaa
