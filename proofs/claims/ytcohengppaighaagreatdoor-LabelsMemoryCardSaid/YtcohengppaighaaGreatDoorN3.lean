/- Normal forms of the program's functions, printed by a program of mine; the kernel checks each. -/
import Derived.Test.YtcohengppaighaaGreatDoorProg
import Derived.Test.YtcohengppaighaaGreatDoorV2
set_option linter.unusedVariables false
set_option maxRecDepth 100000
namespace Go.Proofs.YtcohengppaighaaGreatDoor
open Go

theorem labels_fault_nf (list_1 : Option Addr) (list_1l : Nat) (list_1c : Nat) (d_2 : ByteArray) (d_3 : ByteArray) (d_4 : ByteArray) (d_5 : Bool) (d_6 : Bool) (w : World) (R : Ending → World → Prop) (h :
  ∀ w7, w7 = (World.alloc w (.cells #[(Value.string d_2), (Value.string d_3), (Value.string d_4), (Value.bool d_5), (Value.bool d_6)] 59)) →
  ∃ s8, World.cell? w7 (Addr.add ⟨Array.size (World.heap w), 0, none⟩ 0) = some (Value.string s8) ∧
  Calls Tryz.prog 26 #[(Value.slice list_1 list_1l list_1c), (Value.string s8)] w7 fun e11 w12 =>
  ∃ s9, ∃ b10, e11 = Ending.returned (Value.tuple #[(Value.string s9), (Value.bool b10)]) ∧
  ∃ b13, World.cell? w12 (Addr.add ⟨Array.size (World.heap w), 0, none⟩ 3) = some (Value.bool b13) ∧
  V.sel (!b13)
  (∃ b14, World.cell? w12 (Addr.add ⟨Array.size (World.heap w), 0, none⟩ 4) = some (Value.bool b14) ∧
  V.sel (!b14)
  (V.sel (!b14)
  (R (Ending.returned (Value.int .i64 37)) w12)
  (∃ b15, World.cell? w12 (Addr.add ⟨Array.size (World.heap w), 0, none⟩ 3) = some (Value.bool b15) ∧
  V.sel b15
  (∃ s16, World.cell? w12 (Addr.add ⟨Array.size (World.heap w), 0, none⟩ 1) = some (Value.string s16) ∧
  Calls Tryz.prog 27 #[(Value.string s16)] w12 fun e18 w19 =>
  ∃ b17, e18 = Ending.returned (Value.bool b17) ∧
  V.sel (!b17)
  (V.sel (!b17)
  (R (Ending.returned (Value.int .i64 32)) w19)
  (∃ b20, World.cell? w19 (Addr.add ⟨Array.size (World.heap w), 0, none⟩ 3) = some (Value.bool b20) ∧
  V.sel (!(b20 == b10))
  (V.sel (!(b20 == b10))
  (R (Ending.returned (Value.int .i64 38)) w19)
  (R (Ending.returned (Value.int .i64 0)) w19))
  (∃ b21, World.cell? w19 (Addr.add ⟨Array.size (World.heap w), 0, none⟩ 3) = some (Value.bool b21) ∧
  V.sel b21
  (∃ s22, World.cell? w19 (Addr.add ⟨Array.size (World.heap w), 0, none⟩ 1) = some (Value.string s22) ∧
  V.sel (!(ByteArray.toList s22 == ByteArray.toList s9))
  (R (Ending.returned (Value.int .i64 38)) w19)
  (R (Ending.returned (Value.int .i64 0)) w19))
  (R (Ending.returned (Value.int .i64 0)) w19))))
  (∃ b23, World.cell? w19 (Addr.add ⟨Array.size (World.heap w), 0, none⟩ 4) = some (Value.bool b23) ∧
  V.sel b23
  (∃ s24, World.cell? w19 (Addr.add ⟨Array.size (World.heap w), 0, none⟩ 2) = some (Value.string s24) ∧
  Calls Tryz.prog 27 #[(Value.string s24)] w19 fun e26 w27 =>
  ∃ b25, e26 = Ending.returned (Value.bool b25) ∧
  V.sel (!b25)
  (R (Ending.returned (Value.int .i64 32)) w27)
  (∃ b28, World.cell? w27 (Addr.add ⟨Array.size (World.heap w), 0, none⟩ 3) = some (Value.bool b28) ∧
  V.sel (!(b28 == b10))
  (V.sel (!(b28 == b10))
  (R (Ending.returned (Value.int .i64 38)) w27)
  (R (Ending.returned (Value.int .i64 0)) w27))
  (∃ b29, World.cell? w27 (Addr.add ⟨Array.size (World.heap w), 0, none⟩ 3) = some (Value.bool b29) ∧
  V.sel b29
  (∃ s30, World.cell? w27 (Addr.add ⟨Array.size (World.heap w), 0, none⟩ 1) = some (Value.string s30) ∧
  V.sel (!(ByteArray.toList s30 == ByteArray.toList s9))
  (R (Ending.returned (Value.int .i64 38)) w27)
  (R (Ending.returned (Value.int .i64 0)) w27))
  (R (Ending.returned (Value.int .i64 0)) w27))))
  (∃ b31, World.cell? w19 (Addr.add ⟨Array.size (World.heap w), 0, none⟩ 3) = some (Value.bool b31) ∧
  V.sel (!(b31 == b10))
  (V.sel (!(b31 == b10))
  (R (Ending.returned (Value.int .i64 38)) w19)
  (R (Ending.returned (Value.int .i64 0)) w19))
  (∃ b32, World.cell? w19 (Addr.add ⟨Array.size (World.heap w), 0, none⟩ 3) = some (Value.bool b32) ∧
  V.sel b32
  (∃ s33, World.cell? w19 (Addr.add ⟨Array.size (World.heap w), 0, none⟩ 1) = some (Value.string s33) ∧
  V.sel (!(ByteArray.toList s33 == ByteArray.toList s9))
  (R (Ending.returned (Value.int .i64 38)) w19)
  (R (Ending.returned (Value.int .i64 0)) w19))
  (R (Ending.returned (Value.int .i64 0)) w19)))))
  (∃ b34, World.cell? w12 (Addr.add ⟨Array.size (World.heap w), 0, none⟩ 4) = some (Value.bool b34) ∧
  V.sel b34
  (∃ s35, World.cell? w12 (Addr.add ⟨Array.size (World.heap w), 0, none⟩ 2) = some (Value.string s35) ∧
  Calls Tryz.prog 27 #[(Value.string s35)] w12 fun e37 w38 =>
  ∃ b36, e37 = Ending.returned (Value.bool b36) ∧
  V.sel (!b36)
  (R (Ending.returned (Value.int .i64 32)) w38)
  (∃ b39, World.cell? w38 (Addr.add ⟨Array.size (World.heap w), 0, none⟩ 3) = some (Value.bool b39) ∧
  V.sel (!(b39 == b10))
  (V.sel (!(b39 == b10))
  (R (Ending.returned (Value.int .i64 38)) w38)
  (R (Ending.returned (Value.int .i64 0)) w38))
  (∃ b40, World.cell? w38 (Addr.add ⟨Array.size (World.heap w), 0, none⟩ 3) = some (Value.bool b40) ∧
  V.sel b40
  (∃ s41, World.cell? w38 (Addr.add ⟨Array.size (World.heap w), 0, none⟩ 1) = some (Value.string s41) ∧
  V.sel (!(ByteArray.toList s41 == ByteArray.toList s9))
  (R (Ending.returned (Value.int .i64 38)) w38)
  (R (Ending.returned (Value.int .i64 0)) w38))
  (R (Ending.returned (Value.int .i64 0)) w38))))
  (∃ b42, World.cell? w12 (Addr.add ⟨Array.size (World.heap w), 0, none⟩ 3) = some (Value.bool b42) ∧
  V.sel (!(b42 == b10))
  (V.sel (!(b42 == b10))
  (R (Ending.returned (Value.int .i64 38)) w12)
  (R (Ending.returned (Value.int .i64 0)) w12))
  (∃ b43, World.cell? w12 (Addr.add ⟨Array.size (World.heap w), 0, none⟩ 3) = some (Value.bool b43) ∧
  V.sel b43
  (∃ s44, World.cell? w12 (Addr.add ⟨Array.size (World.heap w), 0, none⟩ 1) = some (Value.string s44) ∧
  V.sel (!(ByteArray.toList s44 == ByteArray.toList s9))
  (R (Ending.returned (Value.int .i64 38)) w12)
  (R (Ending.returned (Value.int .i64 0)) w12))
  (R (Ending.returned (Value.int .i64 0)) w12))))))
  (∃ b45, World.cell? w12 (Addr.add ⟨Array.size (World.heap w), 0, none⟩ 3) = some (Value.bool b45) ∧
  V.sel (!b45)
  (∃ s46, World.cell? w12 (Addr.add ⟨Array.size (World.heap w), 0, none⟩ 1) = some (Value.string s46) ∧
  V.sel (!(ByteArray.toList s46 == ByteArray.toList ByteArray.empty))
  (V.sel (!(ByteArray.toList s46 == ByteArray.toList ByteArray.empty))
  (R (Ending.returned (Value.int .i64 37)) w12)
  (∃ b47, World.cell? w12 (Addr.add ⟨Array.size (World.heap w), 0, none⟩ 3) = some (Value.bool b47) ∧
  V.sel b47
  (∃ s48, World.cell? w12 (Addr.add ⟨Array.size (World.heap w), 0, none⟩ 1) = some (Value.string s48) ∧
  Calls Tryz.prog 27 #[(Value.string s48)] w12 fun e50 w51 =>
  ∃ b49, e50 = Ending.returned (Value.bool b49) ∧
  V.sel (!b49)
  (V.sel (!b49)
  (R (Ending.returned (Value.int .i64 32)) w51)
  (∃ b52, World.cell? w51 (Addr.add ⟨Array.size (World.heap w), 0, none⟩ 3) = some (Value.bool b52) ∧
  V.sel (!(b52 == b10))
  (V.sel (!(b52 == b10))
  (R (Ending.returned (Value.int .i64 38)) w51)
  (R (Ending.returned (Value.int .i64 0)) w51))
  (∃ b53, World.cell? w51 (Addr.add ⟨Array.size (World.heap w), 0, none⟩ 3) = some (Value.bool b53) ∧
  V.sel b53
  (∃ s54, World.cell? w51 (Addr.add ⟨Array.size (World.heap w), 0, none⟩ 1) = some (Value.string s54) ∧
  V.sel (!(ByteArray.toList s54 == ByteArray.toList s9))
  (R (Ending.returned (Value.int .i64 38)) w51)
  (R (Ending.returned (Value.int .i64 0)) w51))
  (R (Ending.returned (Value.int .i64 0)) w51))))
  (∃ b55, World.cell? w51 (Addr.add ⟨Array.size (World.heap w), 0, none⟩ 4) = some (Value.bool b55) ∧
  V.sel b55
  (∃ s56, World.cell? w51 (Addr.add ⟨Array.size (World.heap w), 0, none⟩ 2) = some (Value.string s56) ∧
  Calls Tryz.prog 27 #[(Value.string s56)] w51 fun e58 w59 =>
  ∃ b57, e58 = Ending.returned (Value.bool b57) ∧
  V.sel (!b57)
  (R (Ending.returned (Value.int .i64 32)) w59)
  (∃ b60, World.cell? w59 (Addr.add ⟨Array.size (World.heap w), 0, none⟩ 3) = some (Value.bool b60) ∧
  V.sel (!(b60 == b10))
  (V.sel (!(b60 == b10))
  (R (Ending.returned (Value.int .i64 38)) w59)
  (R (Ending.returned (Value.int .i64 0)) w59))
  (∃ b61, World.cell? w59 (Addr.add ⟨Array.size (World.heap w), 0, none⟩ 3) = some (Value.bool b61) ∧
  V.sel b61
  (∃ s62, World.cell? w59 (Addr.add ⟨Array.size (World.heap w), 0, none⟩ 1) = some (Value.string s62) ∧
  V.sel (!(ByteArray.toList s62 == ByteArray.toList s9))
  (R (Ending.returned (Value.int .i64 38)) w59)
  (R (Ending.returned (Value.int .i64 0)) w59))
  (R (Ending.returned (Value.int .i64 0)) w59))))
  (∃ b63, World.cell? w51 (Addr.add ⟨Array.size (World.heap w), 0, none⟩ 3) = some (Value.bool b63) ∧
  V.sel (!(b63 == b10))
  (V.sel (!(b63 == b10))
  (R (Ending.returned (Value.int .i64 38)) w51)
  (R (Ending.returned (Value.int .i64 0)) w51))
  (∃ b64, World.cell? w51 (Addr.add ⟨Array.size (World.heap w), 0, none⟩ 3) = some (Value.bool b64) ∧
  V.sel b64
  (∃ s65, World.cell? w51 (Addr.add ⟨Array.size (World.heap w), 0, none⟩ 1) = some (Value.string s65) ∧
  V.sel (!(ByteArray.toList s65 == ByteArray.toList s9))
  (R (Ending.returned (Value.int .i64 38)) w51)
  (R (Ending.returned (Value.int .i64 0)) w51))
  (R (Ending.returned (Value.int .i64 0)) w51)))))
  (∃ b66, World.cell? w12 (Addr.add ⟨Array.size (World.heap w), 0, none⟩ 4) = some (Value.bool b66) ∧
  V.sel b66
  (∃ s67, World.cell? w12 (Addr.add ⟨Array.size (World.heap w), 0, none⟩ 2) = some (Value.string s67) ∧
  Calls Tryz.prog 27 #[(Value.string s67)] w12 fun e69 w70 =>
  ∃ b68, e69 = Ending.returned (Value.bool b68) ∧
  V.sel (!b68)
  (R (Ending.returned (Value.int .i64 32)) w70)
  (∃ b71, World.cell? w70 (Addr.add ⟨Array.size (World.heap w), 0, none⟩ 3) = some (Value.bool b71) ∧
  V.sel (!(b71 == b10))
  (V.sel (!(b71 == b10))
  (R (Ending.returned (Value.int .i64 38)) w70)
  (R (Ending.returned (Value.int .i64 0)) w70))
  (∃ b72, World.cell? w70 (Addr.add ⟨Array.size (World.heap w), 0, none⟩ 3) = some (Value.bool b72) ∧
  V.sel b72
  (∃ s73, World.cell? w70 (Addr.add ⟨Array.size (World.heap w), 0, none⟩ 1) = some (Value.string s73) ∧
  V.sel (!(ByteArray.toList s73 == ByteArray.toList s9))
  (R (Ending.returned (Value.int .i64 38)) w70)
  (R (Ending.returned (Value.int .i64 0)) w70))
  (R (Ending.returned (Value.int .i64 0)) w70))))
  (∃ b74, World.cell? w12 (Addr.add ⟨Array.size (World.heap w), 0, none⟩ 3) = some (Value.bool b74) ∧
  V.sel (!(b74 == b10))
  (V.sel (!(b74 == b10))
  (R (Ending.returned (Value.int .i64 38)) w12)
  (R (Ending.returned (Value.int .i64 0)) w12))
  (∃ b75, World.cell? w12 (Addr.add ⟨Array.size (World.heap w), 0, none⟩ 3) = some (Value.bool b75) ∧
  V.sel b75
  (∃ s76, World.cell? w12 (Addr.add ⟨Array.size (World.heap w), 0, none⟩ 1) = some (Value.string s76) ∧
  V.sel (!(ByteArray.toList s76 == ByteArray.toList s9))
  (R (Ending.returned (Value.int .i64 38)) w12)
  (R (Ending.returned (Value.int .i64 0)) w12))
  (R (Ending.returned (Value.int .i64 0)) w12))))))
  (∃ b77, World.cell? w12 (Addr.add ⟨Array.size (World.heap w), 0, none⟩ 4) = some (Value.bool b77) ∧
  V.sel (!b77)
  (∃ s78, World.cell? w12 (Addr.add ⟨Array.size (World.heap w), 0, none⟩ 2) = some (Value.string s78) ∧
  V.sel (!(ByteArray.toList s78 == ByteArray.toList ByteArray.empty))
  (V.sel (!(ByteArray.toList s78 == ByteArray.toList ByteArray.empty))
  (R (Ending.returned (Value.int .i64 37)) w12)
  (∃ b79, World.cell? w12 (Addr.add ⟨Array.size (World.heap w), 0, none⟩ 3) = some (Value.bool b79) ∧
  V.sel b79
  (∃ s80, World.cell? w12 (Addr.add ⟨Array.size (World.heap w), 0, none⟩ 1) = some (Value.string s80) ∧
  Calls Tryz.prog 27 #[(Value.string s80)] w12 fun e82 w83 =>
  ∃ b81, e82 = Ending.returned (Value.bool b81) ∧
  V.sel (!b81)
  (V.sel (!b81)
  (R (Ending.returned (Value.int .i64 32)) w83)
  (∃ b84, World.cell? w83 (Addr.add ⟨Array.size (World.heap w), 0, none⟩ 3) = some (Value.bool b84) ∧
  V.sel (!(b84 == b10))
  (V.sel (!(b84 == b10))
  (R (Ending.returned (Value.int .i64 38)) w83)
  (R (Ending.returned (Value.int .i64 0)) w83))
  (∃ b85, World.cell? w83 (Addr.add ⟨Array.size (World.heap w), 0, none⟩ 3) = some (Value.bool b85) ∧
  V.sel b85
  (∃ s86, World.cell? w83 (Addr.add ⟨Array.size (World.heap w), 0, none⟩ 1) = some (Value.string s86) ∧
  V.sel (!(ByteArray.toList s86 == ByteArray.toList s9))
  (R (Ending.returned (Value.int .i64 38)) w83)
  (R (Ending.returned (Value.int .i64 0)) w83))
  (R (Ending.returned (Value.int .i64 0)) w83))))
  (∃ b87, World.cell? w83 (Addr.add ⟨Array.size (World.heap w), 0, none⟩ 4) = some (Value.bool b87) ∧
  V.sel b87
  (∃ s88, World.cell? w83 (Addr.add ⟨Array.size (World.heap w), 0, none⟩ 2) = some (Value.string s88) ∧
  Calls Tryz.prog 27 #[(Value.string s88)] w83 fun e90 w91 =>
  ∃ b89, e90 = Ending.returned (Value.bool b89) ∧
  V.sel (!b89)
  (R (Ending.returned (Value.int .i64 32)) w91)
  (∃ b92, World.cell? w91 (Addr.add ⟨Array.size (World.heap w), 0, none⟩ 3) = some (Value.bool b92) ∧
  V.sel (!(b92 == b10))
  (V.sel (!(b92 == b10))
  (R (Ending.returned (Value.int .i64 38)) w91)
  (R (Ending.returned (Value.int .i64 0)) w91))
  (∃ b93, World.cell? w91 (Addr.add ⟨Array.size (World.heap w), 0, none⟩ 3) = some (Value.bool b93) ∧
  V.sel b93
  (∃ s94, World.cell? w91 (Addr.add ⟨Array.size (World.heap w), 0, none⟩ 1) = some (Value.string s94) ∧
  V.sel (!(ByteArray.toList s94 == ByteArray.toList s9))
  (R (Ending.returned (Value.int .i64 38)) w91)
  (R (Ending.returned (Value.int .i64 0)) w91))
  (R (Ending.returned (Value.int .i64 0)) w91))))
  (∃ b95, World.cell? w83 (Addr.add ⟨Array.size (World.heap w), 0, none⟩ 3) = some (Value.bool b95) ∧
  V.sel (!(b95 == b10))
  (V.sel (!(b95 == b10))
  (R (Ending.returned (Value.int .i64 38)) w83)
  (R (Ending.returned (Value.int .i64 0)) w83))
  (∃ b96, World.cell? w83 (Addr.add ⟨Array.size (World.heap w), 0, none⟩ 3) = some (Value.bool b96) ∧
  V.sel b96
  (∃ s97, World.cell? w83 (Addr.add ⟨Array.size (World.heap w), 0, none⟩ 1) = some (Value.string s97) ∧
  V.sel (!(ByteArray.toList s97 == ByteArray.toList s9))
  (R (Ending.returned (Value.int .i64 38)) w83)
  (R (Ending.returned (Value.int .i64 0)) w83))
  (R (Ending.returned (Value.int .i64 0)) w83)))))
  (∃ b98, World.cell? w12 (Addr.add ⟨Array.size (World.heap w), 0, none⟩ 4) = some (Value.bool b98) ∧
  V.sel b98
  (∃ s99, World.cell? w12 (Addr.add ⟨Array.size (World.heap w), 0, none⟩ 2) = some (Value.string s99) ∧
  Calls Tryz.prog 27 #[(Value.string s99)] w12 fun e101 w102 =>
  ∃ b100, e101 = Ending.returned (Value.bool b100) ∧
  V.sel (!b100)
  (R (Ending.returned (Value.int .i64 32)) w102)
  (∃ b103, World.cell? w102 (Addr.add ⟨Array.size (World.heap w), 0, none⟩ 3) = some (Value.bool b103) ∧
  V.sel (!(b103 == b10))
  (V.sel (!(b103 == b10))
  (R (Ending.returned (Value.int .i64 38)) w102)
  (R (Ending.returned (Value.int .i64 0)) w102))
  (∃ b104, World.cell? w102 (Addr.add ⟨Array.size (World.heap w), 0, none⟩ 3) = some (Value.bool b104) ∧
  V.sel b104
  (∃ s105, World.cell? w102 (Addr.add ⟨Array.size (World.heap w), 0, none⟩ 1) = some (Value.string s105) ∧
  V.sel (!(ByteArray.toList s105 == ByteArray.toList s9))
  (R (Ending.returned (Value.int .i64 38)) w102)
  (R (Ending.returned (Value.int .i64 0)) w102))
  (R (Ending.returned (Value.int .i64 0)) w102))))
  (∃ b106, World.cell? w12 (Addr.add ⟨Array.size (World.heap w), 0, none⟩ 3) = some (Value.bool b106) ∧
  V.sel (!(b106 == b10))
  (V.sel (!(b106 == b10))
  (R (Ending.returned (Value.int .i64 38)) w12)
  (R (Ending.returned (Value.int .i64 0)) w12))
  (∃ b107, World.cell? w12 (Addr.add ⟨Array.size (World.heap w), 0, none⟩ 3) = some (Value.bool b107) ∧
  V.sel b107
  (∃ s108, World.cell? w12 (Addr.add ⟨Array.size (World.heap w), 0, none⟩ 1) = some (Value.string s108) ∧
  V.sel (!(ByteArray.toList s108 == ByteArray.toList s9))
  (R (Ending.returned (Value.int .i64 38)) w12)
  (R (Ending.returned (Value.int .i64 0)) w12))
  (R (Ending.returned (Value.int .i64 0)) w12))))))
  (∃ b109, World.cell? w12 (Addr.add ⟨Array.size (World.heap w), 0, none⟩ 3) = some (Value.bool b109) ∧
  V.sel b109
  (∃ b110, World.cell? w12 (Addr.add ⟨Array.size (World.heap w), 0, none⟩ 4) = some (Value.bool b110) ∧
  V.sel b110
  (∃ s111, World.cell? w12 (Addr.add ⟨Array.size (World.heap w), 0, none⟩ 1) = some (Value.string s111) ∧
  ∃ s112, World.cell? w12 (Addr.add ⟨Array.size (World.heap w), 0, none⟩ 2) = some (Value.string s112) ∧
  V.sel (ByteArray.toList s111 == ByteArray.toList s112)
  (R (Ending.returned (Value.int .i64 37)) w12)
  (∃ b113, World.cell? w12 (Addr.add ⟨Array.size (World.heap w), 0, none⟩ 3) = some (Value.bool b113) ∧
  V.sel b113
  (∃ s114, World.cell? w12 (Addr.add ⟨Array.size (World.heap w), 0, none⟩ 1) = some (Value.string s114) ∧
  Calls Tryz.prog 27 #[(Value.string s114)] w12 fun e116 w117 =>
  ∃ b115, e116 = Ending.returned (Value.bool b115) ∧
  V.sel (!b115)
  (V.sel (!b115)
  (R (Ending.returned (Value.int .i64 32)) w117)
  (∃ b118, World.cell? w117 (Addr.add ⟨Array.size (World.heap w), 0, none⟩ 3) = some (Value.bool b118) ∧
  V.sel (!(b118 == b10))
  (V.sel (!(b118 == b10))
  (R (Ending.returned (Value.int .i64 38)) w117)
  (R (Ending.returned (Value.int .i64 0)) w117))
  (∃ b119, World.cell? w117 (Addr.add ⟨Array.size (World.heap w), 0, none⟩ 3) = some (Value.bool b119) ∧
  V.sel b119
  (∃ s120, World.cell? w117 (Addr.add ⟨Array.size (World.heap w), 0, none⟩ 1) = some (Value.string s120) ∧
  V.sel (!(ByteArray.toList s120 == ByteArray.toList s9))
  (R (Ending.returned (Value.int .i64 38)) w117)
  (R (Ending.returned (Value.int .i64 0)) w117))
  (R (Ending.returned (Value.int .i64 0)) w117))))
  (∃ b121, World.cell? w117 (Addr.add ⟨Array.size (World.heap w), 0, none⟩ 4) = some (Value.bool b121) ∧
  V.sel b121
  (∃ s122, World.cell? w117 (Addr.add ⟨Array.size (World.heap w), 0, none⟩ 2) = some (Value.string s122) ∧
  Calls Tryz.prog 27 #[(Value.string s122)] w117 fun e124 w125 =>
  ∃ b123, e124 = Ending.returned (Value.bool b123) ∧
  V.sel (!b123)
  (R (Ending.returned (Value.int .i64 32)) w125)
  (∃ b126, World.cell? w125 (Addr.add ⟨Array.size (World.heap w), 0, none⟩ 3) = some (Value.bool b126) ∧
  V.sel (!(b126 == b10))
  (V.sel (!(b126 == b10))
  (R (Ending.returned (Value.int .i64 38)) w125)
  (R (Ending.returned (Value.int .i64 0)) w125))
  (∃ b127, World.cell? w125 (Addr.add ⟨Array.size (World.heap w), 0, none⟩ 3) = some (Value.bool b127) ∧
  V.sel b127
  (∃ s128, World.cell? w125 (Addr.add ⟨Array.size (World.heap w), 0, none⟩ 1) = some (Value.string s128) ∧
  V.sel (!(ByteArray.toList s128 == ByteArray.toList s9))
  (R (Ending.returned (Value.int .i64 38)) w125)
  (R (Ending.returned (Value.int .i64 0)) w125))
  (R (Ending.returned (Value.int .i64 0)) w125))))
  (∃ b129, World.cell? w117 (Addr.add ⟨Array.size (World.heap w), 0, none⟩ 3) = some (Value.bool b129) ∧
  V.sel (!(b129 == b10))
  (V.sel (!(b129 == b10))
  (R (Ending.returned (Value.int .i64 38)) w117)
  (R (Ending.returned (Value.int .i64 0)) w117))
  (∃ b130, World.cell? w117 (Addr.add ⟨Array.size (World.heap w), 0, none⟩ 3) = some (Value.bool b130) ∧
  V.sel b130
  (∃ s131, World.cell? w117 (Addr.add ⟨Array.size (World.heap w), 0, none⟩ 1) = some (Value.string s131) ∧
  V.sel (!(ByteArray.toList s131 == ByteArray.toList s9))
  (R (Ending.returned (Value.int .i64 38)) w117)
  (R (Ending.returned (Value.int .i64 0)) w117))
  (R (Ending.returned (Value.int .i64 0)) w117)))))
  (∃ b132, World.cell? w12 (Addr.add ⟨Array.size (World.heap w), 0, none⟩ 4) = some (Value.bool b132) ∧
  V.sel b132
  (∃ s133, World.cell? w12 (Addr.add ⟨Array.size (World.heap w), 0, none⟩ 2) = some (Value.string s133) ∧
  Calls Tryz.prog 27 #[(Value.string s133)] w12 fun e135 w136 =>
  ∃ b134, e135 = Ending.returned (Value.bool b134) ∧
  V.sel (!b134)
  (R (Ending.returned (Value.int .i64 32)) w136)
  (∃ b137, World.cell? w136 (Addr.add ⟨Array.size (World.heap w), 0, none⟩ 3) = some (Value.bool b137) ∧
  V.sel (!(b137 == b10))
  (V.sel (!(b137 == b10))
  (R (Ending.returned (Value.int .i64 38)) w136)
  (R (Ending.returned (Value.int .i64 0)) w136))
  (∃ b138, World.cell? w136 (Addr.add ⟨Array.size (World.heap w), 0, none⟩ 3) = some (Value.bool b138) ∧
  V.sel b138
  (∃ s139, World.cell? w136 (Addr.add ⟨Array.size (World.heap w), 0, none⟩ 1) = some (Value.string s139) ∧
  V.sel (!(ByteArray.toList s139 == ByteArray.toList s9))
  (R (Ending.returned (Value.int .i64 38)) w136)
  (R (Ending.returned (Value.int .i64 0)) w136))
  (R (Ending.returned (Value.int .i64 0)) w136))))
  (∃ b140, World.cell? w12 (Addr.add ⟨Array.size (World.heap w), 0, none⟩ 3) = some (Value.bool b140) ∧
  V.sel (!(b140 == b10))
  (V.sel (!(b140 == b10))
  (R (Ending.returned (Value.int .i64 38)) w12)
  (R (Ending.returned (Value.int .i64 0)) w12))
  (∃ b141, World.cell? w12 (Addr.add ⟨Array.size (World.heap w), 0, none⟩ 3) = some (Value.bool b141) ∧
  V.sel b141
  (∃ s142, World.cell? w12 (Addr.add ⟨Array.size (World.heap w), 0, none⟩ 1) = some (Value.string s142) ∧
  V.sel (!(ByteArray.toList s142 == ByteArray.toList s9))
  (R (Ending.returned (Value.int .i64 38)) w12)
  (R (Ending.returned (Value.int .i64 0)) w12))
  (R (Ending.returned (Value.int .i64 0)) w12))))))
  (∃ b143, World.cell? w12 (Addr.add ⟨Array.size (World.heap w), 0, none⟩ 3) = some (Value.bool b143) ∧
  V.sel b143
  (∃ s144, World.cell? w12 (Addr.add ⟨Array.size (World.heap w), 0, none⟩ 1) = some (Value.string s144) ∧
  Calls Tryz.prog 27 #[(Value.string s144)] w12 fun e146 w147 =>
  ∃ b145, e146 = Ending.returned (Value.bool b145) ∧
  V.sel (!b145)
  (V.sel (!b145)
  (R (Ending.returned (Value.int .i64 32)) w147)
  (∃ b148, World.cell? w147 (Addr.add ⟨Array.size (World.heap w), 0, none⟩ 3) = some (Value.bool b148) ∧
  V.sel (!(b148 == b10))
  (V.sel (!(b148 == b10))
  (R (Ending.returned (Value.int .i64 38)) w147)
  (R (Ending.returned (Value.int .i64 0)) w147))
  (∃ b149, World.cell? w147 (Addr.add ⟨Array.size (World.heap w), 0, none⟩ 3) = some (Value.bool b149) ∧
  V.sel b149
  (∃ s150, World.cell? w147 (Addr.add ⟨Array.size (World.heap w), 0, none⟩ 1) = some (Value.string s150) ∧
  V.sel (!(ByteArray.toList s150 == ByteArray.toList s9))
  (R (Ending.returned (Value.int .i64 38)) w147)
  (R (Ending.returned (Value.int .i64 0)) w147))
  (R (Ending.returned (Value.int .i64 0)) w147))))
  (∃ b151, World.cell? w147 (Addr.add ⟨Array.size (World.heap w), 0, none⟩ 4) = some (Value.bool b151) ∧
  V.sel b151
  (∃ s152, World.cell? w147 (Addr.add ⟨Array.size (World.heap w), 0, none⟩ 2) = some (Value.string s152) ∧
  Calls Tryz.prog 27 #[(Value.string s152)] w147 fun e154 w155 =>
  ∃ b153, e154 = Ending.returned (Value.bool b153) ∧
  V.sel (!b153)
  (R (Ending.returned (Value.int .i64 32)) w155)
  (∃ b156, World.cell? w155 (Addr.add ⟨Array.size (World.heap w), 0, none⟩ 3) = some (Value.bool b156) ∧
  V.sel (!(b156 == b10))
  (V.sel (!(b156 == b10))
  (R (Ending.returned (Value.int .i64 38)) w155)
  (R (Ending.returned (Value.int .i64 0)) w155))
  (∃ b157, World.cell? w155 (Addr.add ⟨Array.size (World.heap w), 0, none⟩ 3) = some (Value.bool b157) ∧
  V.sel b157
  (∃ s158, World.cell? w155 (Addr.add ⟨Array.size (World.heap w), 0, none⟩ 1) = some (Value.string s158) ∧
  V.sel (!(ByteArray.toList s158 == ByteArray.toList s9))
  (R (Ending.returned (Value.int .i64 38)) w155)
  (R (Ending.returned (Value.int .i64 0)) w155))
  (R (Ending.returned (Value.int .i64 0)) w155))))
  (∃ b159, World.cell? w147 (Addr.add ⟨Array.size (World.heap w), 0, none⟩ 3) = some (Value.bool b159) ∧
  V.sel (!(b159 == b10))
  (V.sel (!(b159 == b10))
  (R (Ending.returned (Value.int .i64 38)) w147)
  (R (Ending.returned (Value.int .i64 0)) w147))
  (∃ b160, World.cell? w147 (Addr.add ⟨Array.size (World.heap w), 0, none⟩ 3) = some (Value.bool b160) ∧
  V.sel b160
  (∃ s161, World.cell? w147 (Addr.add ⟨Array.size (World.heap w), 0, none⟩ 1) = some (Value.string s161) ∧
  V.sel (!(ByteArray.toList s161 == ByteArray.toList s9))
  (R (Ending.returned (Value.int .i64 38)) w147)
  (R (Ending.returned (Value.int .i64 0)) w147))
  (R (Ending.returned (Value.int .i64 0)) w147)))))
  (∃ b162, World.cell? w12 (Addr.add ⟨Array.size (World.heap w), 0, none⟩ 4) = some (Value.bool b162) ∧
  V.sel b162
  (∃ s163, World.cell? w12 (Addr.add ⟨Array.size (World.heap w), 0, none⟩ 2) = some (Value.string s163) ∧
  Calls Tryz.prog 27 #[(Value.string s163)] w12 fun e165 w166 =>
  ∃ b164, e165 = Ending.returned (Value.bool b164) ∧
  V.sel (!b164)
  (R (Ending.returned (Value.int .i64 32)) w166)
  (∃ b167, World.cell? w166 (Addr.add ⟨Array.size (World.heap w), 0, none⟩ 3) = some (Value.bool b167) ∧
  V.sel (!(b167 == b10))
  (V.sel (!(b167 == b10))
  (R (Ending.returned (Value.int .i64 38)) w166)
  (R (Ending.returned (Value.int .i64 0)) w166))
  (∃ b168, World.cell? w166 (Addr.add ⟨Array.size (World.heap w), 0, none⟩ 3) = some (Value.bool b168) ∧
  V.sel b168
  (∃ s169, World.cell? w166 (Addr.add ⟨Array.size (World.heap w), 0, none⟩ 1) = some (Value.string s169) ∧
  V.sel (!(ByteArray.toList s169 == ByteArray.toList s9))
  (R (Ending.returned (Value.int .i64 38)) w166)
  (R (Ending.returned (Value.int .i64 0)) w166))
  (R (Ending.returned (Value.int .i64 0)) w166))))
  (∃ b170, World.cell? w12 (Addr.add ⟨Array.size (World.heap w), 0, none⟩ 3) = some (Value.bool b170) ∧
  V.sel (!(b170 == b10))
  (V.sel (!(b170 == b10))
  (R (Ending.returned (Value.int .i64 38)) w12)
  (R (Ending.returned (Value.int .i64 0)) w12))
  (∃ b171, World.cell? w12 (Addr.add ⟨Array.size (World.heap w), 0, none⟩ 3) = some (Value.bool b171) ∧
  V.sel b171
  (∃ s172, World.cell? w12 (Addr.add ⟨Array.size (World.heap w), 0, none⟩ 1) = some (Value.string s172) ∧
  V.sel (!(ByteArray.toList s172 == ByteArray.toList s9))
  (R (Ending.returned (Value.int .i64 38)) w12)
  (R (Ending.returned (Value.int .i64 0)) w12))
  (R (Ending.returned (Value.int .i64 0)) w12))))))
  (∃ b173, World.cell? w12 (Addr.add ⟨Array.size (World.heap w), 0, none⟩ 3) = some (Value.bool b173) ∧
  V.sel b173
  (∃ s174, World.cell? w12 (Addr.add ⟨Array.size (World.heap w), 0, none⟩ 1) = some (Value.string s174) ∧
  Calls Tryz.prog 27 #[(Value.string s174)] w12 fun e176 w177 =>
  ∃ b175, e176 = Ending.returned (Value.bool b175) ∧
  V.sel (!b175)
  (V.sel (!b175)
  (R (Ending.returned (Value.int .i64 32)) w177)
  (∃ b178, World.cell? w177 (Addr.add ⟨Array.size (World.heap w), 0, none⟩ 3) = some (Value.bool b178) ∧
  V.sel (!(b178 == b10))
  (V.sel (!(b178 == b10))
  (R (Ending.returned (Value.int .i64 38)) w177)
  (R (Ending.returned (Value.int .i64 0)) w177))
  (∃ b179, World.cell? w177 (Addr.add ⟨Array.size (World.heap w), 0, none⟩ 3) = some (Value.bool b179) ∧
  V.sel b179
  (∃ s180, World.cell? w177 (Addr.add ⟨Array.size (World.heap w), 0, none⟩ 1) = some (Value.string s180) ∧
  V.sel (!(ByteArray.toList s180 == ByteArray.toList s9))
  (R (Ending.returned (Value.int .i64 38)) w177)
  (R (Ending.returned (Value.int .i64 0)) w177))
  (R (Ending.returned (Value.int .i64 0)) w177))))
  (∃ b181, World.cell? w177 (Addr.add ⟨Array.size (World.heap w), 0, none⟩ 4) = some (Value.bool b181) ∧
  V.sel b181
  (∃ s182, World.cell? w177 (Addr.add ⟨Array.size (World.heap w), 0, none⟩ 2) = some (Value.string s182) ∧
  Calls Tryz.prog 27 #[(Value.string s182)] w177 fun e184 w185 =>
  ∃ b183, e184 = Ending.returned (Value.bool b183) ∧
  V.sel (!b183)
  (R (Ending.returned (Value.int .i64 32)) w185)
  (∃ b186, World.cell? w185 (Addr.add ⟨Array.size (World.heap w), 0, none⟩ 3) = some (Value.bool b186) ∧
  V.sel (!(b186 == b10))
  (V.sel (!(b186 == b10))
  (R (Ending.returned (Value.int .i64 38)) w185)
  (R (Ending.returned (Value.int .i64 0)) w185))
  (∃ b187, World.cell? w185 (Addr.add ⟨Array.size (World.heap w), 0, none⟩ 3) = some (Value.bool b187) ∧
  V.sel b187
  (∃ s188, World.cell? w185 (Addr.add ⟨Array.size (World.heap w), 0, none⟩ 1) = some (Value.string s188) ∧
  V.sel (!(ByteArray.toList s188 == ByteArray.toList s9))
  (R (Ending.returned (Value.int .i64 38)) w185)
  (R (Ending.returned (Value.int .i64 0)) w185))
  (R (Ending.returned (Value.int .i64 0)) w185))))
  (∃ b189, World.cell? w177 (Addr.add ⟨Array.size (World.heap w), 0, none⟩ 3) = some (Value.bool b189) ∧
  V.sel (!(b189 == b10))
  (V.sel (!(b189 == b10))
  (R (Ending.returned (Value.int .i64 38)) w177)
  (R (Ending.returned (Value.int .i64 0)) w177))
  (∃ b190, World.cell? w177 (Addr.add ⟨Array.size (World.heap w), 0, none⟩ 3) = some (Value.bool b190) ∧
  V.sel b190
  (∃ s191, World.cell? w177 (Addr.add ⟨Array.size (World.heap w), 0, none⟩ 1) = some (Value.string s191) ∧
  V.sel (!(ByteArray.toList s191 == ByteArray.toList s9))
  (R (Ending.returned (Value.int .i64 38)) w177)
  (R (Ending.returned (Value.int .i64 0)) w177))
  (R (Ending.returned (Value.int .i64 0)) w177)))))
  (∃ b192, World.cell? w12 (Addr.add ⟨Array.size (World.heap w), 0, none⟩ 4) = some (Value.bool b192) ∧
  V.sel b192
  (∃ s193, World.cell? w12 (Addr.add ⟨Array.size (World.heap w), 0, none⟩ 2) = some (Value.string s193) ∧
  Calls Tryz.prog 27 #[(Value.string s193)] w12 fun e195 w196 =>
  ∃ b194, e195 = Ending.returned (Value.bool b194) ∧
  V.sel (!b194)
  (R (Ending.returned (Value.int .i64 32)) w196)
  (∃ b197, World.cell? w196 (Addr.add ⟨Array.size (World.heap w), 0, none⟩ 3) = some (Value.bool b197) ∧
  V.sel (!(b197 == b10))
  (V.sel (!(b197 == b10))
  (R (Ending.returned (Value.int .i64 38)) w196)
  (R (Ending.returned (Value.int .i64 0)) w196))
  (∃ b198, World.cell? w196 (Addr.add ⟨Array.size (World.heap w), 0, none⟩ 3) = some (Value.bool b198) ∧
  V.sel b198
  (∃ s199, World.cell? w196 (Addr.add ⟨Array.size (World.heap w), 0, none⟩ 1) = some (Value.string s199) ∧
  V.sel (!(ByteArray.toList s199 == ByteArray.toList s9))
  (R (Ending.returned (Value.int .i64 38)) w196)
  (R (Ending.returned (Value.int .i64 0)) w196))
  (R (Ending.returned (Value.int .i64 0)) w196))))
  (∃ b200, World.cell? w12 (Addr.add ⟨Array.size (World.heap w), 0, none⟩ 3) = some (Value.bool b200) ∧
  V.sel (!(b200 == b10))
  (V.sel (!(b200 == b10))
  (R (Ending.returned (Value.int .i64 38)) w12)
  (R (Ending.returned (Value.int .i64 0)) w12))
  (∃ b201, World.cell? w12 (Addr.add ⟨Array.size (World.heap w), 0, none⟩ 3) = some (Value.bool b201) ∧
  V.sel b201
  (∃ s202, World.cell? w12 (Addr.add ⟨Array.size (World.heap w), 0, none⟩ 1) = some (Value.string s202) ∧
  V.sel (!(ByteArray.toList s202 == ByteArray.toList s9))
  (R (Ending.returned (Value.int .i64 38)) w12)
  (R (Ending.returned (Value.int .i64 0)) w12))
  (R (Ending.returned (Value.int .i64 0)) w12)))))))
  (∃ b203, World.cell? w12 (Addr.add ⟨Array.size (World.heap w), 0, none⟩ 3) = some (Value.bool b203) ∧
  V.sel b203
  (∃ b204, World.cell? w12 (Addr.add ⟨Array.size (World.heap w), 0, none⟩ 4) = some (Value.bool b204) ∧
  V.sel b204
  (∃ s205, World.cell? w12 (Addr.add ⟨Array.size (World.heap w), 0, none⟩ 1) = some (Value.string s205) ∧
  ∃ s206, World.cell? w12 (Addr.add ⟨Array.size (World.heap w), 0, none⟩ 2) = some (Value.string s206) ∧
  V.sel (ByteArray.toList s205 == ByteArray.toList s206)
  (R (Ending.returned (Value.int .i64 37)) w12)
  (∃ b207, World.cell? w12 (Addr.add ⟨Array.size (World.heap w), 0, none⟩ 3) = some (Value.bool b207) ∧
  V.sel b207
  (∃ s208, World.cell? w12 (Addr.add ⟨Array.size (World.heap w), 0, none⟩ 1) = some (Value.string s208) ∧
  Calls Tryz.prog 27 #[(Value.string s208)] w12 fun e210 w211 =>
  ∃ b209, e210 = Ending.returned (Value.bool b209) ∧
  V.sel (!b209)
  (V.sel (!b209)
  (R (Ending.returned (Value.int .i64 32)) w211)
  (∃ b212, World.cell? w211 (Addr.add ⟨Array.size (World.heap w), 0, none⟩ 3) = some (Value.bool b212) ∧
  V.sel (!(b212 == b10))
  (V.sel (!(b212 == b10))
  (R (Ending.returned (Value.int .i64 38)) w211)
  (R (Ending.returned (Value.int .i64 0)) w211))
  (∃ b213, World.cell? w211 (Addr.add ⟨Array.size (World.heap w), 0, none⟩ 3) = some (Value.bool b213) ∧
  V.sel b213
  (∃ s214, World.cell? w211 (Addr.add ⟨Array.size (World.heap w), 0, none⟩ 1) = some (Value.string s214) ∧
  V.sel (!(ByteArray.toList s214 == ByteArray.toList s9))
  (R (Ending.returned (Value.int .i64 38)) w211)
  (R (Ending.returned (Value.int .i64 0)) w211))
  (R (Ending.returned (Value.int .i64 0)) w211))))
  (∃ b215, World.cell? w211 (Addr.add ⟨Array.size (World.heap w), 0, none⟩ 4) = some (Value.bool b215) ∧
  V.sel b215
  (∃ s216, World.cell? w211 (Addr.add ⟨Array.size (World.heap w), 0, none⟩ 2) = some (Value.string s216) ∧
  Calls Tryz.prog 27 #[(Value.string s216)] w211 fun e218 w219 =>
  ∃ b217, e218 = Ending.returned (Value.bool b217) ∧
  V.sel (!b217)
  (R (Ending.returned (Value.int .i64 32)) w219)
  (∃ b220, World.cell? w219 (Addr.add ⟨Array.size (World.heap w), 0, none⟩ 3) = some (Value.bool b220) ∧
  V.sel (!(b220 == b10))
  (V.sel (!(b220 == b10))
  (R (Ending.returned (Value.int .i64 38)) w219)
  (R (Ending.returned (Value.int .i64 0)) w219))
  (∃ b221, World.cell? w219 (Addr.add ⟨Array.size (World.heap w), 0, none⟩ 3) = some (Value.bool b221) ∧
  V.sel b221
  (∃ s222, World.cell? w219 (Addr.add ⟨Array.size (World.heap w), 0, none⟩ 1) = some (Value.string s222) ∧
  V.sel (!(ByteArray.toList s222 == ByteArray.toList s9))
  (R (Ending.returned (Value.int .i64 38)) w219)
  (R (Ending.returned (Value.int .i64 0)) w219))
  (R (Ending.returned (Value.int .i64 0)) w219))))
  (∃ b223, World.cell? w211 (Addr.add ⟨Array.size (World.heap w), 0, none⟩ 3) = some (Value.bool b223) ∧
  V.sel (!(b223 == b10))
  (V.sel (!(b223 == b10))
  (R (Ending.returned (Value.int .i64 38)) w211)
  (R (Ending.returned (Value.int .i64 0)) w211))
  (∃ b224, World.cell? w211 (Addr.add ⟨Array.size (World.heap w), 0, none⟩ 3) = some (Value.bool b224) ∧
  V.sel b224
  (∃ s225, World.cell? w211 (Addr.add ⟨Array.size (World.heap w), 0, none⟩ 1) = some (Value.string s225) ∧
  V.sel (!(ByteArray.toList s225 == ByteArray.toList s9))
  (R (Ending.returned (Value.int .i64 38)) w211)
  (R (Ending.returned (Value.int .i64 0)) w211))
  (R (Ending.returned (Value.int .i64 0)) w211)))))
  (∃ b226, World.cell? w12 (Addr.add ⟨Array.size (World.heap w), 0, none⟩ 4) = some (Value.bool b226) ∧
  V.sel b226
  (∃ s227, World.cell? w12 (Addr.add ⟨Array.size (World.heap w), 0, none⟩ 2) = some (Value.string s227) ∧
  Calls Tryz.prog 27 #[(Value.string s227)] w12 fun e229 w230 =>
  ∃ b228, e229 = Ending.returned (Value.bool b228) ∧
  V.sel (!b228)
  (R (Ending.returned (Value.int .i64 32)) w230)
  (∃ b231, World.cell? w230 (Addr.add ⟨Array.size (World.heap w), 0, none⟩ 3) = some (Value.bool b231) ∧
  V.sel (!(b231 == b10))
  (V.sel (!(b231 == b10))
  (R (Ending.returned (Value.int .i64 38)) w230)
  (R (Ending.returned (Value.int .i64 0)) w230))
  (∃ b232, World.cell? w230 (Addr.add ⟨Array.size (World.heap w), 0, none⟩ 3) = some (Value.bool b232) ∧
  V.sel b232
  (∃ s233, World.cell? w230 (Addr.add ⟨Array.size (World.heap w), 0, none⟩ 1) = some (Value.string s233) ∧
  V.sel (!(ByteArray.toList s233 == ByteArray.toList s9))
  (R (Ending.returned (Value.int .i64 38)) w230)
  (R (Ending.returned (Value.int .i64 0)) w230))
  (R (Ending.returned (Value.int .i64 0)) w230))))
  (∃ b234, World.cell? w12 (Addr.add ⟨Array.size (World.heap w), 0, none⟩ 3) = some (Value.bool b234) ∧
  V.sel (!(b234 == b10))
  (V.sel (!(b234 == b10))
  (R (Ending.returned (Value.int .i64 38)) w12)
  (R (Ending.returned (Value.int .i64 0)) w12))
  (∃ b235, World.cell? w12 (Addr.add ⟨Array.size (World.heap w), 0, none⟩ 3) = some (Value.bool b235) ∧
  V.sel b235
  (∃ s236, World.cell? w12 (Addr.add ⟨Array.size (World.heap w), 0, none⟩ 1) = some (Value.string s236) ∧
  V.sel (!(ByteArray.toList s236 == ByteArray.toList s9))
  (R (Ending.returned (Value.int .i64 38)) w12)
  (R (Ending.returned (Value.int .i64 0)) w12))
  (R (Ending.returned (Value.int .i64 0)) w12))))))
  (∃ b237, World.cell? w12 (Addr.add ⟨Array.size (World.heap w), 0, none⟩ 3) = some (Value.bool b237) ∧
  V.sel b237
  (∃ s238, World.cell? w12 (Addr.add ⟨Array.size (World.heap w), 0, none⟩ 1) = some (Value.string s238) ∧
  Calls Tryz.prog 27 #[(Value.string s238)] w12 fun e240 w241 =>
  ∃ b239, e240 = Ending.returned (Value.bool b239) ∧
  V.sel (!b239)
  (V.sel (!b239)
  (R (Ending.returned (Value.int .i64 32)) w241)
  (∃ b242, World.cell? w241 (Addr.add ⟨Array.size (World.heap w), 0, none⟩ 3) = some (Value.bool b242) ∧
  V.sel (!(b242 == b10))
  (V.sel (!(b242 == b10))
  (R (Ending.returned (Value.int .i64 38)) w241)
  (R (Ending.returned (Value.int .i64 0)) w241))
  (∃ b243, World.cell? w241 (Addr.add ⟨Array.size (World.heap w), 0, none⟩ 3) = some (Value.bool b243) ∧
  V.sel b243
  (∃ s244, World.cell? w241 (Addr.add ⟨Array.size (World.heap w), 0, none⟩ 1) = some (Value.string s244) ∧
  V.sel (!(ByteArray.toList s244 == ByteArray.toList s9))
  (R (Ending.returned (Value.int .i64 38)) w241)
  (R (Ending.returned (Value.int .i64 0)) w241))
  (R (Ending.returned (Value.int .i64 0)) w241))))
  (∃ b245, World.cell? w241 (Addr.add ⟨Array.size (World.heap w), 0, none⟩ 4) = some (Value.bool b245) ∧
  V.sel b245
  (∃ s246, World.cell? w241 (Addr.add ⟨Array.size (World.heap w), 0, none⟩ 2) = some (Value.string s246) ∧
  Calls Tryz.prog 27 #[(Value.string s246)] w241 fun e248 w249 =>
  ∃ b247, e248 = Ending.returned (Value.bool b247) ∧
  V.sel (!b247)
  (R (Ending.returned (Value.int .i64 32)) w249)
  (∃ b250, World.cell? w249 (Addr.add ⟨Array.size (World.heap w), 0, none⟩ 3) = some (Value.bool b250) ∧
  V.sel (!(b250 == b10))
  (V.sel (!(b250 == b10))
  (R (Ending.returned (Value.int .i64 38)) w249)
  (R (Ending.returned (Value.int .i64 0)) w249))
  (∃ b251, World.cell? w249 (Addr.add ⟨Array.size (World.heap w), 0, none⟩ 3) = some (Value.bool b251) ∧
  V.sel b251
  (∃ s252, World.cell? w249 (Addr.add ⟨Array.size (World.heap w), 0, none⟩ 1) = some (Value.string s252) ∧
  V.sel (!(ByteArray.toList s252 == ByteArray.toList s9))
  (R (Ending.returned (Value.int .i64 38)) w249)
  (R (Ending.returned (Value.int .i64 0)) w249))
  (R (Ending.returned (Value.int .i64 0)) w249))))
  (∃ b253, World.cell? w241 (Addr.add ⟨Array.size (World.heap w), 0, none⟩ 3) = some (Value.bool b253) ∧
  V.sel (!(b253 == b10))
  (V.sel (!(b253 == b10))
  (R (Ending.returned (Value.int .i64 38)) w241)
  (R (Ending.returned (Value.int .i64 0)) w241))
  (∃ b254, World.cell? w241 (Addr.add ⟨Array.size (World.heap w), 0, none⟩ 3) = some (Value.bool b254) ∧
  V.sel b254
  (∃ s255, World.cell? w241 (Addr.add ⟨Array.size (World.heap w), 0, none⟩ 1) = some (Value.string s255) ∧
  V.sel (!(ByteArray.toList s255 == ByteArray.toList s9))
  (R (Ending.returned (Value.int .i64 38)) w241)
  (R (Ending.returned (Value.int .i64 0)) w241))
  (R (Ending.returned (Value.int .i64 0)) w241)))))
  (∃ b256, World.cell? w12 (Addr.add ⟨Array.size (World.heap w), 0, none⟩ 4) = some (Value.bool b256) ∧
  V.sel b256
  (∃ s257, World.cell? w12 (Addr.add ⟨Array.size (World.heap w), 0, none⟩ 2) = some (Value.string s257) ∧
  Calls Tryz.prog 27 #[(Value.string s257)] w12 fun e259 w260 =>
  ∃ b258, e259 = Ending.returned (Value.bool b258) ∧
  V.sel (!b258)
  (R (Ending.returned (Value.int .i64 32)) w260)
  (∃ b261, World.cell? w260 (Addr.add ⟨Array.size (World.heap w), 0, none⟩ 3) = some (Value.bool b261) ∧
  V.sel (!(b261 == b10))
  (V.sel (!(b261 == b10))
  (R (Ending.returned (Value.int .i64 38)) w260)
  (R (Ending.returned (Value.int .i64 0)) w260))
  (∃ b262, World.cell? w260 (Addr.add ⟨Array.size (World.heap w), 0, none⟩ 3) = some (Value.bool b262) ∧
  V.sel b262
  (∃ s263, World.cell? w260 (Addr.add ⟨Array.size (World.heap w), 0, none⟩ 1) = some (Value.string s263) ∧
  V.sel (!(ByteArray.toList s263 == ByteArray.toList s9))
  (R (Ending.returned (Value.int .i64 38)) w260)
  (R (Ending.returned (Value.int .i64 0)) w260))
  (R (Ending.returned (Value.int .i64 0)) w260))))
  (∃ b264, World.cell? w12 (Addr.add ⟨Array.size (World.heap w), 0, none⟩ 3) = some (Value.bool b264) ∧
  V.sel (!(b264 == b10))
  (V.sel (!(b264 == b10))
  (R (Ending.returned (Value.int .i64 38)) w12)
  (R (Ending.returned (Value.int .i64 0)) w12))
  (∃ b265, World.cell? w12 (Addr.add ⟨Array.size (World.heap w), 0, none⟩ 3) = some (Value.bool b265) ∧
  V.sel b265
  (∃ s266, World.cell? w12 (Addr.add ⟨Array.size (World.heap w), 0, none⟩ 1) = some (Value.string s266) ∧
  V.sel (!(ByteArray.toList s266 == ByteArray.toList s9))
  (R (Ending.returned (Value.int .i64 38)) w12)
  (R (Ending.returned (Value.int .i64 0)) w12))
  (R (Ending.returned (Value.int .i64 0)) w12))))))
  (∃ b267, World.cell? w12 (Addr.add ⟨Array.size (World.heap w), 0, none⟩ 3) = some (Value.bool b267) ∧
  V.sel b267
  (∃ s268, World.cell? w12 (Addr.add ⟨Array.size (World.heap w), 0, none⟩ 1) = some (Value.string s268) ∧
  Calls Tryz.prog 27 #[(Value.string s268)] w12 fun e270 w271 =>
  ∃ b269, e270 = Ending.returned (Value.bool b269) ∧
  V.sel (!b269)
  (V.sel (!b269)
  (R (Ending.returned (Value.int .i64 32)) w271)
  (∃ b272, World.cell? w271 (Addr.add ⟨Array.size (World.heap w), 0, none⟩ 3) = some (Value.bool b272) ∧
  V.sel (!(b272 == b10))
  (V.sel (!(b272 == b10))
  (R (Ending.returned (Value.int .i64 38)) w271)
  (R (Ending.returned (Value.int .i64 0)) w271))
  (∃ b273, World.cell? w271 (Addr.add ⟨Array.size (World.heap w), 0, none⟩ 3) = some (Value.bool b273) ∧
  V.sel b273
  (∃ s274, World.cell? w271 (Addr.add ⟨Array.size (World.heap w), 0, none⟩ 1) = some (Value.string s274) ∧
  V.sel (!(ByteArray.toList s274 == ByteArray.toList s9))
  (R (Ending.returned (Value.int .i64 38)) w271)
  (R (Ending.returned (Value.int .i64 0)) w271))
  (R (Ending.returned (Value.int .i64 0)) w271))))
  (∃ b275, World.cell? w271 (Addr.add ⟨Array.size (World.heap w), 0, none⟩ 4) = some (Value.bool b275) ∧
  V.sel b275
  (∃ s276, World.cell? w271 (Addr.add ⟨Array.size (World.heap w), 0, none⟩ 2) = some (Value.string s276) ∧
  Calls Tryz.prog 27 #[(Value.string s276)] w271 fun e278 w279 =>
  ∃ b277, e278 = Ending.returned (Value.bool b277) ∧
  V.sel (!b277)
  (R (Ending.returned (Value.int .i64 32)) w279)
  (∃ b280, World.cell? w279 (Addr.add ⟨Array.size (World.heap w), 0, none⟩ 3) = some (Value.bool b280) ∧
  V.sel (!(b280 == b10))
  (V.sel (!(b280 == b10))
  (R (Ending.returned (Value.int .i64 38)) w279)
  (R (Ending.returned (Value.int .i64 0)) w279))
  (∃ b281, World.cell? w279 (Addr.add ⟨Array.size (World.heap w), 0, none⟩ 3) = some (Value.bool b281) ∧
  V.sel b281
  (∃ s282, World.cell? w279 (Addr.add ⟨Array.size (World.heap w), 0, none⟩ 1) = some (Value.string s282) ∧
  V.sel (!(ByteArray.toList s282 == ByteArray.toList s9))
  (R (Ending.returned (Value.int .i64 38)) w279)
  (R (Ending.returned (Value.int .i64 0)) w279))
  (R (Ending.returned (Value.int .i64 0)) w279))))
  (∃ b283, World.cell? w271 (Addr.add ⟨Array.size (World.heap w), 0, none⟩ 3) = some (Value.bool b283) ∧
  V.sel (!(b283 == b10))
  (V.sel (!(b283 == b10))
  (R (Ending.returned (Value.int .i64 38)) w271)
  (R (Ending.returned (Value.int .i64 0)) w271))
  (∃ b284, World.cell? w271 (Addr.add ⟨Array.size (World.heap w), 0, none⟩ 3) = some (Value.bool b284) ∧
  V.sel b284
  (∃ s285, World.cell? w271 (Addr.add ⟨Array.size (World.heap w), 0, none⟩ 1) = some (Value.string s285) ∧
  V.sel (!(ByteArray.toList s285 == ByteArray.toList s9))
  (R (Ending.returned (Value.int .i64 38)) w271)
  (R (Ending.returned (Value.int .i64 0)) w271))
  (R (Ending.returned (Value.int .i64 0)) w271)))))
  (∃ b286, World.cell? w12 (Addr.add ⟨Array.size (World.heap w), 0, none⟩ 4) = some (Value.bool b286) ∧
  V.sel b286
  (∃ s287, World.cell? w12 (Addr.add ⟨Array.size (World.heap w), 0, none⟩ 2) = some (Value.string s287) ∧
  Calls Tryz.prog 27 #[(Value.string s287)] w12 fun e289 w290 =>
  ∃ b288, e289 = Ending.returned (Value.bool b288) ∧
  V.sel (!b288)
  (R (Ending.returned (Value.int .i64 32)) w290)
  (∃ b291, World.cell? w290 (Addr.add ⟨Array.size (World.heap w), 0, none⟩ 3) = some (Value.bool b291) ∧
  V.sel (!(b291 == b10))
  (V.sel (!(b291 == b10))
  (R (Ending.returned (Value.int .i64 38)) w290)
  (R (Ending.returned (Value.int .i64 0)) w290))
  (∃ b292, World.cell? w290 (Addr.add ⟨Array.size (World.heap w), 0, none⟩ 3) = some (Value.bool b292) ∧
  V.sel b292
  (∃ s293, World.cell? w290 (Addr.add ⟨Array.size (World.heap w), 0, none⟩ 1) = some (Value.string s293) ∧
  V.sel (!(ByteArray.toList s293 == ByteArray.toList s9))
  (R (Ending.returned (Value.int .i64 38)) w290)
  (R (Ending.returned (Value.int .i64 0)) w290))
  (R (Ending.returned (Value.int .i64 0)) w290))))
  (∃ b294, World.cell? w12 (Addr.add ⟨Array.size (World.heap w), 0, none⟩ 3) = some (Value.bool b294) ∧
  V.sel (!(b294 == b10))
  (V.sel (!(b294 == b10))
  (R (Ending.returned (Value.int .i64 38)) w12)
  (R (Ending.returned (Value.int .i64 0)) w12))
  (∃ b295, World.cell? w12 (Addr.add ⟨Array.size (World.heap w), 0, none⟩ 3) = some (Value.bool b295) ∧
  V.sel b295
  (∃ s296, World.cell? w12 (Addr.add ⟨Array.size (World.heap w), 0, none⟩ 1) = some (Value.string s296) ∧
  V.sel (!(ByteArray.toList s296 == ByteArray.toList s9))
  (R (Ending.returned (Value.int .i64 38)) w12)
  (R (Ending.returned (Value.int .i64 0)) w12))
  (R (Ending.returned (Value.int .i64 0)) w12))))))))
  (∃ b297, World.cell? w12 (Addr.add ⟨Array.size (World.heap w), 0, none⟩ 4) = some (Value.bool b297) ∧
  V.sel (!b297)
  (∃ s298, World.cell? w12 (Addr.add ⟨Array.size (World.heap w), 0, none⟩ 2) = some (Value.string s298) ∧
  V.sel (!(ByteArray.toList s298 == ByteArray.toList ByteArray.empty))
  (V.sel (!(ByteArray.toList s298 == ByteArray.toList ByteArray.empty))
  (R (Ending.returned (Value.int .i64 37)) w12)
  (∃ b299, World.cell? w12 (Addr.add ⟨Array.size (World.heap w), 0, none⟩ 3) = some (Value.bool b299) ∧
  V.sel b299
  (∃ s300, World.cell? w12 (Addr.add ⟨Array.size (World.heap w), 0, none⟩ 1) = some (Value.string s300) ∧
  Calls Tryz.prog 27 #[(Value.string s300)] w12 fun e302 w303 =>
  ∃ b301, e302 = Ending.returned (Value.bool b301) ∧
  V.sel (!b301)
  (V.sel (!b301)
  (R (Ending.returned (Value.int .i64 32)) w303)
  (∃ b304, World.cell? w303 (Addr.add ⟨Array.size (World.heap w), 0, none⟩ 3) = some (Value.bool b304) ∧
  V.sel (!(b304 == b10))
  (V.sel (!(b304 == b10))
  (R (Ending.returned (Value.int .i64 38)) w303)
  (R (Ending.returned (Value.int .i64 0)) w303))
  (∃ b305, World.cell? w303 (Addr.add ⟨Array.size (World.heap w), 0, none⟩ 3) = some (Value.bool b305) ∧
  V.sel b305
  (∃ s306, World.cell? w303 (Addr.add ⟨Array.size (World.heap w), 0, none⟩ 1) = some (Value.string s306) ∧
  V.sel (!(ByteArray.toList s306 == ByteArray.toList s9))
  (R (Ending.returned (Value.int .i64 38)) w303)
  (R (Ending.returned (Value.int .i64 0)) w303))
  (R (Ending.returned (Value.int .i64 0)) w303))))
  (∃ b307, World.cell? w303 (Addr.add ⟨Array.size (World.heap w), 0, none⟩ 4) = some (Value.bool b307) ∧
  V.sel b307
  (∃ s308, World.cell? w303 (Addr.add ⟨Array.size (World.heap w), 0, none⟩ 2) = some (Value.string s308) ∧
  Calls Tryz.prog 27 #[(Value.string s308)] w303 fun e310 w311 =>
  ∃ b309, e310 = Ending.returned (Value.bool b309) ∧
  V.sel (!b309)
  (R (Ending.returned (Value.int .i64 32)) w311)
  (∃ b312, World.cell? w311 (Addr.add ⟨Array.size (World.heap w), 0, none⟩ 3) = some (Value.bool b312) ∧
  V.sel (!(b312 == b10))
  (V.sel (!(b312 == b10))
  (R (Ending.returned (Value.int .i64 38)) w311)
  (R (Ending.returned (Value.int .i64 0)) w311))
  (∃ b313, World.cell? w311 (Addr.add ⟨Array.size (World.heap w), 0, none⟩ 3) = some (Value.bool b313) ∧
  V.sel b313
  (∃ s314, World.cell? w311 (Addr.add ⟨Array.size (World.heap w), 0, none⟩ 1) = some (Value.string s314) ∧
  V.sel (!(ByteArray.toList s314 == ByteArray.toList s9))
  (R (Ending.returned (Value.int .i64 38)) w311)
  (R (Ending.returned (Value.int .i64 0)) w311))
  (R (Ending.returned (Value.int .i64 0)) w311))))
  (∃ b315, World.cell? w303 (Addr.add ⟨Array.size (World.heap w), 0, none⟩ 3) = some (Value.bool b315) ∧
  V.sel (!(b315 == b10))
  (V.sel (!(b315 == b10))
  (R (Ending.returned (Value.int .i64 38)) w303)
  (R (Ending.returned (Value.int .i64 0)) w303))
  (∃ b316, World.cell? w303 (Addr.add ⟨Array.size (World.heap w), 0, none⟩ 3) = some (Value.bool b316) ∧
  V.sel b316
  (∃ s317, World.cell? w303 (Addr.add ⟨Array.size (World.heap w), 0, none⟩ 1) = some (Value.string s317) ∧
  V.sel (!(ByteArray.toList s317 == ByteArray.toList s9))
  (R (Ending.returned (Value.int .i64 38)) w303)
  (R (Ending.returned (Value.int .i64 0)) w303))
  (R (Ending.returned (Value.int .i64 0)) w303)))))
  (∃ b318, World.cell? w12 (Addr.add ⟨Array.size (World.heap w), 0, none⟩ 4) = some (Value.bool b318) ∧
  V.sel b318
  (∃ s319, World.cell? w12 (Addr.add ⟨Array.size (World.heap w), 0, none⟩ 2) = some (Value.string s319) ∧
  Calls Tryz.prog 27 #[(Value.string s319)] w12 fun e321 w322 =>
  ∃ b320, e321 = Ending.returned (Value.bool b320) ∧
  V.sel (!b320)
  (R (Ending.returned (Value.int .i64 32)) w322)
  (∃ b323, World.cell? w322 (Addr.add ⟨Array.size (World.heap w), 0, none⟩ 3) = some (Value.bool b323) ∧
  V.sel (!(b323 == b10))
  (V.sel (!(b323 == b10))
  (R (Ending.returned (Value.int .i64 38)) w322)
  (R (Ending.returned (Value.int .i64 0)) w322))
  (∃ b324, World.cell? w322 (Addr.add ⟨Array.size (World.heap w), 0, none⟩ 3) = some (Value.bool b324) ∧
  V.sel b324
  (∃ s325, World.cell? w322 (Addr.add ⟨Array.size (World.heap w), 0, none⟩ 1) = some (Value.string s325) ∧
  V.sel (!(ByteArray.toList s325 == ByteArray.toList s9))
  (R (Ending.returned (Value.int .i64 38)) w322)
  (R (Ending.returned (Value.int .i64 0)) w322))
  (R (Ending.returned (Value.int .i64 0)) w322))))
  (∃ b326, World.cell? w12 (Addr.add ⟨Array.size (World.heap w), 0, none⟩ 3) = some (Value.bool b326) ∧
  V.sel (!(b326 == b10))
  (V.sel (!(b326 == b10))
  (R (Ending.returned (Value.int .i64 38)) w12)
  (R (Ending.returned (Value.int .i64 0)) w12))
  (∃ b327, World.cell? w12 (Addr.add ⟨Array.size (World.heap w), 0, none⟩ 3) = some (Value.bool b327) ∧
  V.sel b327
  (∃ s328, World.cell? w12 (Addr.add ⟨Array.size (World.heap w), 0, none⟩ 1) = some (Value.string s328) ∧
  V.sel (!(ByteArray.toList s328 == ByteArray.toList s9))
  (R (Ending.returned (Value.int .i64 38)) w12)
  (R (Ending.returned (Value.int .i64 0)) w12))
  (R (Ending.returned (Value.int .i64 0)) w12))))))
  (∃ b329, World.cell? w12 (Addr.add ⟨Array.size (World.heap w), 0, none⟩ 3) = some (Value.bool b329) ∧
  V.sel b329
  (∃ b330, World.cell? w12 (Addr.add ⟨Array.size (World.heap w), 0, none⟩ 4) = some (Value.bool b330) ∧
  V.sel b330
  (∃ s331, World.cell? w12 (Addr.add ⟨Array.size (World.heap w), 0, none⟩ 1) = some (Value.string s331) ∧
  ∃ s332, World.cell? w12 (Addr.add ⟨Array.size (World.heap w), 0, none⟩ 2) = some (Value.string s332) ∧
  V.sel (ByteArray.toList s331 == ByteArray.toList s332)
  (R (Ending.returned (Value.int .i64 37)) w12)
  (∃ b333, World.cell? w12 (Addr.add ⟨Array.size (World.heap w), 0, none⟩ 3) = some (Value.bool b333) ∧
  V.sel b333
  (∃ s334, World.cell? w12 (Addr.add ⟨Array.size (World.heap w), 0, none⟩ 1) = some (Value.string s334) ∧
  Calls Tryz.prog 27 #[(Value.string s334)] w12 fun e336 w337 =>
  ∃ b335, e336 = Ending.returned (Value.bool b335) ∧
  V.sel (!b335)
  (V.sel (!b335)
  (R (Ending.returned (Value.int .i64 32)) w337)
  (∃ b338, World.cell? w337 (Addr.add ⟨Array.size (World.heap w), 0, none⟩ 3) = some (Value.bool b338) ∧
  V.sel (!(b338 == b10))
  (V.sel (!(b338 == b10))
  (R (Ending.returned (Value.int .i64 38)) w337)
  (R (Ending.returned (Value.int .i64 0)) w337))
  (∃ b339, World.cell? w337 (Addr.add ⟨Array.size (World.heap w), 0, none⟩ 3) = some (Value.bool b339) ∧
  V.sel b339
  (∃ s340, World.cell? w337 (Addr.add ⟨Array.size (World.heap w), 0, none⟩ 1) = some (Value.string s340) ∧
  V.sel (!(ByteArray.toList s340 == ByteArray.toList s9))
  (R (Ending.returned (Value.int .i64 38)) w337)
  (R (Ending.returned (Value.int .i64 0)) w337))
  (R (Ending.returned (Value.int .i64 0)) w337))))
  (∃ b341, World.cell? w337 (Addr.add ⟨Array.size (World.heap w), 0, none⟩ 4) = some (Value.bool b341) ∧
  V.sel b341
  (∃ s342, World.cell? w337 (Addr.add ⟨Array.size (World.heap w), 0, none⟩ 2) = some (Value.string s342) ∧
  Calls Tryz.prog 27 #[(Value.string s342)] w337 fun e344 w345 =>
  ∃ b343, e344 = Ending.returned (Value.bool b343) ∧
  V.sel (!b343)
  (R (Ending.returned (Value.int .i64 32)) w345)
  (∃ b346, World.cell? w345 (Addr.add ⟨Array.size (World.heap w), 0, none⟩ 3) = some (Value.bool b346) ∧
  V.sel (!(b346 == b10))
  (V.sel (!(b346 == b10))
  (R (Ending.returned (Value.int .i64 38)) w345)
  (R (Ending.returned (Value.int .i64 0)) w345))
  (∃ b347, World.cell? w345 (Addr.add ⟨Array.size (World.heap w), 0, none⟩ 3) = some (Value.bool b347) ∧
  V.sel b347
  (∃ s348, World.cell? w345 (Addr.add ⟨Array.size (World.heap w), 0, none⟩ 1) = some (Value.string s348) ∧
  V.sel (!(ByteArray.toList s348 == ByteArray.toList s9))
  (R (Ending.returned (Value.int .i64 38)) w345)
  (R (Ending.returned (Value.int .i64 0)) w345))
  (R (Ending.returned (Value.int .i64 0)) w345))))
  (∃ b349, World.cell? w337 (Addr.add ⟨Array.size (World.heap w), 0, none⟩ 3) = some (Value.bool b349) ∧
  V.sel (!(b349 == b10))
  (V.sel (!(b349 == b10))
  (R (Ending.returned (Value.int .i64 38)) w337)
  (R (Ending.returned (Value.int .i64 0)) w337))
  (∃ b350, World.cell? w337 (Addr.add ⟨Array.size (World.heap w), 0, none⟩ 3) = some (Value.bool b350) ∧
  V.sel b350
  (∃ s351, World.cell? w337 (Addr.add ⟨Array.size (World.heap w), 0, none⟩ 1) = some (Value.string s351) ∧
  V.sel (!(ByteArray.toList s351 == ByteArray.toList s9))
  (R (Ending.returned (Value.int .i64 38)) w337)
  (R (Ending.returned (Value.int .i64 0)) w337))
  (R (Ending.returned (Value.int .i64 0)) w337)))))
  (∃ b352, World.cell? w12 (Addr.add ⟨Array.size (World.heap w), 0, none⟩ 4) = some (Value.bool b352) ∧
  V.sel b352
  (∃ s353, World.cell? w12 (Addr.add ⟨Array.size (World.heap w), 0, none⟩ 2) = some (Value.string s353) ∧
  Calls Tryz.prog 27 #[(Value.string s353)] w12 fun e355 w356 =>
  ∃ b354, e355 = Ending.returned (Value.bool b354) ∧
  V.sel (!b354)
  (R (Ending.returned (Value.int .i64 32)) w356)
  (∃ b357, World.cell? w356 (Addr.add ⟨Array.size (World.heap w), 0, none⟩ 3) = some (Value.bool b357) ∧
  V.sel (!(b357 == b10))
  (V.sel (!(b357 == b10))
  (R (Ending.returned (Value.int .i64 38)) w356)
  (R (Ending.returned (Value.int .i64 0)) w356))
  (∃ b358, World.cell? w356 (Addr.add ⟨Array.size (World.heap w), 0, none⟩ 3) = some (Value.bool b358) ∧
  V.sel b358
  (∃ s359, World.cell? w356 (Addr.add ⟨Array.size (World.heap w), 0, none⟩ 1) = some (Value.string s359) ∧
  V.sel (!(ByteArray.toList s359 == ByteArray.toList s9))
  (R (Ending.returned (Value.int .i64 38)) w356)
  (R (Ending.returned (Value.int .i64 0)) w356))
  (R (Ending.returned (Value.int .i64 0)) w356))))
  (∃ b360, World.cell? w12 (Addr.add ⟨Array.size (World.heap w), 0, none⟩ 3) = some (Value.bool b360) ∧
  V.sel (!(b360 == b10))
  (V.sel (!(b360 == b10))
  (R (Ending.returned (Value.int .i64 38)) w12)
  (R (Ending.returned (Value.int .i64 0)) w12))
  (∃ b361, World.cell? w12 (Addr.add ⟨Array.size (World.heap w), 0, none⟩ 3) = some (Value.bool b361) ∧
  V.sel b361
  (∃ s362, World.cell? w12 (Addr.add ⟨Array.size (World.heap w), 0, none⟩ 1) = some (Value.string s362) ∧
  V.sel (!(ByteArray.toList s362 == ByteArray.toList s9))
  (R (Ending.returned (Value.int .i64 38)) w12)
  (R (Ending.returned (Value.int .i64 0)) w12))
  (R (Ending.returned (Value.int .i64 0)) w12))))))
  (∃ b363, World.cell? w12 (Addr.add ⟨Array.size (World.heap w), 0, none⟩ 3) = some (Value.bool b363) ∧
  V.sel b363
  (∃ s364, World.cell? w12 (Addr.add ⟨Array.size (World.heap w), 0, none⟩ 1) = some (Value.string s364) ∧
  Calls Tryz.prog 27 #[(Value.string s364)] w12 fun e366 w367 =>
  ∃ b365, e366 = Ending.returned (Value.bool b365) ∧
  V.sel (!b365)
  (V.sel (!b365)
  (R (Ending.returned (Value.int .i64 32)) w367)
  (∃ b368, World.cell? w367 (Addr.add ⟨Array.size (World.heap w), 0, none⟩ 3) = some (Value.bool b368) ∧
  V.sel (!(b368 == b10))
  (V.sel (!(b368 == b10))
  (R (Ending.returned (Value.int .i64 38)) w367)
  (R (Ending.returned (Value.int .i64 0)) w367))
  (∃ b369, World.cell? w367 (Addr.add ⟨Array.size (World.heap w), 0, none⟩ 3) = some (Value.bool b369) ∧
  V.sel b369
  (∃ s370, World.cell? w367 (Addr.add ⟨Array.size (World.heap w), 0, none⟩ 1) = some (Value.string s370) ∧
  V.sel (!(ByteArray.toList s370 == ByteArray.toList s9))
  (R (Ending.returned (Value.int .i64 38)) w367)
  (R (Ending.returned (Value.int .i64 0)) w367))
  (R (Ending.returned (Value.int .i64 0)) w367))))
  (∃ b371, World.cell? w367 (Addr.add ⟨Array.size (World.heap w), 0, none⟩ 4) = some (Value.bool b371) ∧
  V.sel b371
  (∃ s372, World.cell? w367 (Addr.add ⟨Array.size (World.heap w), 0, none⟩ 2) = some (Value.string s372) ∧
  Calls Tryz.prog 27 #[(Value.string s372)] w367 fun e374 w375 =>
  ∃ b373, e374 = Ending.returned (Value.bool b373) ∧
  V.sel (!b373)
  (R (Ending.returned (Value.int .i64 32)) w375)
  (∃ b376, World.cell? w375 (Addr.add ⟨Array.size (World.heap w), 0, none⟩ 3) = some (Value.bool b376) ∧
  V.sel (!(b376 == b10))
  (V.sel (!(b376 == b10))
  (R (Ending.returned (Value.int .i64 38)) w375)
  (R (Ending.returned (Value.int .i64 0)) w375))
  (∃ b377, World.cell? w375 (Addr.add ⟨Array.size (World.heap w), 0, none⟩ 3) = some (Value.bool b377) ∧
  V.sel b377
  (∃ s378, World.cell? w375 (Addr.add ⟨Array.size (World.heap w), 0, none⟩ 1) = some (Value.string s378) ∧
  V.sel (!(ByteArray.toList s378 == ByteArray.toList s9))
  (R (Ending.returned (Value.int .i64 38)) w375)
  (R (Ending.returned (Value.int .i64 0)) w375))
  (R (Ending.returned (Value.int .i64 0)) w375))))
  (∃ b379, World.cell? w367 (Addr.add ⟨Array.size (World.heap w), 0, none⟩ 3) = some (Value.bool b379) ∧
  V.sel (!(b379 == b10))
  (V.sel (!(b379 == b10))
  (R (Ending.returned (Value.int .i64 38)) w367)
  (R (Ending.returned (Value.int .i64 0)) w367))
  (∃ b380, World.cell? w367 (Addr.add ⟨Array.size (World.heap w), 0, none⟩ 3) = some (Value.bool b380) ∧
  V.sel b380
  (∃ s381, World.cell? w367 (Addr.add ⟨Array.size (World.heap w), 0, none⟩ 1) = some (Value.string s381) ∧
  V.sel (!(ByteArray.toList s381 == ByteArray.toList s9))
  (R (Ending.returned (Value.int .i64 38)) w367)
  (R (Ending.returned (Value.int .i64 0)) w367))
  (R (Ending.returned (Value.int .i64 0)) w367)))))
  (∃ b382, World.cell? w12 (Addr.add ⟨Array.size (World.heap w), 0, none⟩ 4) = some (Value.bool b382) ∧
  V.sel b382
  (∃ s383, World.cell? w12 (Addr.add ⟨Array.size (World.heap w), 0, none⟩ 2) = some (Value.string s383) ∧
  Calls Tryz.prog 27 #[(Value.string s383)] w12 fun e385 w386 =>
  ∃ b384, e385 = Ending.returned (Value.bool b384) ∧
  V.sel (!b384)
  (R (Ending.returned (Value.int .i64 32)) w386)
  (∃ b387, World.cell? w386 (Addr.add ⟨Array.size (World.heap w), 0, none⟩ 3) = some (Value.bool b387) ∧
  V.sel (!(b387 == b10))
  (V.sel (!(b387 == b10))
  (R (Ending.returned (Value.int .i64 38)) w386)
  (R (Ending.returned (Value.int .i64 0)) w386))
  (∃ b388, World.cell? w386 (Addr.add ⟨Array.size (World.heap w), 0, none⟩ 3) = some (Value.bool b388) ∧
  V.sel b388
  (∃ s389, World.cell? w386 (Addr.add ⟨Array.size (World.heap w), 0, none⟩ 1) = some (Value.string s389) ∧
  V.sel (!(ByteArray.toList s389 == ByteArray.toList s9))
  (R (Ending.returned (Value.int .i64 38)) w386)
  (R (Ending.returned (Value.int .i64 0)) w386))
  (R (Ending.returned (Value.int .i64 0)) w386))))
  (∃ b390, World.cell? w12 (Addr.add ⟨Array.size (World.heap w), 0, none⟩ 3) = some (Value.bool b390) ∧
  V.sel (!(b390 == b10))
  (V.sel (!(b390 == b10))
  (R (Ending.returned (Value.int .i64 38)) w12)
  (R (Ending.returned (Value.int .i64 0)) w12))
  (∃ b391, World.cell? w12 (Addr.add ⟨Array.size (World.heap w), 0, none⟩ 3) = some (Value.bool b391) ∧
  V.sel b391
  (∃ s392, World.cell? w12 (Addr.add ⟨Array.size (World.heap w), 0, none⟩ 1) = some (Value.string s392) ∧
  V.sel (!(ByteArray.toList s392 == ByteArray.toList s9))
  (R (Ending.returned (Value.int .i64 38)) w12)
  (R (Ending.returned (Value.int .i64 0)) w12))
  (R (Ending.returned (Value.int .i64 0)) w12))))))
  (∃ b393, World.cell? w12 (Addr.add ⟨Array.size (World.heap w), 0, none⟩ 3) = some (Value.bool b393) ∧
  V.sel b393
  (∃ s394, World.cell? w12 (Addr.add ⟨Array.size (World.heap w), 0, none⟩ 1) = some (Value.string s394) ∧
  Calls Tryz.prog 27 #[(Value.string s394)] w12 fun e396 w397 =>
  ∃ b395, e396 = Ending.returned (Value.bool b395) ∧
  V.sel (!b395)
  (V.sel (!b395)
  (R (Ending.returned (Value.int .i64 32)) w397)
  (∃ b398, World.cell? w397 (Addr.add ⟨Array.size (World.heap w), 0, none⟩ 3) = some (Value.bool b398) ∧
  V.sel (!(b398 == b10))
  (V.sel (!(b398 == b10))
  (R (Ending.returned (Value.int .i64 38)) w397)
  (R (Ending.returned (Value.int .i64 0)) w397))
  (∃ b399, World.cell? w397 (Addr.add ⟨Array.size (World.heap w), 0, none⟩ 3) = some (Value.bool b399) ∧
  V.sel b399
  (∃ s400, World.cell? w397 (Addr.add ⟨Array.size (World.heap w), 0, none⟩ 1) = some (Value.string s400) ∧
  V.sel (!(ByteArray.toList s400 == ByteArray.toList s9))
  (R (Ending.returned (Value.int .i64 38)) w397)
  (R (Ending.returned (Value.int .i64 0)) w397))
  (R (Ending.returned (Value.int .i64 0)) w397))))
  (∃ b401, World.cell? w397 (Addr.add ⟨Array.size (World.heap w), 0, none⟩ 4) = some (Value.bool b401) ∧
  V.sel b401
  (∃ s402, World.cell? w397 (Addr.add ⟨Array.size (World.heap w), 0, none⟩ 2) = some (Value.string s402) ∧
  Calls Tryz.prog 27 #[(Value.string s402)] w397 fun e404 w405 =>
  ∃ b403, e404 = Ending.returned (Value.bool b403) ∧
  V.sel (!b403)
  (R (Ending.returned (Value.int .i64 32)) w405)
  (∃ b406, World.cell? w405 (Addr.add ⟨Array.size (World.heap w), 0, none⟩ 3) = some (Value.bool b406) ∧
  V.sel (!(b406 == b10))
  (V.sel (!(b406 == b10))
  (R (Ending.returned (Value.int .i64 38)) w405)
  (R (Ending.returned (Value.int .i64 0)) w405))
  (∃ b407, World.cell? w405 (Addr.add ⟨Array.size (World.heap w), 0, none⟩ 3) = some (Value.bool b407) ∧
  V.sel b407
  (∃ s408, World.cell? w405 (Addr.add ⟨Array.size (World.heap w), 0, none⟩ 1) = some (Value.string s408) ∧
  V.sel (!(ByteArray.toList s408 == ByteArray.toList s9))
  (R (Ending.returned (Value.int .i64 38)) w405)
  (R (Ending.returned (Value.int .i64 0)) w405))
  (R (Ending.returned (Value.int .i64 0)) w405))))
  (∃ b409, World.cell? w397 (Addr.add ⟨Array.size (World.heap w), 0, none⟩ 3) = some (Value.bool b409) ∧
  V.sel (!(b409 == b10))
  (V.sel (!(b409 == b10))
  (R (Ending.returned (Value.int .i64 38)) w397)
  (R (Ending.returned (Value.int .i64 0)) w397))
  (∃ b410, World.cell? w397 (Addr.add ⟨Array.size (World.heap w), 0, none⟩ 3) = some (Value.bool b410) ∧
  V.sel b410
  (∃ s411, World.cell? w397 (Addr.add ⟨Array.size (World.heap w), 0, none⟩ 1) = some (Value.string s411) ∧
  V.sel (!(ByteArray.toList s411 == ByteArray.toList s9))
  (R (Ending.returned (Value.int .i64 38)) w397)
  (R (Ending.returned (Value.int .i64 0)) w397))
  (R (Ending.returned (Value.int .i64 0)) w397)))))
  (∃ b412, World.cell? w12 (Addr.add ⟨Array.size (World.heap w), 0, none⟩ 4) = some (Value.bool b412) ∧
  V.sel b412
  (∃ s413, World.cell? w12 (Addr.add ⟨Array.size (World.heap w), 0, none⟩ 2) = some (Value.string s413) ∧
  Calls Tryz.prog 27 #[(Value.string s413)] w12 fun e415 w416 =>
  ∃ b414, e415 = Ending.returned (Value.bool b414) ∧
  V.sel (!b414)
  (R (Ending.returned (Value.int .i64 32)) w416)
  (∃ b417, World.cell? w416 (Addr.add ⟨Array.size (World.heap w), 0, none⟩ 3) = some (Value.bool b417) ∧
  V.sel (!(b417 == b10))
  (V.sel (!(b417 == b10))
  (R (Ending.returned (Value.int .i64 38)) w416)
  (R (Ending.returned (Value.int .i64 0)) w416))
  (∃ b418, World.cell? w416 (Addr.add ⟨Array.size (World.heap w), 0, none⟩ 3) = some (Value.bool b418) ∧
  V.sel b418
  (∃ s419, World.cell? w416 (Addr.add ⟨Array.size (World.heap w), 0, none⟩ 1) = some (Value.string s419) ∧
  V.sel (!(ByteArray.toList s419 == ByteArray.toList s9))
  (R (Ending.returned (Value.int .i64 38)) w416)
  (R (Ending.returned (Value.int .i64 0)) w416))
  (R (Ending.returned (Value.int .i64 0)) w416))))
  (∃ b420, World.cell? w12 (Addr.add ⟨Array.size (World.heap w), 0, none⟩ 3) = some (Value.bool b420) ∧
  V.sel (!(b420 == b10))
  (V.sel (!(b420 == b10))
  (R (Ending.returned (Value.int .i64 38)) w12)
  (R (Ending.returned (Value.int .i64 0)) w12))
  (∃ b421, World.cell? w12 (Addr.add ⟨Array.size (World.heap w), 0, none⟩ 3) = some (Value.bool b421) ∧
  V.sel b421
  (∃ s422, World.cell? w12 (Addr.add ⟨Array.size (World.heap w), 0, none⟩ 1) = some (Value.string s422) ∧
  V.sel (!(ByteArray.toList s422 == ByteArray.toList s9))
  (R (Ending.returned (Value.int .i64 38)) w12)
  (R (Ending.returned (Value.int .i64 0)) w12))
  (R (Ending.returned (Value.int .i64 0)) w12)))))))
  (∃ b423, World.cell? w12 (Addr.add ⟨Array.size (World.heap w), 0, none⟩ 3) = some (Value.bool b423) ∧
  V.sel b423
  (∃ b424, World.cell? w12 (Addr.add ⟨Array.size (World.heap w), 0, none⟩ 4) = some (Value.bool b424) ∧
  V.sel b424
  (∃ s425, World.cell? w12 (Addr.add ⟨Array.size (World.heap w), 0, none⟩ 1) = some (Value.string s425) ∧
  ∃ s426, World.cell? w12 (Addr.add ⟨Array.size (World.heap w), 0, none⟩ 2) = some (Value.string s426) ∧
  V.sel (ByteArray.toList s425 == ByteArray.toList s426)
  (R (Ending.returned (Value.int .i64 37)) w12)
  (∃ b427, World.cell? w12 (Addr.add ⟨Array.size (World.heap w), 0, none⟩ 3) = some (Value.bool b427) ∧
  V.sel b427
  (∃ s428, World.cell? w12 (Addr.add ⟨Array.size (World.heap w), 0, none⟩ 1) = some (Value.string s428) ∧
  Calls Tryz.prog 27 #[(Value.string s428)] w12 fun e430 w431 =>
  ∃ b429, e430 = Ending.returned (Value.bool b429) ∧
  V.sel (!b429)
  (V.sel (!b429)
  (R (Ending.returned (Value.int .i64 32)) w431)
  (∃ b432, World.cell? w431 (Addr.add ⟨Array.size (World.heap w), 0, none⟩ 3) = some (Value.bool b432) ∧
  V.sel (!(b432 == b10))
  (V.sel (!(b432 == b10))
  (R (Ending.returned (Value.int .i64 38)) w431)
  (R (Ending.returned (Value.int .i64 0)) w431))
  (∃ b433, World.cell? w431 (Addr.add ⟨Array.size (World.heap w), 0, none⟩ 3) = some (Value.bool b433) ∧
  V.sel b433
  (∃ s434, World.cell? w431 (Addr.add ⟨Array.size (World.heap w), 0, none⟩ 1) = some (Value.string s434) ∧
  V.sel (!(ByteArray.toList s434 == ByteArray.toList s9))
  (R (Ending.returned (Value.int .i64 38)) w431)
  (R (Ending.returned (Value.int .i64 0)) w431))
  (R (Ending.returned (Value.int .i64 0)) w431))))
  (∃ b435, World.cell? w431 (Addr.add ⟨Array.size (World.heap w), 0, none⟩ 4) = some (Value.bool b435) ∧
  V.sel b435
  (∃ s436, World.cell? w431 (Addr.add ⟨Array.size (World.heap w), 0, none⟩ 2) = some (Value.string s436) ∧
  Calls Tryz.prog 27 #[(Value.string s436)] w431 fun e438 w439 =>
  ∃ b437, e438 = Ending.returned (Value.bool b437) ∧
  V.sel (!b437)
  (R (Ending.returned (Value.int .i64 32)) w439)
  (∃ b440, World.cell? w439 (Addr.add ⟨Array.size (World.heap w), 0, none⟩ 3) = some (Value.bool b440) ∧
  V.sel (!(b440 == b10))
  (V.sel (!(b440 == b10))
  (R (Ending.returned (Value.int .i64 38)) w439)
  (R (Ending.returned (Value.int .i64 0)) w439))
  (∃ b441, World.cell? w439 (Addr.add ⟨Array.size (World.heap w), 0, none⟩ 3) = some (Value.bool b441) ∧
  V.sel b441
  (∃ s442, World.cell? w439 (Addr.add ⟨Array.size (World.heap w), 0, none⟩ 1) = some (Value.string s442) ∧
  V.sel (!(ByteArray.toList s442 == ByteArray.toList s9))
  (R (Ending.returned (Value.int .i64 38)) w439)
  (R (Ending.returned (Value.int .i64 0)) w439))
  (R (Ending.returned (Value.int .i64 0)) w439))))
  (∃ b443, World.cell? w431 (Addr.add ⟨Array.size (World.heap w), 0, none⟩ 3) = some (Value.bool b443) ∧
  V.sel (!(b443 == b10))
  (V.sel (!(b443 == b10))
  (R (Ending.returned (Value.int .i64 38)) w431)
  (R (Ending.returned (Value.int .i64 0)) w431))
  (∃ b444, World.cell? w431 (Addr.add ⟨Array.size (World.heap w), 0, none⟩ 3) = some (Value.bool b444) ∧
  V.sel b444
  (∃ s445, World.cell? w431 (Addr.add ⟨Array.size (World.heap w), 0, none⟩ 1) = some (Value.string s445) ∧
  V.sel (!(ByteArray.toList s445 == ByteArray.toList s9))
  (R (Ending.returned (Value.int .i64 38)) w431)
  (R (Ending.returned (Value.int .i64 0)) w431))
  (R (Ending.returned (Value.int .i64 0)) w431)))))
  (∃ b446, World.cell? w12 (Addr.add ⟨Array.size (World.heap w), 0, none⟩ 4) = some (Value.bool b446) ∧
  V.sel b446
  (∃ s447, World.cell? w12 (Addr.add ⟨Array.size (World.heap w), 0, none⟩ 2) = some (Value.string s447) ∧
  Calls Tryz.prog 27 #[(Value.string s447)] w12 fun e449 w450 =>
  ∃ b448, e449 = Ending.returned (Value.bool b448) ∧
  V.sel (!b448)
  (R (Ending.returned (Value.int .i64 32)) w450)
  (∃ b451, World.cell? w450 (Addr.add ⟨Array.size (World.heap w), 0, none⟩ 3) = some (Value.bool b451) ∧
  V.sel (!(b451 == b10))
  (V.sel (!(b451 == b10))
  (R (Ending.returned (Value.int .i64 38)) w450)
  (R (Ending.returned (Value.int .i64 0)) w450))
  (∃ b452, World.cell? w450 (Addr.add ⟨Array.size (World.heap w), 0, none⟩ 3) = some (Value.bool b452) ∧
  V.sel b452
  (∃ s453, World.cell? w450 (Addr.add ⟨Array.size (World.heap w), 0, none⟩ 1) = some (Value.string s453) ∧
  V.sel (!(ByteArray.toList s453 == ByteArray.toList s9))
  (R (Ending.returned (Value.int .i64 38)) w450)
  (R (Ending.returned (Value.int .i64 0)) w450))
  (R (Ending.returned (Value.int .i64 0)) w450))))
  (∃ b454, World.cell? w12 (Addr.add ⟨Array.size (World.heap w), 0, none⟩ 3) = some (Value.bool b454) ∧
  V.sel (!(b454 == b10))
  (V.sel (!(b454 == b10))
  (R (Ending.returned (Value.int .i64 38)) w12)
  (R (Ending.returned (Value.int .i64 0)) w12))
  (∃ b455, World.cell? w12 (Addr.add ⟨Array.size (World.heap w), 0, none⟩ 3) = some (Value.bool b455) ∧
  V.sel b455
  (∃ s456, World.cell? w12 (Addr.add ⟨Array.size (World.heap w), 0, none⟩ 1) = some (Value.string s456) ∧
  V.sel (!(ByteArray.toList s456 == ByteArray.toList s9))
  (R (Ending.returned (Value.int .i64 38)) w12)
  (R (Ending.returned (Value.int .i64 0)) w12))
  (R (Ending.returned (Value.int .i64 0)) w12))))))
  (∃ b457, World.cell? w12 (Addr.add ⟨Array.size (World.heap w), 0, none⟩ 3) = some (Value.bool b457) ∧
  V.sel b457
  (∃ s458, World.cell? w12 (Addr.add ⟨Array.size (World.heap w), 0, none⟩ 1) = some (Value.string s458) ∧
  Calls Tryz.prog 27 #[(Value.string s458)] w12 fun e460 w461 =>
  ∃ b459, e460 = Ending.returned (Value.bool b459) ∧
  V.sel (!b459)
  (V.sel (!b459)
  (R (Ending.returned (Value.int .i64 32)) w461)
  (∃ b462, World.cell? w461 (Addr.add ⟨Array.size (World.heap w), 0, none⟩ 3) = some (Value.bool b462) ∧
  V.sel (!(b462 == b10))
  (V.sel (!(b462 == b10))
  (R (Ending.returned (Value.int .i64 38)) w461)
  (R (Ending.returned (Value.int .i64 0)) w461))
  (∃ b463, World.cell? w461 (Addr.add ⟨Array.size (World.heap w), 0, none⟩ 3) = some (Value.bool b463) ∧
  V.sel b463
  (∃ s464, World.cell? w461 (Addr.add ⟨Array.size (World.heap w), 0, none⟩ 1) = some (Value.string s464) ∧
  V.sel (!(ByteArray.toList s464 == ByteArray.toList s9))
  (R (Ending.returned (Value.int .i64 38)) w461)
  (R (Ending.returned (Value.int .i64 0)) w461))
  (R (Ending.returned (Value.int .i64 0)) w461))))
  (∃ b465, World.cell? w461 (Addr.add ⟨Array.size (World.heap w), 0, none⟩ 4) = some (Value.bool b465) ∧
  V.sel b465
  (∃ s466, World.cell? w461 (Addr.add ⟨Array.size (World.heap w), 0, none⟩ 2) = some (Value.string s466) ∧
  Calls Tryz.prog 27 #[(Value.string s466)] w461 fun e468 w469 =>
  ∃ b467, e468 = Ending.returned (Value.bool b467) ∧
  V.sel (!b467)
  (R (Ending.returned (Value.int .i64 32)) w469)
  (∃ b470, World.cell? w469 (Addr.add ⟨Array.size (World.heap w), 0, none⟩ 3) = some (Value.bool b470) ∧
  V.sel (!(b470 == b10))
  (V.sel (!(b470 == b10))
  (R (Ending.returned (Value.int .i64 38)) w469)
  (R (Ending.returned (Value.int .i64 0)) w469))
  (∃ b471, World.cell? w469 (Addr.add ⟨Array.size (World.heap w), 0, none⟩ 3) = some (Value.bool b471) ∧
  V.sel b471
  (∃ s472, World.cell? w469 (Addr.add ⟨Array.size (World.heap w), 0, none⟩ 1) = some (Value.string s472) ∧
  V.sel (!(ByteArray.toList s472 == ByteArray.toList s9))
  (R (Ending.returned (Value.int .i64 38)) w469)
  (R (Ending.returned (Value.int .i64 0)) w469))
  (R (Ending.returned (Value.int .i64 0)) w469))))
  (∃ b473, World.cell? w461 (Addr.add ⟨Array.size (World.heap w), 0, none⟩ 3) = some (Value.bool b473) ∧
  V.sel (!(b473 == b10))
  (V.sel (!(b473 == b10))
  (R (Ending.returned (Value.int .i64 38)) w461)
  (R (Ending.returned (Value.int .i64 0)) w461))
  (∃ b474, World.cell? w461 (Addr.add ⟨Array.size (World.heap w), 0, none⟩ 3) = some (Value.bool b474) ∧
  V.sel b474
  (∃ s475, World.cell? w461 (Addr.add ⟨Array.size (World.heap w), 0, none⟩ 1) = some (Value.string s475) ∧
  V.sel (!(ByteArray.toList s475 == ByteArray.toList s9))
  (R (Ending.returned (Value.int .i64 38)) w461)
  (R (Ending.returned (Value.int .i64 0)) w461))
  (R (Ending.returned (Value.int .i64 0)) w461)))))
  (∃ b476, World.cell? w12 (Addr.add ⟨Array.size (World.heap w), 0, none⟩ 4) = some (Value.bool b476) ∧
  V.sel b476
  (∃ s477, World.cell? w12 (Addr.add ⟨Array.size (World.heap w), 0, none⟩ 2) = some (Value.string s477) ∧
  Calls Tryz.prog 27 #[(Value.string s477)] w12 fun e479 w480 =>
  ∃ b478, e479 = Ending.returned (Value.bool b478) ∧
  V.sel (!b478)
  (R (Ending.returned (Value.int .i64 32)) w480)
  (∃ b481, World.cell? w480 (Addr.add ⟨Array.size (World.heap w), 0, none⟩ 3) = some (Value.bool b481) ∧
  V.sel (!(b481 == b10))
  (V.sel (!(b481 == b10))
  (R (Ending.returned (Value.int .i64 38)) w480)
  (R (Ending.returned (Value.int .i64 0)) w480))
  (∃ b482, World.cell? w480 (Addr.add ⟨Array.size (World.heap w), 0, none⟩ 3) = some (Value.bool b482) ∧
  V.sel b482
  (∃ s483, World.cell? w480 (Addr.add ⟨Array.size (World.heap w), 0, none⟩ 1) = some (Value.string s483) ∧
  V.sel (!(ByteArray.toList s483 == ByteArray.toList s9))
  (R (Ending.returned (Value.int .i64 38)) w480)
  (R (Ending.returned (Value.int .i64 0)) w480))
  (R (Ending.returned (Value.int .i64 0)) w480))))
  (∃ b484, World.cell? w12 (Addr.add ⟨Array.size (World.heap w), 0, none⟩ 3) = some (Value.bool b484) ∧
  V.sel (!(b484 == b10))
  (V.sel (!(b484 == b10))
  (R (Ending.returned (Value.int .i64 38)) w12)
  (R (Ending.returned (Value.int .i64 0)) w12))
  (∃ b485, World.cell? w12 (Addr.add ⟨Array.size (World.heap w), 0, none⟩ 3) = some (Value.bool b485) ∧
  V.sel b485
  (∃ s486, World.cell? w12 (Addr.add ⟨Array.size (World.heap w), 0, none⟩ 1) = some (Value.string s486) ∧
  V.sel (!(ByteArray.toList s486 == ByteArray.toList s9))
  (R (Ending.returned (Value.int .i64 38)) w12)
  (R (Ending.returned (Value.int .i64 0)) w12))
  (R (Ending.returned (Value.int .i64 0)) w12))))))
  (∃ b487, World.cell? w12 (Addr.add ⟨Array.size (World.heap w), 0, none⟩ 3) = some (Value.bool b487) ∧
  V.sel b487
  (∃ s488, World.cell? w12 (Addr.add ⟨Array.size (World.heap w), 0, none⟩ 1) = some (Value.string s488) ∧
  Calls Tryz.prog 27 #[(Value.string s488)] w12 fun e490 w491 =>
  ∃ b489, e490 = Ending.returned (Value.bool b489) ∧
  V.sel (!b489)
  (V.sel (!b489)
  (R (Ending.returned (Value.int .i64 32)) w491)
  (∃ b492, World.cell? w491 (Addr.add ⟨Array.size (World.heap w), 0, none⟩ 3) = some (Value.bool b492) ∧
  V.sel (!(b492 == b10))
  (V.sel (!(b492 == b10))
  (R (Ending.returned (Value.int .i64 38)) w491)
  (R (Ending.returned (Value.int .i64 0)) w491))
  (∃ b493, World.cell? w491 (Addr.add ⟨Array.size (World.heap w), 0, none⟩ 3) = some (Value.bool b493) ∧
  V.sel b493
  (∃ s494, World.cell? w491 (Addr.add ⟨Array.size (World.heap w), 0, none⟩ 1) = some (Value.string s494) ∧
  V.sel (!(ByteArray.toList s494 == ByteArray.toList s9))
  (R (Ending.returned (Value.int .i64 38)) w491)
  (R (Ending.returned (Value.int .i64 0)) w491))
  (R (Ending.returned (Value.int .i64 0)) w491))))
  (∃ b495, World.cell? w491 (Addr.add ⟨Array.size (World.heap w), 0, none⟩ 4) = some (Value.bool b495) ∧
  V.sel b495
  (∃ s496, World.cell? w491 (Addr.add ⟨Array.size (World.heap w), 0, none⟩ 2) = some (Value.string s496) ∧
  Calls Tryz.prog 27 #[(Value.string s496)] w491 fun e498 w499 =>
  ∃ b497, e498 = Ending.returned (Value.bool b497) ∧
  V.sel (!b497)
  (R (Ending.returned (Value.int .i64 32)) w499)
  (∃ b500, World.cell? w499 (Addr.add ⟨Array.size (World.heap w), 0, none⟩ 3) = some (Value.bool b500) ∧
  V.sel (!(b500 == b10))
  (V.sel (!(b500 == b10))
  (R (Ending.returned (Value.int .i64 38)) w499)
  (R (Ending.returned (Value.int .i64 0)) w499))
  (∃ b501, World.cell? w499 (Addr.add ⟨Array.size (World.heap w), 0, none⟩ 3) = some (Value.bool b501) ∧
  V.sel b501
  (∃ s502, World.cell? w499 (Addr.add ⟨Array.size (World.heap w), 0, none⟩ 1) = some (Value.string s502) ∧
  V.sel (!(ByteArray.toList s502 == ByteArray.toList s9))
  (R (Ending.returned (Value.int .i64 38)) w499)
  (R (Ending.returned (Value.int .i64 0)) w499))
  (R (Ending.returned (Value.int .i64 0)) w499))))
  (∃ b503, World.cell? w491 (Addr.add ⟨Array.size (World.heap w), 0, none⟩ 3) = some (Value.bool b503) ∧
  V.sel (!(b503 == b10))
  (V.sel (!(b503 == b10))
  (R (Ending.returned (Value.int .i64 38)) w491)
  (R (Ending.returned (Value.int .i64 0)) w491))
  (∃ b504, World.cell? w491 (Addr.add ⟨Array.size (World.heap w), 0, none⟩ 3) = some (Value.bool b504) ∧
  V.sel b504
  (∃ s505, World.cell? w491 (Addr.add ⟨Array.size (World.heap w), 0, none⟩ 1) = some (Value.string s505) ∧
  V.sel (!(ByteArray.toList s505 == ByteArray.toList s9))
  (R (Ending.returned (Value.int .i64 38)) w491)
  (R (Ending.returned (Value.int .i64 0)) w491))
  (R (Ending.returned (Value.int .i64 0)) w491)))))
  (∃ b506, World.cell? w12 (Addr.add ⟨Array.size (World.heap w), 0, none⟩ 4) = some (Value.bool b506) ∧
  V.sel b506
  (∃ s507, World.cell? w12 (Addr.add ⟨Array.size (World.heap w), 0, none⟩ 2) = some (Value.string s507) ∧
  Calls Tryz.prog 27 #[(Value.string s507)] w12 fun e509 w510 =>
  ∃ b508, e509 = Ending.returned (Value.bool b508) ∧
  V.sel (!b508)
  (R (Ending.returned (Value.int .i64 32)) w510)
  (∃ b511, World.cell? w510 (Addr.add ⟨Array.size (World.heap w), 0, none⟩ 3) = some (Value.bool b511) ∧
  V.sel (!(b511 == b10))
  (V.sel (!(b511 == b10))
  (R (Ending.returned (Value.int .i64 38)) w510)
  (R (Ending.returned (Value.int .i64 0)) w510))
  (∃ b512, World.cell? w510 (Addr.add ⟨Array.size (World.heap w), 0, none⟩ 3) = some (Value.bool b512) ∧
  V.sel b512
  (∃ s513, World.cell? w510 (Addr.add ⟨Array.size (World.heap w), 0, none⟩ 1) = some (Value.string s513) ∧
  V.sel (!(ByteArray.toList s513 == ByteArray.toList s9))
  (R (Ending.returned (Value.int .i64 38)) w510)
  (R (Ending.returned (Value.int .i64 0)) w510))
  (R (Ending.returned (Value.int .i64 0)) w510))))
  (∃ b514, World.cell? w12 (Addr.add ⟨Array.size (World.heap w), 0, none⟩ 3) = some (Value.bool b514) ∧
  V.sel (!(b514 == b10))
  (V.sel (!(b514 == b10))
  (R (Ending.returned (Value.int .i64 38)) w12)
  (R (Ending.returned (Value.int .i64 0)) w12))
  (∃ b515, World.cell? w12 (Addr.add ⟨Array.size (World.heap w), 0, none⟩ 3) = some (Value.bool b515) ∧
  V.sel b515
  (∃ s516, World.cell? w12 (Addr.add ⟨Array.size (World.heap w), 0, none⟩ 1) = some (Value.string s516) ∧
  V.sel (!(ByteArray.toList s516 == ByteArray.toList s9))
  (R (Ending.returned (Value.int .i64 38)) w12)
  (R (Ending.returned (Value.int .i64 0)) w12))
  (R (Ending.returned (Value.int .i64 0)) w12)))))))))
  (∃ b517, World.cell? w12 (Addr.add ⟨Array.size (World.heap w), 0, none⟩ 3) = some (Value.bool b517) ∧
  V.sel (!b517)
  (∃ s518, World.cell? w12 (Addr.add ⟨Array.size (World.heap w), 0, none⟩ 1) = some (Value.string s518) ∧
  V.sel (!(ByteArray.toList s518 == ByteArray.toList ByteArray.empty))
  (V.sel (!(ByteArray.toList s518 == ByteArray.toList ByteArray.empty))
  (R (Ending.returned (Value.int .i64 37)) w12)
  (∃ b519, World.cell? w12 (Addr.add ⟨Array.size (World.heap w), 0, none⟩ 3) = some (Value.bool b519) ∧
  V.sel b519
  (∃ s520, World.cell? w12 (Addr.add ⟨Array.size (World.heap w), 0, none⟩ 1) = some (Value.string s520) ∧
  Calls Tryz.prog 27 #[(Value.string s520)] w12 fun e522 w523 =>
  ∃ b521, e522 = Ending.returned (Value.bool b521) ∧
  V.sel (!b521)
  (V.sel (!b521)
  (R (Ending.returned (Value.int .i64 32)) w523)
  (∃ b524, World.cell? w523 (Addr.add ⟨Array.size (World.heap w), 0, none⟩ 3) = some (Value.bool b524) ∧
  V.sel (!(b524 == b10))
  (V.sel (!(b524 == b10))
  (R (Ending.returned (Value.int .i64 38)) w523)
  (R (Ending.returned (Value.int .i64 0)) w523))
  (∃ b525, World.cell? w523 (Addr.add ⟨Array.size (World.heap w), 0, none⟩ 3) = some (Value.bool b525) ∧
  V.sel b525
  (∃ s526, World.cell? w523 (Addr.add ⟨Array.size (World.heap w), 0, none⟩ 1) = some (Value.string s526) ∧
  V.sel (!(ByteArray.toList s526 == ByteArray.toList s9))
  (R (Ending.returned (Value.int .i64 38)) w523)
  (R (Ending.returned (Value.int .i64 0)) w523))
  (R (Ending.returned (Value.int .i64 0)) w523))))
  (∃ b527, World.cell? w523 (Addr.add ⟨Array.size (World.heap w), 0, none⟩ 4) = some (Value.bool b527) ∧
  V.sel b527
  (∃ s528, World.cell? w523 (Addr.add ⟨Array.size (World.heap w), 0, none⟩ 2) = some (Value.string s528) ∧
  Calls Tryz.prog 27 #[(Value.string s528)] w523 fun e530 w531 =>
  ∃ b529, e530 = Ending.returned (Value.bool b529) ∧
  V.sel (!b529)
  (R (Ending.returned (Value.int .i64 32)) w531)
  (∃ b532, World.cell? w531 (Addr.add ⟨Array.size (World.heap w), 0, none⟩ 3) = some (Value.bool b532) ∧
  V.sel (!(b532 == b10))
  (V.sel (!(b532 == b10))
  (R (Ending.returned (Value.int .i64 38)) w531)
  (R (Ending.returned (Value.int .i64 0)) w531))
  (∃ b533, World.cell? w531 (Addr.add ⟨Array.size (World.heap w), 0, none⟩ 3) = some (Value.bool b533) ∧
  V.sel b533
  (∃ s534, World.cell? w531 (Addr.add ⟨Array.size (World.heap w), 0, none⟩ 1) = some (Value.string s534) ∧
  V.sel (!(ByteArray.toList s534 == ByteArray.toList s9))
  (R (Ending.returned (Value.int .i64 38)) w531)
  (R (Ending.returned (Value.int .i64 0)) w531))
  (R (Ending.returned (Value.int .i64 0)) w531))))
  (∃ b535, World.cell? w523 (Addr.add ⟨Array.size (World.heap w), 0, none⟩ 3) = some (Value.bool b535) ∧
  V.sel (!(b535 == b10))
  (V.sel (!(b535 == b10))
  (R (Ending.returned (Value.int .i64 38)) w523)
  (R (Ending.returned (Value.int .i64 0)) w523))
  (∃ b536, World.cell? w523 (Addr.add ⟨Array.size (World.heap w), 0, none⟩ 3) = some (Value.bool b536) ∧
  V.sel b536
  (∃ s537, World.cell? w523 (Addr.add ⟨Array.size (World.heap w), 0, none⟩ 1) = some (Value.string s537) ∧
  V.sel (!(ByteArray.toList s537 == ByteArray.toList s9))
  (R (Ending.returned (Value.int .i64 38)) w523)
  (R (Ending.returned (Value.int .i64 0)) w523))
  (R (Ending.returned (Value.int .i64 0)) w523)))))
  (∃ b538, World.cell? w12 (Addr.add ⟨Array.size (World.heap w), 0, none⟩ 4) = some (Value.bool b538) ∧
  V.sel b538
  (∃ s539, World.cell? w12 (Addr.add ⟨Array.size (World.heap w), 0, none⟩ 2) = some (Value.string s539) ∧
  Calls Tryz.prog 27 #[(Value.string s539)] w12 fun e541 w542 =>
  ∃ b540, e541 = Ending.returned (Value.bool b540) ∧
  V.sel (!b540)
  (R (Ending.returned (Value.int .i64 32)) w542)
  (∃ b543, World.cell? w542 (Addr.add ⟨Array.size (World.heap w), 0, none⟩ 3) = some (Value.bool b543) ∧
  V.sel (!(b543 == b10))
  (V.sel (!(b543 == b10))
  (R (Ending.returned (Value.int .i64 38)) w542)
  (R (Ending.returned (Value.int .i64 0)) w542))
  (∃ b544, World.cell? w542 (Addr.add ⟨Array.size (World.heap w), 0, none⟩ 3) = some (Value.bool b544) ∧
  V.sel b544
  (∃ s545, World.cell? w542 (Addr.add ⟨Array.size (World.heap w), 0, none⟩ 1) = some (Value.string s545) ∧
  V.sel (!(ByteArray.toList s545 == ByteArray.toList s9))
  (R (Ending.returned (Value.int .i64 38)) w542)
  (R (Ending.returned (Value.int .i64 0)) w542))
  (R (Ending.returned (Value.int .i64 0)) w542))))
  (∃ b546, World.cell? w12 (Addr.add ⟨Array.size (World.heap w), 0, none⟩ 3) = some (Value.bool b546) ∧
  V.sel (!(b546 == b10))
  (V.sel (!(b546 == b10))
  (R (Ending.returned (Value.int .i64 38)) w12)
  (R (Ending.returned (Value.int .i64 0)) w12))
  (∃ b547, World.cell? w12 (Addr.add ⟨Array.size (World.heap w), 0, none⟩ 3) = some (Value.bool b547) ∧
  V.sel b547
  (∃ s548, World.cell? w12 (Addr.add ⟨Array.size (World.heap w), 0, none⟩ 1) = some (Value.string s548) ∧
  V.sel (!(ByteArray.toList s548 == ByteArray.toList s9))
  (R (Ending.returned (Value.int .i64 38)) w12)
  (R (Ending.returned (Value.int .i64 0)) w12))
  (R (Ending.returned (Value.int .i64 0)) w12))))))
  (∃ b549, World.cell? w12 (Addr.add ⟨Array.size (World.heap w), 0, none⟩ 4) = some (Value.bool b549) ∧
  V.sel (!b549)
  (∃ s550, World.cell? w12 (Addr.add ⟨Array.size (World.heap w), 0, none⟩ 2) = some (Value.string s550) ∧
  V.sel (!(ByteArray.toList s550 == ByteArray.toList ByteArray.empty))
  (V.sel (!(ByteArray.toList s550 == ByteArray.toList ByteArray.empty))
  (R (Ending.returned (Value.int .i64 37)) w12)
  (∃ b551, World.cell? w12 (Addr.add ⟨Array.size (World.heap w), 0, none⟩ 3) = some (Value.bool b551) ∧
  V.sel b551
  (∃ s552, World.cell? w12 (Addr.add ⟨Array.size (World.heap w), 0, none⟩ 1) = some (Value.string s552) ∧
  Calls Tryz.prog 27 #[(Value.string s552)] w12 fun e554 w555 =>
  ∃ b553, e554 = Ending.returned (Value.bool b553) ∧
  V.sel (!b553)
  (V.sel (!b553)
  (R (Ending.returned (Value.int .i64 32)) w555)
  (∃ b556, World.cell? w555 (Addr.add ⟨Array.size (World.heap w), 0, none⟩ 3) = some (Value.bool b556) ∧
  V.sel (!(b556 == b10))
  (V.sel (!(b556 == b10))
  (R (Ending.returned (Value.int .i64 38)) w555)
  (R (Ending.returned (Value.int .i64 0)) w555))
  (∃ b557, World.cell? w555 (Addr.add ⟨Array.size (World.heap w), 0, none⟩ 3) = some (Value.bool b557) ∧
  V.sel b557
  (∃ s558, World.cell? w555 (Addr.add ⟨Array.size (World.heap w), 0, none⟩ 1) = some (Value.string s558) ∧
  V.sel (!(ByteArray.toList s558 == ByteArray.toList s9))
  (R (Ending.returned (Value.int .i64 38)) w555)
  (R (Ending.returned (Value.int .i64 0)) w555))
  (R (Ending.returned (Value.int .i64 0)) w555))))
  (∃ b559, World.cell? w555 (Addr.add ⟨Array.size (World.heap w), 0, none⟩ 4) = some (Value.bool b559) ∧
  V.sel b559
  (∃ s560, World.cell? w555 (Addr.add ⟨Array.size (World.heap w), 0, none⟩ 2) = some (Value.string s560) ∧
  Calls Tryz.prog 27 #[(Value.string s560)] w555 fun e562 w563 =>
  ∃ b561, e562 = Ending.returned (Value.bool b561) ∧
  V.sel (!b561)
  (R (Ending.returned (Value.int .i64 32)) w563)
  (∃ b564, World.cell? w563 (Addr.add ⟨Array.size (World.heap w), 0, none⟩ 3) = some (Value.bool b564) ∧
  V.sel (!(b564 == b10))
  (V.sel (!(b564 == b10))
  (R (Ending.returned (Value.int .i64 38)) w563)
  (R (Ending.returned (Value.int .i64 0)) w563))
  (∃ b565, World.cell? w563 (Addr.add ⟨Array.size (World.heap w), 0, none⟩ 3) = some (Value.bool b565) ∧
  V.sel b565
  (∃ s566, World.cell? w563 (Addr.add ⟨Array.size (World.heap w), 0, none⟩ 1) = some (Value.string s566) ∧
  V.sel (!(ByteArray.toList s566 == ByteArray.toList s9))
  (R (Ending.returned (Value.int .i64 38)) w563)
  (R (Ending.returned (Value.int .i64 0)) w563))
  (R (Ending.returned (Value.int .i64 0)) w563))))
  (∃ b567, World.cell? w555 (Addr.add ⟨Array.size (World.heap w), 0, none⟩ 3) = some (Value.bool b567) ∧
  V.sel (!(b567 == b10))
  (V.sel (!(b567 == b10))
  (R (Ending.returned (Value.int .i64 38)) w555)
  (R (Ending.returned (Value.int .i64 0)) w555))
  (∃ b568, World.cell? w555 (Addr.add ⟨Array.size (World.heap w), 0, none⟩ 3) = some (Value.bool b568) ∧
  V.sel b568
  (∃ s569, World.cell? w555 (Addr.add ⟨Array.size (World.heap w), 0, none⟩ 1) = some (Value.string s569) ∧
  V.sel (!(ByteArray.toList s569 == ByteArray.toList s9))
  (R (Ending.returned (Value.int .i64 38)) w555)
  (R (Ending.returned (Value.int .i64 0)) w555))
  (R (Ending.returned (Value.int .i64 0)) w555)))))
  (∃ b570, World.cell? w12 (Addr.add ⟨Array.size (World.heap w), 0, none⟩ 4) = some (Value.bool b570) ∧
  V.sel b570
  (∃ s571, World.cell? w12 (Addr.add ⟨Array.size (World.heap w), 0, none⟩ 2) = some (Value.string s571) ∧
  Calls Tryz.prog 27 #[(Value.string s571)] w12 fun e573 w574 =>
  ∃ b572, e573 = Ending.returned (Value.bool b572) ∧
  V.sel (!b572)
  (R (Ending.returned (Value.int .i64 32)) w574)
  (∃ b575, World.cell? w574 (Addr.add ⟨Array.size (World.heap w), 0, none⟩ 3) = some (Value.bool b575) ∧
  V.sel (!(b575 == b10))
  (V.sel (!(b575 == b10))
  (R (Ending.returned (Value.int .i64 38)) w574)
  (R (Ending.returned (Value.int .i64 0)) w574))
  (∃ b576, World.cell? w574 (Addr.add ⟨Array.size (World.heap w), 0, none⟩ 3) = some (Value.bool b576) ∧
  V.sel b576
  (∃ s577, World.cell? w574 (Addr.add ⟨Array.size (World.heap w), 0, none⟩ 1) = some (Value.string s577) ∧
  V.sel (!(ByteArray.toList s577 == ByteArray.toList s9))
  (R (Ending.returned (Value.int .i64 38)) w574)
  (R (Ending.returned (Value.int .i64 0)) w574))
  (R (Ending.returned (Value.int .i64 0)) w574))))
  (∃ b578, World.cell? w12 (Addr.add ⟨Array.size (World.heap w), 0, none⟩ 3) = some (Value.bool b578) ∧
  V.sel (!(b578 == b10))
  (V.sel (!(b578 == b10))
  (R (Ending.returned (Value.int .i64 38)) w12)
  (R (Ending.returned (Value.int .i64 0)) w12))
  (∃ b579, World.cell? w12 (Addr.add ⟨Array.size (World.heap w), 0, none⟩ 3) = some (Value.bool b579) ∧
  V.sel b579
  (∃ s580, World.cell? w12 (Addr.add ⟨Array.size (World.heap w), 0, none⟩ 1) = some (Value.string s580) ∧
  V.sel (!(ByteArray.toList s580 == ByteArray.toList s9))
  (R (Ending.returned (Value.int .i64 38)) w12)
  (R (Ending.returned (Value.int .i64 0)) w12))
  (R (Ending.returned (Value.int .i64 0)) w12))))))
  (∃ b581, World.cell? w12 (Addr.add ⟨Array.size (World.heap w), 0, none⟩ 3) = some (Value.bool b581) ∧
  V.sel b581
  (∃ b582, World.cell? w12 (Addr.add ⟨Array.size (World.heap w), 0, none⟩ 4) = some (Value.bool b582) ∧
  V.sel b582
  (∃ s583, World.cell? w12 (Addr.add ⟨Array.size (World.heap w), 0, none⟩ 1) = some (Value.string s583) ∧
  ∃ s584, World.cell? w12 (Addr.add ⟨Array.size (World.heap w), 0, none⟩ 2) = some (Value.string s584) ∧
  V.sel (ByteArray.toList s583 == ByteArray.toList s584)
  (R (Ending.returned (Value.int .i64 37)) w12)
  (∃ b585, World.cell? w12 (Addr.add ⟨Array.size (World.heap w), 0, none⟩ 3) = some (Value.bool b585) ∧
  V.sel b585
  (∃ s586, World.cell? w12 (Addr.add ⟨Array.size (World.heap w), 0, none⟩ 1) = some (Value.string s586) ∧
  Calls Tryz.prog 27 #[(Value.string s586)] w12 fun e588 w589 =>
  ∃ b587, e588 = Ending.returned (Value.bool b587) ∧
  V.sel (!b587)
  (V.sel (!b587)
  (R (Ending.returned (Value.int .i64 32)) w589)
  (∃ b590, World.cell? w589 (Addr.add ⟨Array.size (World.heap w), 0, none⟩ 3) = some (Value.bool b590) ∧
  V.sel (!(b590 == b10))
  (V.sel (!(b590 == b10))
  (R (Ending.returned (Value.int .i64 38)) w589)
  (R (Ending.returned (Value.int .i64 0)) w589))
  (∃ b591, World.cell? w589 (Addr.add ⟨Array.size (World.heap w), 0, none⟩ 3) = some (Value.bool b591) ∧
  V.sel b591
  (∃ s592, World.cell? w589 (Addr.add ⟨Array.size (World.heap w), 0, none⟩ 1) = some (Value.string s592) ∧
  V.sel (!(ByteArray.toList s592 == ByteArray.toList s9))
  (R (Ending.returned (Value.int .i64 38)) w589)
  (R (Ending.returned (Value.int .i64 0)) w589))
  (R (Ending.returned (Value.int .i64 0)) w589))))
  (∃ b593, World.cell? w589 (Addr.add ⟨Array.size (World.heap w), 0, none⟩ 4) = some (Value.bool b593) ∧
  V.sel b593
  (∃ s594, World.cell? w589 (Addr.add ⟨Array.size (World.heap w), 0, none⟩ 2) = some (Value.string s594) ∧
  Calls Tryz.prog 27 #[(Value.string s594)] w589 fun e596 w597 =>
  ∃ b595, e596 = Ending.returned (Value.bool b595) ∧
  V.sel (!b595)
  (R (Ending.returned (Value.int .i64 32)) w597)
  (∃ b598, World.cell? w597 (Addr.add ⟨Array.size (World.heap w), 0, none⟩ 3) = some (Value.bool b598) ∧
  V.sel (!(b598 == b10))
  (V.sel (!(b598 == b10))
  (R (Ending.returned (Value.int .i64 38)) w597)
  (R (Ending.returned (Value.int .i64 0)) w597))
  (∃ b599, World.cell? w597 (Addr.add ⟨Array.size (World.heap w), 0, none⟩ 3) = some (Value.bool b599) ∧
  V.sel b599
  (∃ s600, World.cell? w597 (Addr.add ⟨Array.size (World.heap w), 0, none⟩ 1) = some (Value.string s600) ∧
  V.sel (!(ByteArray.toList s600 == ByteArray.toList s9))
  (R (Ending.returned (Value.int .i64 38)) w597)
  (R (Ending.returned (Value.int .i64 0)) w597))
  (R (Ending.returned (Value.int .i64 0)) w597))))
  (∃ b601, World.cell? w589 (Addr.add ⟨Array.size (World.heap w), 0, none⟩ 3) = some (Value.bool b601) ∧
  V.sel (!(b601 == b10))
  (V.sel (!(b601 == b10))
  (R (Ending.returned (Value.int .i64 38)) w589)
  (R (Ending.returned (Value.int .i64 0)) w589))
  (∃ b602, World.cell? w589 (Addr.add ⟨Array.size (World.heap w), 0, none⟩ 3) = some (Value.bool b602) ∧
  V.sel b602
  (∃ s603, World.cell? w589 (Addr.add ⟨Array.size (World.heap w), 0, none⟩ 1) = some (Value.string s603) ∧
  V.sel (!(ByteArray.toList s603 == ByteArray.toList s9))
  (R (Ending.returned (Value.int .i64 38)) w589)
  (R (Ending.returned (Value.int .i64 0)) w589))
  (R (Ending.returned (Value.int .i64 0)) w589)))))
  (∃ b604, World.cell? w12 (Addr.add ⟨Array.size (World.heap w), 0, none⟩ 4) = some (Value.bool b604) ∧
  V.sel b604
  (∃ s605, World.cell? w12 (Addr.add ⟨Array.size (World.heap w), 0, none⟩ 2) = some (Value.string s605) ∧
  Calls Tryz.prog 27 #[(Value.string s605)] w12 fun e607 w608 =>
  ∃ b606, e607 = Ending.returned (Value.bool b606) ∧
  V.sel (!b606)
  (R (Ending.returned (Value.int .i64 32)) w608)
  (∃ b609, World.cell? w608 (Addr.add ⟨Array.size (World.heap w), 0, none⟩ 3) = some (Value.bool b609) ∧
  V.sel (!(b609 == b10))
  (V.sel (!(b609 == b10))
  (R (Ending.returned (Value.int .i64 38)) w608)
  (R (Ending.returned (Value.int .i64 0)) w608))
  (∃ b610, World.cell? w608 (Addr.add ⟨Array.size (World.heap w), 0, none⟩ 3) = some (Value.bool b610) ∧
  V.sel b610
  (∃ s611, World.cell? w608 (Addr.add ⟨Array.size (World.heap w), 0, none⟩ 1) = some (Value.string s611) ∧
  V.sel (!(ByteArray.toList s611 == ByteArray.toList s9))
  (R (Ending.returned (Value.int .i64 38)) w608)
  (R (Ending.returned (Value.int .i64 0)) w608))
  (R (Ending.returned (Value.int .i64 0)) w608))))
  (∃ b612, World.cell? w12 (Addr.add ⟨Array.size (World.heap w), 0, none⟩ 3) = some (Value.bool b612) ∧
  V.sel (!(b612 == b10))
  (V.sel (!(b612 == b10))
  (R (Ending.returned (Value.int .i64 38)) w12)
  (R (Ending.returned (Value.int .i64 0)) w12))
  (∃ b613, World.cell? w12 (Addr.add ⟨Array.size (World.heap w), 0, none⟩ 3) = some (Value.bool b613) ∧
  V.sel b613
  (∃ s614, World.cell? w12 (Addr.add ⟨Array.size (World.heap w), 0, none⟩ 1) = some (Value.string s614) ∧
  V.sel (!(ByteArray.toList s614 == ByteArray.toList s9))
  (R (Ending.returned (Value.int .i64 38)) w12)
  (R (Ending.returned (Value.int .i64 0)) w12))
  (R (Ending.returned (Value.int .i64 0)) w12))))))
  (∃ b615, World.cell? w12 (Addr.add ⟨Array.size (World.heap w), 0, none⟩ 3) = some (Value.bool b615) ∧
  V.sel b615
  (∃ s616, World.cell? w12 (Addr.add ⟨Array.size (World.heap w), 0, none⟩ 1) = some (Value.string s616) ∧
  Calls Tryz.prog 27 #[(Value.string s616)] w12 fun e618 w619 =>
  ∃ b617, e618 = Ending.returned (Value.bool b617) ∧
  V.sel (!b617)
  (V.sel (!b617)
  (R (Ending.returned (Value.int .i64 32)) w619)
  (∃ b620, World.cell? w619 (Addr.add ⟨Array.size (World.heap w), 0, none⟩ 3) = some (Value.bool b620) ∧
  V.sel (!(b620 == b10))
  (V.sel (!(b620 == b10))
  (R (Ending.returned (Value.int .i64 38)) w619)
  (R (Ending.returned (Value.int .i64 0)) w619))
  (∃ b621, World.cell? w619 (Addr.add ⟨Array.size (World.heap w), 0, none⟩ 3) = some (Value.bool b621) ∧
  V.sel b621
  (∃ s622, World.cell? w619 (Addr.add ⟨Array.size (World.heap w), 0, none⟩ 1) = some (Value.string s622) ∧
  V.sel (!(ByteArray.toList s622 == ByteArray.toList s9))
  (R (Ending.returned (Value.int .i64 38)) w619)
  (R (Ending.returned (Value.int .i64 0)) w619))
  (R (Ending.returned (Value.int .i64 0)) w619))))
  (∃ b623, World.cell? w619 (Addr.add ⟨Array.size (World.heap w), 0, none⟩ 4) = some (Value.bool b623) ∧
  V.sel b623
  (∃ s624, World.cell? w619 (Addr.add ⟨Array.size (World.heap w), 0, none⟩ 2) = some (Value.string s624) ∧
  Calls Tryz.prog 27 #[(Value.string s624)] w619 fun e626 w627 =>
  ∃ b625, e626 = Ending.returned (Value.bool b625) ∧
  V.sel (!b625)
  (R (Ending.returned (Value.int .i64 32)) w627)
  (∃ b628, World.cell? w627 (Addr.add ⟨Array.size (World.heap w), 0, none⟩ 3) = some (Value.bool b628) ∧
  V.sel (!(b628 == b10))
  (V.sel (!(b628 == b10))
  (R (Ending.returned (Value.int .i64 38)) w627)
  (R (Ending.returned (Value.int .i64 0)) w627))
  (∃ b629, World.cell? w627 (Addr.add ⟨Array.size (World.heap w), 0, none⟩ 3) = some (Value.bool b629) ∧
  V.sel b629
  (∃ s630, World.cell? w627 (Addr.add ⟨Array.size (World.heap w), 0, none⟩ 1) = some (Value.string s630) ∧
  V.sel (!(ByteArray.toList s630 == ByteArray.toList s9))
  (R (Ending.returned (Value.int .i64 38)) w627)
  (R (Ending.returned (Value.int .i64 0)) w627))
  (R (Ending.returned (Value.int .i64 0)) w627))))
  (∃ b631, World.cell? w619 (Addr.add ⟨Array.size (World.heap w), 0, none⟩ 3) = some (Value.bool b631) ∧
  V.sel (!(b631 == b10))
  (V.sel (!(b631 == b10))
  (R (Ending.returned (Value.int .i64 38)) w619)
  (R (Ending.returned (Value.int .i64 0)) w619))
  (∃ b632, World.cell? w619 (Addr.add ⟨Array.size (World.heap w), 0, none⟩ 3) = some (Value.bool b632) ∧
  V.sel b632
  (∃ s633, World.cell? w619 (Addr.add ⟨Array.size (World.heap w), 0, none⟩ 1) = some (Value.string s633) ∧
  V.sel (!(ByteArray.toList s633 == ByteArray.toList s9))
  (R (Ending.returned (Value.int .i64 38)) w619)
  (R (Ending.returned (Value.int .i64 0)) w619))
  (R (Ending.returned (Value.int .i64 0)) w619)))))
  (∃ b634, World.cell? w12 (Addr.add ⟨Array.size (World.heap w), 0, none⟩ 4) = some (Value.bool b634) ∧
  V.sel b634
  (∃ s635, World.cell? w12 (Addr.add ⟨Array.size (World.heap w), 0, none⟩ 2) = some (Value.string s635) ∧
  Calls Tryz.prog 27 #[(Value.string s635)] w12 fun e637 w638 =>
  ∃ b636, e637 = Ending.returned (Value.bool b636) ∧
  V.sel (!b636)
  (R (Ending.returned (Value.int .i64 32)) w638)
  (∃ b639, World.cell? w638 (Addr.add ⟨Array.size (World.heap w), 0, none⟩ 3) = some (Value.bool b639) ∧
  V.sel (!(b639 == b10))
  (V.sel (!(b639 == b10))
  (R (Ending.returned (Value.int .i64 38)) w638)
  (R (Ending.returned (Value.int .i64 0)) w638))
  (∃ b640, World.cell? w638 (Addr.add ⟨Array.size (World.heap w), 0, none⟩ 3) = some (Value.bool b640) ∧
  V.sel b640
  (∃ s641, World.cell? w638 (Addr.add ⟨Array.size (World.heap w), 0, none⟩ 1) = some (Value.string s641) ∧
  V.sel (!(ByteArray.toList s641 == ByteArray.toList s9))
  (R (Ending.returned (Value.int .i64 38)) w638)
  (R (Ending.returned (Value.int .i64 0)) w638))
  (R (Ending.returned (Value.int .i64 0)) w638))))
  (∃ b642, World.cell? w12 (Addr.add ⟨Array.size (World.heap w), 0, none⟩ 3) = some (Value.bool b642) ∧
  V.sel (!(b642 == b10))
  (V.sel (!(b642 == b10))
  (R (Ending.returned (Value.int .i64 38)) w12)
  (R (Ending.returned (Value.int .i64 0)) w12))
  (∃ b643, World.cell? w12 (Addr.add ⟨Array.size (World.heap w), 0, none⟩ 3) = some (Value.bool b643) ∧
  V.sel b643
  (∃ s644, World.cell? w12 (Addr.add ⟨Array.size (World.heap w), 0, none⟩ 1) = some (Value.string s644) ∧
  V.sel (!(ByteArray.toList s644 == ByteArray.toList s9))
  (R (Ending.returned (Value.int .i64 38)) w12)
  (R (Ending.returned (Value.int .i64 0)) w12))
  (R (Ending.returned (Value.int .i64 0)) w12))))))
  (∃ b645, World.cell? w12 (Addr.add ⟨Array.size (World.heap w), 0, none⟩ 3) = some (Value.bool b645) ∧
  V.sel b645
  (∃ s646, World.cell? w12 (Addr.add ⟨Array.size (World.heap w), 0, none⟩ 1) = some (Value.string s646) ∧
  Calls Tryz.prog 27 #[(Value.string s646)] w12 fun e648 w649 =>
  ∃ b647, e648 = Ending.returned (Value.bool b647) ∧
  V.sel (!b647)
  (V.sel (!b647)
  (R (Ending.returned (Value.int .i64 32)) w649)
  (∃ b650, World.cell? w649 (Addr.add ⟨Array.size (World.heap w), 0, none⟩ 3) = some (Value.bool b650) ∧
  V.sel (!(b650 == b10))
  (V.sel (!(b650 == b10))
  (R (Ending.returned (Value.int .i64 38)) w649)
  (R (Ending.returned (Value.int .i64 0)) w649))
  (∃ b651, World.cell? w649 (Addr.add ⟨Array.size (World.heap w), 0, none⟩ 3) = some (Value.bool b651) ∧
  V.sel b651
  (∃ s652, World.cell? w649 (Addr.add ⟨Array.size (World.heap w), 0, none⟩ 1) = some (Value.string s652) ∧
  V.sel (!(ByteArray.toList s652 == ByteArray.toList s9))
  (R (Ending.returned (Value.int .i64 38)) w649)
  (R (Ending.returned (Value.int .i64 0)) w649))
  (R (Ending.returned (Value.int .i64 0)) w649))))
  (∃ b653, World.cell? w649 (Addr.add ⟨Array.size (World.heap w), 0, none⟩ 4) = some (Value.bool b653) ∧
  V.sel b653
  (∃ s654, World.cell? w649 (Addr.add ⟨Array.size (World.heap w), 0, none⟩ 2) = some (Value.string s654) ∧
  Calls Tryz.prog 27 #[(Value.string s654)] w649 fun e656 w657 =>
  ∃ b655, e656 = Ending.returned (Value.bool b655) ∧
  V.sel (!b655)
  (R (Ending.returned (Value.int .i64 32)) w657)
  (∃ b658, World.cell? w657 (Addr.add ⟨Array.size (World.heap w), 0, none⟩ 3) = some (Value.bool b658) ∧
  V.sel (!(b658 == b10))
  (V.sel (!(b658 == b10))
  (R (Ending.returned (Value.int .i64 38)) w657)
  (R (Ending.returned (Value.int .i64 0)) w657))
  (∃ b659, World.cell? w657 (Addr.add ⟨Array.size (World.heap w), 0, none⟩ 3) = some (Value.bool b659) ∧
  V.sel b659
  (∃ s660, World.cell? w657 (Addr.add ⟨Array.size (World.heap w), 0, none⟩ 1) = some (Value.string s660) ∧
  V.sel (!(ByteArray.toList s660 == ByteArray.toList s9))
  (R (Ending.returned (Value.int .i64 38)) w657)
  (R (Ending.returned (Value.int .i64 0)) w657))
  (R (Ending.returned (Value.int .i64 0)) w657))))
  (∃ b661, World.cell? w649 (Addr.add ⟨Array.size (World.heap w), 0, none⟩ 3) = some (Value.bool b661) ∧
  V.sel (!(b661 == b10))
  (V.sel (!(b661 == b10))
  (R (Ending.returned (Value.int .i64 38)) w649)
  (R (Ending.returned (Value.int .i64 0)) w649))
  (∃ b662, World.cell? w649 (Addr.add ⟨Array.size (World.heap w), 0, none⟩ 3) = some (Value.bool b662) ∧
  V.sel b662
  (∃ s663, World.cell? w649 (Addr.add ⟨Array.size (World.heap w), 0, none⟩ 1) = some (Value.string s663) ∧
  V.sel (!(ByteArray.toList s663 == ByteArray.toList s9))
  (R (Ending.returned (Value.int .i64 38)) w649)
  (R (Ending.returned (Value.int .i64 0)) w649))
  (R (Ending.returned (Value.int .i64 0)) w649)))))
  (∃ b664, World.cell? w12 (Addr.add ⟨Array.size (World.heap w), 0, none⟩ 4) = some (Value.bool b664) ∧
  V.sel b664
  (∃ s665, World.cell? w12 (Addr.add ⟨Array.size (World.heap w), 0, none⟩ 2) = some (Value.string s665) ∧
  Calls Tryz.prog 27 #[(Value.string s665)] w12 fun e667 w668 =>
  ∃ b666, e667 = Ending.returned (Value.bool b666) ∧
  V.sel (!b666)
  (R (Ending.returned (Value.int .i64 32)) w668)
  (∃ b669, World.cell? w668 (Addr.add ⟨Array.size (World.heap w), 0, none⟩ 3) = some (Value.bool b669) ∧
  V.sel (!(b669 == b10))
  (V.sel (!(b669 == b10))
  (R (Ending.returned (Value.int .i64 38)) w668)
  (R (Ending.returned (Value.int .i64 0)) w668))
  (∃ b670, World.cell? w668 (Addr.add ⟨Array.size (World.heap w), 0, none⟩ 3) = some (Value.bool b670) ∧
  V.sel b670
  (∃ s671, World.cell? w668 (Addr.add ⟨Array.size (World.heap w), 0, none⟩ 1) = some (Value.string s671) ∧
  V.sel (!(ByteArray.toList s671 == ByteArray.toList s9))
  (R (Ending.returned (Value.int .i64 38)) w668)
  (R (Ending.returned (Value.int .i64 0)) w668))
  (R (Ending.returned (Value.int .i64 0)) w668))))
  (∃ b672, World.cell? w12 (Addr.add ⟨Array.size (World.heap w), 0, none⟩ 3) = some (Value.bool b672) ∧
  V.sel (!(b672 == b10))
  (V.sel (!(b672 == b10))
  (R (Ending.returned (Value.int .i64 38)) w12)
  (R (Ending.returned (Value.int .i64 0)) w12))
  (∃ b673, World.cell? w12 (Addr.add ⟨Array.size (World.heap w), 0, none⟩ 3) = some (Value.bool b673) ∧
  V.sel b673
  (∃ s674, World.cell? w12 (Addr.add ⟨Array.size (World.heap w), 0, none⟩ 1) = some (Value.string s674) ∧
  V.sel (!(ByteArray.toList s674 == ByteArray.toList s9))
  (R (Ending.returned (Value.int .i64 38)) w12)
  (R (Ending.returned (Value.int .i64 0)) w12))
  (R (Ending.returned (Value.int .i64 0)) w12)))))))
  (∃ b675, World.cell? w12 (Addr.add ⟨Array.size (World.heap w), 0, none⟩ 3) = some (Value.bool b675) ∧
  V.sel b675
  (∃ b676, World.cell? w12 (Addr.add ⟨Array.size (World.heap w), 0, none⟩ 4) = some (Value.bool b676) ∧
  V.sel b676
  (∃ s677, World.cell? w12 (Addr.add ⟨Array.size (World.heap w), 0, none⟩ 1) = some (Value.string s677) ∧
  ∃ s678, World.cell? w12 (Addr.add ⟨Array.size (World.heap w), 0, none⟩ 2) = some (Value.string s678) ∧
  V.sel (ByteArray.toList s677 == ByteArray.toList s678)
  (R (Ending.returned (Value.int .i64 37)) w12)
  (∃ b679, World.cell? w12 (Addr.add ⟨Array.size (World.heap w), 0, none⟩ 3) = some (Value.bool b679) ∧
  V.sel b679
  (∃ s680, World.cell? w12 (Addr.add ⟨Array.size (World.heap w), 0, none⟩ 1) = some (Value.string s680) ∧
  Calls Tryz.prog 27 #[(Value.string s680)] w12 fun e682 w683 =>
  ∃ b681, e682 = Ending.returned (Value.bool b681) ∧
  V.sel (!b681)
  (V.sel (!b681)
  (R (Ending.returned (Value.int .i64 32)) w683)
  (∃ b684, World.cell? w683 (Addr.add ⟨Array.size (World.heap w), 0, none⟩ 3) = some (Value.bool b684) ∧
  V.sel (!(b684 == b10))
  (V.sel (!(b684 == b10))
  (R (Ending.returned (Value.int .i64 38)) w683)
  (R (Ending.returned (Value.int .i64 0)) w683))
  (∃ b685, World.cell? w683 (Addr.add ⟨Array.size (World.heap w), 0, none⟩ 3) = some (Value.bool b685) ∧
  V.sel b685
  (∃ s686, World.cell? w683 (Addr.add ⟨Array.size (World.heap w), 0, none⟩ 1) = some (Value.string s686) ∧
  V.sel (!(ByteArray.toList s686 == ByteArray.toList s9))
  (R (Ending.returned (Value.int .i64 38)) w683)
  (R (Ending.returned (Value.int .i64 0)) w683))
  (R (Ending.returned (Value.int .i64 0)) w683))))
  (∃ b687, World.cell? w683 (Addr.add ⟨Array.size (World.heap w), 0, none⟩ 4) = some (Value.bool b687) ∧
  V.sel b687
  (∃ s688, World.cell? w683 (Addr.add ⟨Array.size (World.heap w), 0, none⟩ 2) = some (Value.string s688) ∧
  Calls Tryz.prog 27 #[(Value.string s688)] w683 fun e690 w691 =>
  ∃ b689, e690 = Ending.returned (Value.bool b689) ∧
  V.sel (!b689)
  (R (Ending.returned (Value.int .i64 32)) w691)
  (∃ b692, World.cell? w691 (Addr.add ⟨Array.size (World.heap w), 0, none⟩ 3) = some (Value.bool b692) ∧
  V.sel (!(b692 == b10))
  (V.sel (!(b692 == b10))
  (R (Ending.returned (Value.int .i64 38)) w691)
  (R (Ending.returned (Value.int .i64 0)) w691))
  (∃ b693, World.cell? w691 (Addr.add ⟨Array.size (World.heap w), 0, none⟩ 3) = some (Value.bool b693) ∧
  V.sel b693
  (∃ s694, World.cell? w691 (Addr.add ⟨Array.size (World.heap w), 0, none⟩ 1) = some (Value.string s694) ∧
  V.sel (!(ByteArray.toList s694 == ByteArray.toList s9))
  (R (Ending.returned (Value.int .i64 38)) w691)
  (R (Ending.returned (Value.int .i64 0)) w691))
  (R (Ending.returned (Value.int .i64 0)) w691))))
  (∃ b695, World.cell? w683 (Addr.add ⟨Array.size (World.heap w), 0, none⟩ 3) = some (Value.bool b695) ∧
  V.sel (!(b695 == b10))
  (V.sel (!(b695 == b10))
  (R (Ending.returned (Value.int .i64 38)) w683)
  (R (Ending.returned (Value.int .i64 0)) w683))
  (∃ b696, World.cell? w683 (Addr.add ⟨Array.size (World.heap w), 0, none⟩ 3) = some (Value.bool b696) ∧
  V.sel b696
  (∃ s697, World.cell? w683 (Addr.add ⟨Array.size (World.heap w), 0, none⟩ 1) = some (Value.string s697) ∧
  V.sel (!(ByteArray.toList s697 == ByteArray.toList s9))
  (R (Ending.returned (Value.int .i64 38)) w683)
  (R (Ending.returned (Value.int .i64 0)) w683))
  (R (Ending.returned (Value.int .i64 0)) w683)))))
  (∃ b698, World.cell? w12 (Addr.add ⟨Array.size (World.heap w), 0, none⟩ 4) = some (Value.bool b698) ∧
  V.sel b698
  (∃ s699, World.cell? w12 (Addr.add ⟨Array.size (World.heap w), 0, none⟩ 2) = some (Value.string s699) ∧
  Calls Tryz.prog 27 #[(Value.string s699)] w12 fun e701 w702 =>
  ∃ b700, e701 = Ending.returned (Value.bool b700) ∧
  V.sel (!b700)
  (R (Ending.returned (Value.int .i64 32)) w702)
  (∃ b703, World.cell? w702 (Addr.add ⟨Array.size (World.heap w), 0, none⟩ 3) = some (Value.bool b703) ∧
  V.sel (!(b703 == b10))
  (V.sel (!(b703 == b10))
  (R (Ending.returned (Value.int .i64 38)) w702)
  (R (Ending.returned (Value.int .i64 0)) w702))
  (∃ b704, World.cell? w702 (Addr.add ⟨Array.size (World.heap w), 0, none⟩ 3) = some (Value.bool b704) ∧
  V.sel b704
  (∃ s705, World.cell? w702 (Addr.add ⟨Array.size (World.heap w), 0, none⟩ 1) = some (Value.string s705) ∧
  V.sel (!(ByteArray.toList s705 == ByteArray.toList s9))
  (R (Ending.returned (Value.int .i64 38)) w702)
  (R (Ending.returned (Value.int .i64 0)) w702))
  (R (Ending.returned (Value.int .i64 0)) w702))))
  (∃ b706, World.cell? w12 (Addr.add ⟨Array.size (World.heap w), 0, none⟩ 3) = some (Value.bool b706) ∧
  V.sel (!(b706 == b10))
  (V.sel (!(b706 == b10))
  (R (Ending.returned (Value.int .i64 38)) w12)
  (R (Ending.returned (Value.int .i64 0)) w12))
  (∃ b707, World.cell? w12 (Addr.add ⟨Array.size (World.heap w), 0, none⟩ 3) = some (Value.bool b707) ∧
  V.sel b707
  (∃ s708, World.cell? w12 (Addr.add ⟨Array.size (World.heap w), 0, none⟩ 1) = some (Value.string s708) ∧
  V.sel (!(ByteArray.toList s708 == ByteArray.toList s9))
  (R (Ending.returned (Value.int .i64 38)) w12)
  (R (Ending.returned (Value.int .i64 0)) w12))
  (R (Ending.returned (Value.int .i64 0)) w12))))))
  (∃ b709, World.cell? w12 (Addr.add ⟨Array.size (World.heap w), 0, none⟩ 3) = some (Value.bool b709) ∧
  V.sel b709
  (∃ s710, World.cell? w12 (Addr.add ⟨Array.size (World.heap w), 0, none⟩ 1) = some (Value.string s710) ∧
  Calls Tryz.prog 27 #[(Value.string s710)] w12 fun e712 w713 =>
  ∃ b711, e712 = Ending.returned (Value.bool b711) ∧
  V.sel (!b711)
  (V.sel (!b711)
  (R (Ending.returned (Value.int .i64 32)) w713)
  (∃ b714, World.cell? w713 (Addr.add ⟨Array.size (World.heap w), 0, none⟩ 3) = some (Value.bool b714) ∧
  V.sel (!(b714 == b10))
  (V.sel (!(b714 == b10))
  (R (Ending.returned (Value.int .i64 38)) w713)
  (R (Ending.returned (Value.int .i64 0)) w713))
  (∃ b715, World.cell? w713 (Addr.add ⟨Array.size (World.heap w), 0, none⟩ 3) = some (Value.bool b715) ∧
  V.sel b715
  (∃ s716, World.cell? w713 (Addr.add ⟨Array.size (World.heap w), 0, none⟩ 1) = some (Value.string s716) ∧
  V.sel (!(ByteArray.toList s716 == ByteArray.toList s9))
  (R (Ending.returned (Value.int .i64 38)) w713)
  (R (Ending.returned (Value.int .i64 0)) w713))
  (R (Ending.returned (Value.int .i64 0)) w713))))
  (∃ b717, World.cell? w713 (Addr.add ⟨Array.size (World.heap w), 0, none⟩ 4) = some (Value.bool b717) ∧
  V.sel b717
  (∃ s718, World.cell? w713 (Addr.add ⟨Array.size (World.heap w), 0, none⟩ 2) = some (Value.string s718) ∧
  Calls Tryz.prog 27 #[(Value.string s718)] w713 fun e720 w721 =>
  ∃ b719, e720 = Ending.returned (Value.bool b719) ∧
  V.sel (!b719)
  (R (Ending.returned (Value.int .i64 32)) w721)
  (∃ b722, World.cell? w721 (Addr.add ⟨Array.size (World.heap w), 0, none⟩ 3) = some (Value.bool b722) ∧
  V.sel (!(b722 == b10))
  (V.sel (!(b722 == b10))
  (R (Ending.returned (Value.int .i64 38)) w721)
  (R (Ending.returned (Value.int .i64 0)) w721))
  (∃ b723, World.cell? w721 (Addr.add ⟨Array.size (World.heap w), 0, none⟩ 3) = some (Value.bool b723) ∧
  V.sel b723
  (∃ s724, World.cell? w721 (Addr.add ⟨Array.size (World.heap w), 0, none⟩ 1) = some (Value.string s724) ∧
  V.sel (!(ByteArray.toList s724 == ByteArray.toList s9))
  (R (Ending.returned (Value.int .i64 38)) w721)
  (R (Ending.returned (Value.int .i64 0)) w721))
  (R (Ending.returned (Value.int .i64 0)) w721))))
  (∃ b725, World.cell? w713 (Addr.add ⟨Array.size (World.heap w), 0, none⟩ 3) = some (Value.bool b725) ∧
  V.sel (!(b725 == b10))
  (V.sel (!(b725 == b10))
  (R (Ending.returned (Value.int .i64 38)) w713)
  (R (Ending.returned (Value.int .i64 0)) w713))
  (∃ b726, World.cell? w713 (Addr.add ⟨Array.size (World.heap w), 0, none⟩ 3) = some (Value.bool b726) ∧
  V.sel b726
  (∃ s727, World.cell? w713 (Addr.add ⟨Array.size (World.heap w), 0, none⟩ 1) = some (Value.string s727) ∧
  V.sel (!(ByteArray.toList s727 == ByteArray.toList s9))
  (R (Ending.returned (Value.int .i64 38)) w713)
  (R (Ending.returned (Value.int .i64 0)) w713))
  (R (Ending.returned (Value.int .i64 0)) w713)))))
  (∃ b728, World.cell? w12 (Addr.add ⟨Array.size (World.heap w), 0, none⟩ 4) = some (Value.bool b728) ∧
  V.sel b728
  (∃ s729, World.cell? w12 (Addr.add ⟨Array.size (World.heap w), 0, none⟩ 2) = some (Value.string s729) ∧
  Calls Tryz.prog 27 #[(Value.string s729)] w12 fun e731 w732 =>
  ∃ b730, e731 = Ending.returned (Value.bool b730) ∧
  V.sel (!b730)
  (R (Ending.returned (Value.int .i64 32)) w732)
  (∃ b733, World.cell? w732 (Addr.add ⟨Array.size (World.heap w), 0, none⟩ 3) = some (Value.bool b733) ∧
  V.sel (!(b733 == b10))
  (V.sel (!(b733 == b10))
  (R (Ending.returned (Value.int .i64 38)) w732)
  (R (Ending.returned (Value.int .i64 0)) w732))
  (∃ b734, World.cell? w732 (Addr.add ⟨Array.size (World.heap w), 0, none⟩ 3) = some (Value.bool b734) ∧
  V.sel b734
  (∃ s735, World.cell? w732 (Addr.add ⟨Array.size (World.heap w), 0, none⟩ 1) = some (Value.string s735) ∧
  V.sel (!(ByteArray.toList s735 == ByteArray.toList s9))
  (R (Ending.returned (Value.int .i64 38)) w732)
  (R (Ending.returned (Value.int .i64 0)) w732))
  (R (Ending.returned (Value.int .i64 0)) w732))))
  (∃ b736, World.cell? w12 (Addr.add ⟨Array.size (World.heap w), 0, none⟩ 3) = some (Value.bool b736) ∧
  V.sel (!(b736 == b10))
  (V.sel (!(b736 == b10))
  (R (Ending.returned (Value.int .i64 38)) w12)
  (R (Ending.returned (Value.int .i64 0)) w12))
  (∃ b737, World.cell? w12 (Addr.add ⟨Array.size (World.heap w), 0, none⟩ 3) = some (Value.bool b737) ∧
  V.sel b737
  (∃ s738, World.cell? w12 (Addr.add ⟨Array.size (World.heap w), 0, none⟩ 1) = some (Value.string s738) ∧
  V.sel (!(ByteArray.toList s738 == ByteArray.toList s9))
  (R (Ending.returned (Value.int .i64 38)) w12)
  (R (Ending.returned (Value.int .i64 0)) w12))
  (R (Ending.returned (Value.int .i64 0)) w12))))))
  (∃ b739, World.cell? w12 (Addr.add ⟨Array.size (World.heap w), 0, none⟩ 3) = some (Value.bool b739) ∧
  V.sel b739
  (∃ s740, World.cell? w12 (Addr.add ⟨Array.size (World.heap w), 0, none⟩ 1) = some (Value.string s740) ∧
  Calls Tryz.prog 27 #[(Value.string s740)] w12 fun e742 w743 =>
  ∃ b741, e742 = Ending.returned (Value.bool b741) ∧
  V.sel (!b741)
  (V.sel (!b741)
  (R (Ending.returned (Value.int .i64 32)) w743)
  (∃ b744, World.cell? w743 (Addr.add ⟨Array.size (World.heap w), 0, none⟩ 3) = some (Value.bool b744) ∧
  V.sel (!(b744 == b10))
  (V.sel (!(b744 == b10))
  (R (Ending.returned (Value.int .i64 38)) w743)
  (R (Ending.returned (Value.int .i64 0)) w743))
  (∃ b745, World.cell? w743 (Addr.add ⟨Array.size (World.heap w), 0, none⟩ 3) = some (Value.bool b745) ∧
  V.sel b745
  (∃ s746, World.cell? w743 (Addr.add ⟨Array.size (World.heap w), 0, none⟩ 1) = some (Value.string s746) ∧
  V.sel (!(ByteArray.toList s746 == ByteArray.toList s9))
  (R (Ending.returned (Value.int .i64 38)) w743)
  (R (Ending.returned (Value.int .i64 0)) w743))
  (R (Ending.returned (Value.int .i64 0)) w743))))
  (∃ b747, World.cell? w743 (Addr.add ⟨Array.size (World.heap w), 0, none⟩ 4) = some (Value.bool b747) ∧
  V.sel b747
  (∃ s748, World.cell? w743 (Addr.add ⟨Array.size (World.heap w), 0, none⟩ 2) = some (Value.string s748) ∧
  Calls Tryz.prog 27 #[(Value.string s748)] w743 fun e750 w751 =>
  ∃ b749, e750 = Ending.returned (Value.bool b749) ∧
  V.sel (!b749)
  (R (Ending.returned (Value.int .i64 32)) w751)
  (∃ b752, World.cell? w751 (Addr.add ⟨Array.size (World.heap w), 0, none⟩ 3) = some (Value.bool b752) ∧
  V.sel (!(b752 == b10))
  (V.sel (!(b752 == b10))
  (R (Ending.returned (Value.int .i64 38)) w751)
  (R (Ending.returned (Value.int .i64 0)) w751))
  (∃ b753, World.cell? w751 (Addr.add ⟨Array.size (World.heap w), 0, none⟩ 3) = some (Value.bool b753) ∧
  V.sel b753
  (∃ s754, World.cell? w751 (Addr.add ⟨Array.size (World.heap w), 0, none⟩ 1) = some (Value.string s754) ∧
  V.sel (!(ByteArray.toList s754 == ByteArray.toList s9))
  (R (Ending.returned (Value.int .i64 38)) w751)
  (R (Ending.returned (Value.int .i64 0)) w751))
  (R (Ending.returned (Value.int .i64 0)) w751))))
  (∃ b755, World.cell? w743 (Addr.add ⟨Array.size (World.heap w), 0, none⟩ 3) = some (Value.bool b755) ∧
  V.sel (!(b755 == b10))
  (V.sel (!(b755 == b10))
  (R (Ending.returned (Value.int .i64 38)) w743)
  (R (Ending.returned (Value.int .i64 0)) w743))
  (∃ b756, World.cell? w743 (Addr.add ⟨Array.size (World.heap w), 0, none⟩ 3) = some (Value.bool b756) ∧
  V.sel b756
  (∃ s757, World.cell? w743 (Addr.add ⟨Array.size (World.heap w), 0, none⟩ 1) = some (Value.string s757) ∧
  V.sel (!(ByteArray.toList s757 == ByteArray.toList s9))
  (R (Ending.returned (Value.int .i64 38)) w743)
  (R (Ending.returned (Value.int .i64 0)) w743))
  (R (Ending.returned (Value.int .i64 0)) w743)))))
  (∃ b758, World.cell? w12 (Addr.add ⟨Array.size (World.heap w), 0, none⟩ 4) = some (Value.bool b758) ∧
  V.sel b758
  (∃ s759, World.cell? w12 (Addr.add ⟨Array.size (World.heap w), 0, none⟩ 2) = some (Value.string s759) ∧
  Calls Tryz.prog 27 #[(Value.string s759)] w12 fun e761 w762 =>
  ∃ b760, e761 = Ending.returned (Value.bool b760) ∧
  V.sel (!b760)
  (R (Ending.returned (Value.int .i64 32)) w762)
  (∃ b763, World.cell? w762 (Addr.add ⟨Array.size (World.heap w), 0, none⟩ 3) = some (Value.bool b763) ∧
  V.sel (!(b763 == b10))
  (V.sel (!(b763 == b10))
  (R (Ending.returned (Value.int .i64 38)) w762)
  (R (Ending.returned (Value.int .i64 0)) w762))
  (∃ b764, World.cell? w762 (Addr.add ⟨Array.size (World.heap w), 0, none⟩ 3) = some (Value.bool b764) ∧
  V.sel b764
  (∃ s765, World.cell? w762 (Addr.add ⟨Array.size (World.heap w), 0, none⟩ 1) = some (Value.string s765) ∧
  V.sel (!(ByteArray.toList s765 == ByteArray.toList s9))
  (R (Ending.returned (Value.int .i64 38)) w762)
  (R (Ending.returned (Value.int .i64 0)) w762))
  (R (Ending.returned (Value.int .i64 0)) w762))))
  (∃ b766, World.cell? w12 (Addr.add ⟨Array.size (World.heap w), 0, none⟩ 3) = some (Value.bool b766) ∧
  V.sel (!(b766 == b10))
  (V.sel (!(b766 == b10))
  (R (Ending.returned (Value.int .i64 38)) w12)
  (R (Ending.returned (Value.int .i64 0)) w12))
  (∃ b767, World.cell? w12 (Addr.add ⟨Array.size (World.heap w), 0, none⟩ 3) = some (Value.bool b767) ∧
  V.sel b767
  (∃ s768, World.cell? w12 (Addr.add ⟨Array.size (World.heap w), 0, none⟩ 1) = some (Value.string s768) ∧
  V.sel (!(ByteArray.toList s768 == ByteArray.toList s9))
  (R (Ending.returned (Value.int .i64 38)) w12)
  (R (Ending.returned (Value.int .i64 0)) w12))
  (R (Ending.returned (Value.int .i64 0)) w12))))))))
  (∃ b769, World.cell? w12 (Addr.add ⟨Array.size (World.heap w), 0, none⟩ 4) = some (Value.bool b769) ∧
  V.sel (!b769)
  (∃ s770, World.cell? w12 (Addr.add ⟨Array.size (World.heap w), 0, none⟩ 2) = some (Value.string s770) ∧
  V.sel (!(ByteArray.toList s770 == ByteArray.toList ByteArray.empty))
  (V.sel (!(ByteArray.toList s770 == ByteArray.toList ByteArray.empty))
  (R (Ending.returned (Value.int .i64 37)) w12)
  (∃ b771, World.cell? w12 (Addr.add ⟨Array.size (World.heap w), 0, none⟩ 3) = some (Value.bool b771) ∧
  V.sel b771
  (∃ s772, World.cell? w12 (Addr.add ⟨Array.size (World.heap w), 0, none⟩ 1) = some (Value.string s772) ∧
  Calls Tryz.prog 27 #[(Value.string s772)] w12 fun e774 w775 =>
  ∃ b773, e774 = Ending.returned (Value.bool b773) ∧
  V.sel (!b773)
  (V.sel (!b773)
  (R (Ending.returned (Value.int .i64 32)) w775)
  (∃ b776, World.cell? w775 (Addr.add ⟨Array.size (World.heap w), 0, none⟩ 3) = some (Value.bool b776) ∧
  V.sel (!(b776 == b10))
  (V.sel (!(b776 == b10))
  (R (Ending.returned (Value.int .i64 38)) w775)
  (R (Ending.returned (Value.int .i64 0)) w775))
  (∃ b777, World.cell? w775 (Addr.add ⟨Array.size (World.heap w), 0, none⟩ 3) = some (Value.bool b777) ∧
  V.sel b777
  (∃ s778, World.cell? w775 (Addr.add ⟨Array.size (World.heap w), 0, none⟩ 1) = some (Value.string s778) ∧
  V.sel (!(ByteArray.toList s778 == ByteArray.toList s9))
  (R (Ending.returned (Value.int .i64 38)) w775)
  (R (Ending.returned (Value.int .i64 0)) w775))
  (R (Ending.returned (Value.int .i64 0)) w775))))
  (∃ b779, World.cell? w775 (Addr.add ⟨Array.size (World.heap w), 0, none⟩ 4) = some (Value.bool b779) ∧
  V.sel b779
  (∃ s780, World.cell? w775 (Addr.add ⟨Array.size (World.heap w), 0, none⟩ 2) = some (Value.string s780) ∧
  Calls Tryz.prog 27 #[(Value.string s780)] w775 fun e782 w783 =>
  ∃ b781, e782 = Ending.returned (Value.bool b781) ∧
  V.sel (!b781)
  (R (Ending.returned (Value.int .i64 32)) w783)
  (∃ b784, World.cell? w783 (Addr.add ⟨Array.size (World.heap w), 0, none⟩ 3) = some (Value.bool b784) ∧
  V.sel (!(b784 == b10))
  (V.sel (!(b784 == b10))
  (R (Ending.returned (Value.int .i64 38)) w783)
  (R (Ending.returned (Value.int .i64 0)) w783))
  (∃ b785, World.cell? w783 (Addr.add ⟨Array.size (World.heap w), 0, none⟩ 3) = some (Value.bool b785) ∧
  V.sel b785
  (∃ s786, World.cell? w783 (Addr.add ⟨Array.size (World.heap w), 0, none⟩ 1) = some (Value.string s786) ∧
  V.sel (!(ByteArray.toList s786 == ByteArray.toList s9))
  (R (Ending.returned (Value.int .i64 38)) w783)
  (R (Ending.returned (Value.int .i64 0)) w783))
  (R (Ending.returned (Value.int .i64 0)) w783))))
  (∃ b787, World.cell? w775 (Addr.add ⟨Array.size (World.heap w), 0, none⟩ 3) = some (Value.bool b787) ∧
  V.sel (!(b787 == b10))
  (V.sel (!(b787 == b10))
  (R (Ending.returned (Value.int .i64 38)) w775)
  (R (Ending.returned (Value.int .i64 0)) w775))
  (∃ b788, World.cell? w775 (Addr.add ⟨Array.size (World.heap w), 0, none⟩ 3) = some (Value.bool b788) ∧
  V.sel b788
  (∃ s789, World.cell? w775 (Addr.add ⟨Array.size (World.heap w), 0, none⟩ 1) = some (Value.string s789) ∧
  V.sel (!(ByteArray.toList s789 == ByteArray.toList s9))
  (R (Ending.returned (Value.int .i64 38)) w775)
  (R (Ending.returned (Value.int .i64 0)) w775))
  (R (Ending.returned (Value.int .i64 0)) w775)))))
  (∃ b790, World.cell? w12 (Addr.add ⟨Array.size (World.heap w), 0, none⟩ 4) = some (Value.bool b790) ∧
  V.sel b790
  (∃ s791, World.cell? w12 (Addr.add ⟨Array.size (World.heap w), 0, none⟩ 2) = some (Value.string s791) ∧
  Calls Tryz.prog 27 #[(Value.string s791)] w12 fun e793 w794 =>
  ∃ b792, e793 = Ending.returned (Value.bool b792) ∧
  V.sel (!b792)
  (R (Ending.returned (Value.int .i64 32)) w794)
  (∃ b795, World.cell? w794 (Addr.add ⟨Array.size (World.heap w), 0, none⟩ 3) = some (Value.bool b795) ∧
  V.sel (!(b795 == b10))
  (V.sel (!(b795 == b10))
  (R (Ending.returned (Value.int .i64 38)) w794)
  (R (Ending.returned (Value.int .i64 0)) w794))
  (∃ b796, World.cell? w794 (Addr.add ⟨Array.size (World.heap w), 0, none⟩ 3) = some (Value.bool b796) ∧
  V.sel b796
  (∃ s797, World.cell? w794 (Addr.add ⟨Array.size (World.heap w), 0, none⟩ 1) = some (Value.string s797) ∧
  V.sel (!(ByteArray.toList s797 == ByteArray.toList s9))
  (R (Ending.returned (Value.int .i64 38)) w794)
  (R (Ending.returned (Value.int .i64 0)) w794))
  (R (Ending.returned (Value.int .i64 0)) w794))))
  (∃ b798, World.cell? w12 (Addr.add ⟨Array.size (World.heap w), 0, none⟩ 3) = some (Value.bool b798) ∧
  V.sel (!(b798 == b10))
  (V.sel (!(b798 == b10))
  (R (Ending.returned (Value.int .i64 38)) w12)
  (R (Ending.returned (Value.int .i64 0)) w12))
  (∃ b799, World.cell? w12 (Addr.add ⟨Array.size (World.heap w), 0, none⟩ 3) = some (Value.bool b799) ∧
  V.sel b799
  (∃ s800, World.cell? w12 (Addr.add ⟨Array.size (World.heap w), 0, none⟩ 1) = some (Value.string s800) ∧
  V.sel (!(ByteArray.toList s800 == ByteArray.toList s9))
  (R (Ending.returned (Value.int .i64 38)) w12)
  (R (Ending.returned (Value.int .i64 0)) w12))
  (R (Ending.returned (Value.int .i64 0)) w12))))))
  (∃ b801, World.cell? w12 (Addr.add ⟨Array.size (World.heap w), 0, none⟩ 3) = some (Value.bool b801) ∧
  V.sel b801
  (∃ b802, World.cell? w12 (Addr.add ⟨Array.size (World.heap w), 0, none⟩ 4) = some (Value.bool b802) ∧
  V.sel b802
  (∃ s803, World.cell? w12 (Addr.add ⟨Array.size (World.heap w), 0, none⟩ 1) = some (Value.string s803) ∧
  ∃ s804, World.cell? w12 (Addr.add ⟨Array.size (World.heap w), 0, none⟩ 2) = some (Value.string s804) ∧
  V.sel (ByteArray.toList s803 == ByteArray.toList s804)
  (R (Ending.returned (Value.int .i64 37)) w12)
  (∃ b805, World.cell? w12 (Addr.add ⟨Array.size (World.heap w), 0, none⟩ 3) = some (Value.bool b805) ∧
  V.sel b805
  (∃ s806, World.cell? w12 (Addr.add ⟨Array.size (World.heap w), 0, none⟩ 1) = some (Value.string s806) ∧
  Calls Tryz.prog 27 #[(Value.string s806)] w12 fun e808 w809 =>
  ∃ b807, e808 = Ending.returned (Value.bool b807) ∧
  V.sel (!b807)
  (V.sel (!b807)
  (R (Ending.returned (Value.int .i64 32)) w809)
  (∃ b810, World.cell? w809 (Addr.add ⟨Array.size (World.heap w), 0, none⟩ 3) = some (Value.bool b810) ∧
  V.sel (!(b810 == b10))
  (V.sel (!(b810 == b10))
  (R (Ending.returned (Value.int .i64 38)) w809)
  (R (Ending.returned (Value.int .i64 0)) w809))
  (∃ b811, World.cell? w809 (Addr.add ⟨Array.size (World.heap w), 0, none⟩ 3) = some (Value.bool b811) ∧
  V.sel b811
  (∃ s812, World.cell? w809 (Addr.add ⟨Array.size (World.heap w), 0, none⟩ 1) = some (Value.string s812) ∧
  V.sel (!(ByteArray.toList s812 == ByteArray.toList s9))
  (R (Ending.returned (Value.int .i64 38)) w809)
  (R (Ending.returned (Value.int .i64 0)) w809))
  (R (Ending.returned (Value.int .i64 0)) w809))))
  (∃ b813, World.cell? w809 (Addr.add ⟨Array.size (World.heap w), 0, none⟩ 4) = some (Value.bool b813) ∧
  V.sel b813
  (∃ s814, World.cell? w809 (Addr.add ⟨Array.size (World.heap w), 0, none⟩ 2) = some (Value.string s814) ∧
  Calls Tryz.prog 27 #[(Value.string s814)] w809 fun e816 w817 =>
  ∃ b815, e816 = Ending.returned (Value.bool b815) ∧
  V.sel (!b815)
  (R (Ending.returned (Value.int .i64 32)) w817)
  (∃ b818, World.cell? w817 (Addr.add ⟨Array.size (World.heap w), 0, none⟩ 3) = some (Value.bool b818) ∧
  V.sel (!(b818 == b10))
  (V.sel (!(b818 == b10))
  (R (Ending.returned (Value.int .i64 38)) w817)
  (R (Ending.returned (Value.int .i64 0)) w817))
  (∃ b819, World.cell? w817 (Addr.add ⟨Array.size (World.heap w), 0, none⟩ 3) = some (Value.bool b819) ∧
  V.sel b819
  (∃ s820, World.cell? w817 (Addr.add ⟨Array.size (World.heap w), 0, none⟩ 1) = some (Value.string s820) ∧
  V.sel (!(ByteArray.toList s820 == ByteArray.toList s9))
  (R (Ending.returned (Value.int .i64 38)) w817)
  (R (Ending.returned (Value.int .i64 0)) w817))
  (R (Ending.returned (Value.int .i64 0)) w817))))
  (∃ b821, World.cell? w809 (Addr.add ⟨Array.size (World.heap w), 0, none⟩ 3) = some (Value.bool b821) ∧
  V.sel (!(b821 == b10))
  (V.sel (!(b821 == b10))
  (R (Ending.returned (Value.int .i64 38)) w809)
  (R (Ending.returned (Value.int .i64 0)) w809))
  (∃ b822, World.cell? w809 (Addr.add ⟨Array.size (World.heap w), 0, none⟩ 3) = some (Value.bool b822) ∧
  V.sel b822
  (∃ s823, World.cell? w809 (Addr.add ⟨Array.size (World.heap w), 0, none⟩ 1) = some (Value.string s823) ∧
  V.sel (!(ByteArray.toList s823 == ByteArray.toList s9))
  (R (Ending.returned (Value.int .i64 38)) w809)
  (R (Ending.returned (Value.int .i64 0)) w809))
  (R (Ending.returned (Value.int .i64 0)) w809)))))
  (∃ b824, World.cell? w12 (Addr.add ⟨Array.size (World.heap w), 0, none⟩ 4) = some (Value.bool b824) ∧
  V.sel b824
  (∃ s825, World.cell? w12 (Addr.add ⟨Array.size (World.heap w), 0, none⟩ 2) = some (Value.string s825) ∧
  Calls Tryz.prog 27 #[(Value.string s825)] w12 fun e827 w828 =>
  ∃ b826, e827 = Ending.returned (Value.bool b826) ∧
  V.sel (!b826)
  (R (Ending.returned (Value.int .i64 32)) w828)
  (∃ b829, World.cell? w828 (Addr.add ⟨Array.size (World.heap w), 0, none⟩ 3) = some (Value.bool b829) ∧
  V.sel (!(b829 == b10))
  (V.sel (!(b829 == b10))
  (R (Ending.returned (Value.int .i64 38)) w828)
  (R (Ending.returned (Value.int .i64 0)) w828))
  (∃ b830, World.cell? w828 (Addr.add ⟨Array.size (World.heap w), 0, none⟩ 3) = some (Value.bool b830) ∧
  V.sel b830
  (∃ s831, World.cell? w828 (Addr.add ⟨Array.size (World.heap w), 0, none⟩ 1) = some (Value.string s831) ∧
  V.sel (!(ByteArray.toList s831 == ByteArray.toList s9))
  (R (Ending.returned (Value.int .i64 38)) w828)
  (R (Ending.returned (Value.int .i64 0)) w828))
  (R (Ending.returned (Value.int .i64 0)) w828))))
  (∃ b832, World.cell? w12 (Addr.add ⟨Array.size (World.heap w), 0, none⟩ 3) = some (Value.bool b832) ∧
  V.sel (!(b832 == b10))
  (V.sel (!(b832 == b10))
  (R (Ending.returned (Value.int .i64 38)) w12)
  (R (Ending.returned (Value.int .i64 0)) w12))
  (∃ b833, World.cell? w12 (Addr.add ⟨Array.size (World.heap w), 0, none⟩ 3) = some (Value.bool b833) ∧
  V.sel b833
  (∃ s834, World.cell? w12 (Addr.add ⟨Array.size (World.heap w), 0, none⟩ 1) = some (Value.string s834) ∧
  V.sel (!(ByteArray.toList s834 == ByteArray.toList s9))
  (R (Ending.returned (Value.int .i64 38)) w12)
  (R (Ending.returned (Value.int .i64 0)) w12))
  (R (Ending.returned (Value.int .i64 0)) w12))))))
  (∃ b835, World.cell? w12 (Addr.add ⟨Array.size (World.heap w), 0, none⟩ 3) = some (Value.bool b835) ∧
  V.sel b835
  (∃ s836, World.cell? w12 (Addr.add ⟨Array.size (World.heap w), 0, none⟩ 1) = some (Value.string s836) ∧
  Calls Tryz.prog 27 #[(Value.string s836)] w12 fun e838 w839 =>
  ∃ b837, e838 = Ending.returned (Value.bool b837) ∧
  V.sel (!b837)
  (V.sel (!b837)
  (R (Ending.returned (Value.int .i64 32)) w839)
  (∃ b840, World.cell? w839 (Addr.add ⟨Array.size (World.heap w), 0, none⟩ 3) = some (Value.bool b840) ∧
  V.sel (!(b840 == b10))
  (V.sel (!(b840 == b10))
  (R (Ending.returned (Value.int .i64 38)) w839)
  (R (Ending.returned (Value.int .i64 0)) w839))
  (∃ b841, World.cell? w839 (Addr.add ⟨Array.size (World.heap w), 0, none⟩ 3) = some (Value.bool b841) ∧
  V.sel b841
  (∃ s842, World.cell? w839 (Addr.add ⟨Array.size (World.heap w), 0, none⟩ 1) = some (Value.string s842) ∧
  V.sel (!(ByteArray.toList s842 == ByteArray.toList s9))
  (R (Ending.returned (Value.int .i64 38)) w839)
  (R (Ending.returned (Value.int .i64 0)) w839))
  (R (Ending.returned (Value.int .i64 0)) w839))))
  (∃ b843, World.cell? w839 (Addr.add ⟨Array.size (World.heap w), 0, none⟩ 4) = some (Value.bool b843) ∧
  V.sel b843
  (∃ s844, World.cell? w839 (Addr.add ⟨Array.size (World.heap w), 0, none⟩ 2) = some (Value.string s844) ∧
  Calls Tryz.prog 27 #[(Value.string s844)] w839 fun e846 w847 =>
  ∃ b845, e846 = Ending.returned (Value.bool b845) ∧
  V.sel (!b845)
  (R (Ending.returned (Value.int .i64 32)) w847)
  (∃ b848, World.cell? w847 (Addr.add ⟨Array.size (World.heap w), 0, none⟩ 3) = some (Value.bool b848) ∧
  V.sel (!(b848 == b10))
  (V.sel (!(b848 == b10))
  (R (Ending.returned (Value.int .i64 38)) w847)
  (R (Ending.returned (Value.int .i64 0)) w847))
  (∃ b849, World.cell? w847 (Addr.add ⟨Array.size (World.heap w), 0, none⟩ 3) = some (Value.bool b849) ∧
  V.sel b849
  (∃ s850, World.cell? w847 (Addr.add ⟨Array.size (World.heap w), 0, none⟩ 1) = some (Value.string s850) ∧
  V.sel (!(ByteArray.toList s850 == ByteArray.toList s9))
  (R (Ending.returned (Value.int .i64 38)) w847)
  (R (Ending.returned (Value.int .i64 0)) w847))
  (R (Ending.returned (Value.int .i64 0)) w847))))
  (∃ b851, World.cell? w839 (Addr.add ⟨Array.size (World.heap w), 0, none⟩ 3) = some (Value.bool b851) ∧
  V.sel (!(b851 == b10))
  (V.sel (!(b851 == b10))
  (R (Ending.returned (Value.int .i64 38)) w839)
  (R (Ending.returned (Value.int .i64 0)) w839))
  (∃ b852, World.cell? w839 (Addr.add ⟨Array.size (World.heap w), 0, none⟩ 3) = some (Value.bool b852) ∧
  V.sel b852
  (∃ s853, World.cell? w839 (Addr.add ⟨Array.size (World.heap w), 0, none⟩ 1) = some (Value.string s853) ∧
  V.sel (!(ByteArray.toList s853 == ByteArray.toList s9))
  (R (Ending.returned (Value.int .i64 38)) w839)
  (R (Ending.returned (Value.int .i64 0)) w839))
  (R (Ending.returned (Value.int .i64 0)) w839)))))
  (∃ b854, World.cell? w12 (Addr.add ⟨Array.size (World.heap w), 0, none⟩ 4) = some (Value.bool b854) ∧
  V.sel b854
  (∃ s855, World.cell? w12 (Addr.add ⟨Array.size (World.heap w), 0, none⟩ 2) = some (Value.string s855) ∧
  Calls Tryz.prog 27 #[(Value.string s855)] w12 fun e857 w858 =>
  ∃ b856, e857 = Ending.returned (Value.bool b856) ∧
  V.sel (!b856)
  (R (Ending.returned (Value.int .i64 32)) w858)
  (∃ b859, World.cell? w858 (Addr.add ⟨Array.size (World.heap w), 0, none⟩ 3) = some (Value.bool b859) ∧
  V.sel (!(b859 == b10))
  (V.sel (!(b859 == b10))
  (R (Ending.returned (Value.int .i64 38)) w858)
  (R (Ending.returned (Value.int .i64 0)) w858))
  (∃ b860, World.cell? w858 (Addr.add ⟨Array.size (World.heap w), 0, none⟩ 3) = some (Value.bool b860) ∧
  V.sel b860
  (∃ s861, World.cell? w858 (Addr.add ⟨Array.size (World.heap w), 0, none⟩ 1) = some (Value.string s861) ∧
  V.sel (!(ByteArray.toList s861 == ByteArray.toList s9))
  (R (Ending.returned (Value.int .i64 38)) w858)
  (R (Ending.returned (Value.int .i64 0)) w858))
  (R (Ending.returned (Value.int .i64 0)) w858))))
  (∃ b862, World.cell? w12 (Addr.add ⟨Array.size (World.heap w), 0, none⟩ 3) = some (Value.bool b862) ∧
  V.sel (!(b862 == b10))
  (V.sel (!(b862 == b10))
  (R (Ending.returned (Value.int .i64 38)) w12)
  (R (Ending.returned (Value.int .i64 0)) w12))
  (∃ b863, World.cell? w12 (Addr.add ⟨Array.size (World.heap w), 0, none⟩ 3) = some (Value.bool b863) ∧
  V.sel b863
  (∃ s864, World.cell? w12 (Addr.add ⟨Array.size (World.heap w), 0, none⟩ 1) = some (Value.string s864) ∧
  V.sel (!(ByteArray.toList s864 == ByteArray.toList s9))
  (R (Ending.returned (Value.int .i64 38)) w12)
  (R (Ending.returned (Value.int .i64 0)) w12))
  (R (Ending.returned (Value.int .i64 0)) w12))))))
  (∃ b865, World.cell? w12 (Addr.add ⟨Array.size (World.heap w), 0, none⟩ 3) = some (Value.bool b865) ∧
  V.sel b865
  (∃ s866, World.cell? w12 (Addr.add ⟨Array.size (World.heap w), 0, none⟩ 1) = some (Value.string s866) ∧
  Calls Tryz.prog 27 #[(Value.string s866)] w12 fun e868 w869 =>
  ∃ b867, e868 = Ending.returned (Value.bool b867) ∧
  V.sel (!b867)
  (V.sel (!b867)
  (R (Ending.returned (Value.int .i64 32)) w869)
  (∃ b870, World.cell? w869 (Addr.add ⟨Array.size (World.heap w), 0, none⟩ 3) = some (Value.bool b870) ∧
  V.sel (!(b870 == b10))
  (V.sel (!(b870 == b10))
  (R (Ending.returned (Value.int .i64 38)) w869)
  (R (Ending.returned (Value.int .i64 0)) w869))
  (∃ b871, World.cell? w869 (Addr.add ⟨Array.size (World.heap w), 0, none⟩ 3) = some (Value.bool b871) ∧
  V.sel b871
  (∃ s872, World.cell? w869 (Addr.add ⟨Array.size (World.heap w), 0, none⟩ 1) = some (Value.string s872) ∧
  V.sel (!(ByteArray.toList s872 == ByteArray.toList s9))
  (R (Ending.returned (Value.int .i64 38)) w869)
  (R (Ending.returned (Value.int .i64 0)) w869))
  (R (Ending.returned (Value.int .i64 0)) w869))))
  (∃ b873, World.cell? w869 (Addr.add ⟨Array.size (World.heap w), 0, none⟩ 4) = some (Value.bool b873) ∧
  V.sel b873
  (∃ s874, World.cell? w869 (Addr.add ⟨Array.size (World.heap w), 0, none⟩ 2) = some (Value.string s874) ∧
  Calls Tryz.prog 27 #[(Value.string s874)] w869 fun e876 w877 =>
  ∃ b875, e876 = Ending.returned (Value.bool b875) ∧
  V.sel (!b875)
  (R (Ending.returned (Value.int .i64 32)) w877)
  (∃ b878, World.cell? w877 (Addr.add ⟨Array.size (World.heap w), 0, none⟩ 3) = some (Value.bool b878) ∧
  V.sel (!(b878 == b10))
  (V.sel (!(b878 == b10))
  (R (Ending.returned (Value.int .i64 38)) w877)
  (R (Ending.returned (Value.int .i64 0)) w877))
  (∃ b879, World.cell? w877 (Addr.add ⟨Array.size (World.heap w), 0, none⟩ 3) = some (Value.bool b879) ∧
  V.sel b879
  (∃ s880, World.cell? w877 (Addr.add ⟨Array.size (World.heap w), 0, none⟩ 1) = some (Value.string s880) ∧
  V.sel (!(ByteArray.toList s880 == ByteArray.toList s9))
  (R (Ending.returned (Value.int .i64 38)) w877)
  (R (Ending.returned (Value.int .i64 0)) w877))
  (R (Ending.returned (Value.int .i64 0)) w877))))
  (∃ b881, World.cell? w869 (Addr.add ⟨Array.size (World.heap w), 0, none⟩ 3) = some (Value.bool b881) ∧
  V.sel (!(b881 == b10))
  (V.sel (!(b881 == b10))
  (R (Ending.returned (Value.int .i64 38)) w869)
  (R (Ending.returned (Value.int .i64 0)) w869))
  (∃ b882, World.cell? w869 (Addr.add ⟨Array.size (World.heap w), 0, none⟩ 3) = some (Value.bool b882) ∧
  V.sel b882
  (∃ s883, World.cell? w869 (Addr.add ⟨Array.size (World.heap w), 0, none⟩ 1) = some (Value.string s883) ∧
  V.sel (!(ByteArray.toList s883 == ByteArray.toList s9))
  (R (Ending.returned (Value.int .i64 38)) w869)
  (R (Ending.returned (Value.int .i64 0)) w869))
  (R (Ending.returned (Value.int .i64 0)) w869)))))
  (∃ b884, World.cell? w12 (Addr.add ⟨Array.size (World.heap w), 0, none⟩ 4) = some (Value.bool b884) ∧
  V.sel b884
  (∃ s885, World.cell? w12 (Addr.add ⟨Array.size (World.heap w), 0, none⟩ 2) = some (Value.string s885) ∧
  Calls Tryz.prog 27 #[(Value.string s885)] w12 fun e887 w888 =>
  ∃ b886, e887 = Ending.returned (Value.bool b886) ∧
  V.sel (!b886)
  (R (Ending.returned (Value.int .i64 32)) w888)
  (∃ b889, World.cell? w888 (Addr.add ⟨Array.size (World.heap w), 0, none⟩ 3) = some (Value.bool b889) ∧
  V.sel (!(b889 == b10))
  (V.sel (!(b889 == b10))
  (R (Ending.returned (Value.int .i64 38)) w888)
  (R (Ending.returned (Value.int .i64 0)) w888))
  (∃ b890, World.cell? w888 (Addr.add ⟨Array.size (World.heap w), 0, none⟩ 3) = some (Value.bool b890) ∧
  V.sel b890
  (∃ s891, World.cell? w888 (Addr.add ⟨Array.size (World.heap w), 0, none⟩ 1) = some (Value.string s891) ∧
  V.sel (!(ByteArray.toList s891 == ByteArray.toList s9))
  (R (Ending.returned (Value.int .i64 38)) w888)
  (R (Ending.returned (Value.int .i64 0)) w888))
  (R (Ending.returned (Value.int .i64 0)) w888))))
  (∃ b892, World.cell? w12 (Addr.add ⟨Array.size (World.heap w), 0, none⟩ 3) = some (Value.bool b892) ∧
  V.sel (!(b892 == b10))
  (V.sel (!(b892 == b10))
  (R (Ending.returned (Value.int .i64 38)) w12)
  (R (Ending.returned (Value.int .i64 0)) w12))
  (∃ b893, World.cell? w12 (Addr.add ⟨Array.size (World.heap w), 0, none⟩ 3) = some (Value.bool b893) ∧
  V.sel b893
  (∃ s894, World.cell? w12 (Addr.add ⟨Array.size (World.heap w), 0, none⟩ 1) = some (Value.string s894) ∧
  V.sel (!(ByteArray.toList s894 == ByteArray.toList s9))
  (R (Ending.returned (Value.int .i64 38)) w12)
  (R (Ending.returned (Value.int .i64 0)) w12))
  (R (Ending.returned (Value.int .i64 0)) w12)))))))
  (∃ b895, World.cell? w12 (Addr.add ⟨Array.size (World.heap w), 0, none⟩ 3) = some (Value.bool b895) ∧
  V.sel b895
  (∃ b896, World.cell? w12 (Addr.add ⟨Array.size (World.heap w), 0, none⟩ 4) = some (Value.bool b896) ∧
  V.sel b896
  (∃ s897, World.cell? w12 (Addr.add ⟨Array.size (World.heap w), 0, none⟩ 1) = some (Value.string s897) ∧
  ∃ s898, World.cell? w12 (Addr.add ⟨Array.size (World.heap w), 0, none⟩ 2) = some (Value.string s898) ∧
  V.sel (ByteArray.toList s897 == ByteArray.toList s898)
  (R (Ending.returned (Value.int .i64 37)) w12)
  (∃ b899, World.cell? w12 (Addr.add ⟨Array.size (World.heap w), 0, none⟩ 3) = some (Value.bool b899) ∧
  V.sel b899
  (∃ s900, World.cell? w12 (Addr.add ⟨Array.size (World.heap w), 0, none⟩ 1) = some (Value.string s900) ∧
  Calls Tryz.prog 27 #[(Value.string s900)] w12 fun e902 w903 =>
  ∃ b901, e902 = Ending.returned (Value.bool b901) ∧
  V.sel (!b901)
  (V.sel (!b901)
  (R (Ending.returned (Value.int .i64 32)) w903)
  (∃ b904, World.cell? w903 (Addr.add ⟨Array.size (World.heap w), 0, none⟩ 3) = some (Value.bool b904) ∧
  V.sel (!(b904 == b10))
  (V.sel (!(b904 == b10))
  (R (Ending.returned (Value.int .i64 38)) w903)
  (R (Ending.returned (Value.int .i64 0)) w903))
  (∃ b905, World.cell? w903 (Addr.add ⟨Array.size (World.heap w), 0, none⟩ 3) = some (Value.bool b905) ∧
  V.sel b905
  (∃ s906, World.cell? w903 (Addr.add ⟨Array.size (World.heap w), 0, none⟩ 1) = some (Value.string s906) ∧
  V.sel (!(ByteArray.toList s906 == ByteArray.toList s9))
  (R (Ending.returned (Value.int .i64 38)) w903)
  (R (Ending.returned (Value.int .i64 0)) w903))
  (R (Ending.returned (Value.int .i64 0)) w903))))
  (∃ b907, World.cell? w903 (Addr.add ⟨Array.size (World.heap w), 0, none⟩ 4) = some (Value.bool b907) ∧
  V.sel b907
  (∃ s908, World.cell? w903 (Addr.add ⟨Array.size (World.heap w), 0, none⟩ 2) = some (Value.string s908) ∧
  Calls Tryz.prog 27 #[(Value.string s908)] w903 fun e910 w911 =>
  ∃ b909, e910 = Ending.returned (Value.bool b909) ∧
  V.sel (!b909)
  (R (Ending.returned (Value.int .i64 32)) w911)
  (∃ b912, World.cell? w911 (Addr.add ⟨Array.size (World.heap w), 0, none⟩ 3) = some (Value.bool b912) ∧
  V.sel (!(b912 == b10))
  (V.sel (!(b912 == b10))
  (R (Ending.returned (Value.int .i64 38)) w911)
  (R (Ending.returned (Value.int .i64 0)) w911))
  (∃ b913, World.cell? w911 (Addr.add ⟨Array.size (World.heap w), 0, none⟩ 3) = some (Value.bool b913) ∧
  V.sel b913
  (∃ s914, World.cell? w911 (Addr.add ⟨Array.size (World.heap w), 0, none⟩ 1) = some (Value.string s914) ∧
  V.sel (!(ByteArray.toList s914 == ByteArray.toList s9))
  (R (Ending.returned (Value.int .i64 38)) w911)
  (R (Ending.returned (Value.int .i64 0)) w911))
  (R (Ending.returned (Value.int .i64 0)) w911))))
  (∃ b915, World.cell? w903 (Addr.add ⟨Array.size (World.heap w), 0, none⟩ 3) = some (Value.bool b915) ∧
  V.sel (!(b915 == b10))
  (V.sel (!(b915 == b10))
  (R (Ending.returned (Value.int .i64 38)) w903)
  (R (Ending.returned (Value.int .i64 0)) w903))
  (∃ b916, World.cell? w903 (Addr.add ⟨Array.size (World.heap w), 0, none⟩ 3) = some (Value.bool b916) ∧
  V.sel b916
  (∃ s917, World.cell? w903 (Addr.add ⟨Array.size (World.heap w), 0, none⟩ 1) = some (Value.string s917) ∧
  V.sel (!(ByteArray.toList s917 == ByteArray.toList s9))
  (R (Ending.returned (Value.int .i64 38)) w903)
  (R (Ending.returned (Value.int .i64 0)) w903))
  (R (Ending.returned (Value.int .i64 0)) w903)))))
  (∃ b918, World.cell? w12 (Addr.add ⟨Array.size (World.heap w), 0, none⟩ 4) = some (Value.bool b918) ∧
  V.sel b918
  (∃ s919, World.cell? w12 (Addr.add ⟨Array.size (World.heap w), 0, none⟩ 2) = some (Value.string s919) ∧
  Calls Tryz.prog 27 #[(Value.string s919)] w12 fun e921 w922 =>
  ∃ b920, e921 = Ending.returned (Value.bool b920) ∧
  V.sel (!b920)
  (R (Ending.returned (Value.int .i64 32)) w922)
  (∃ b923, World.cell? w922 (Addr.add ⟨Array.size (World.heap w), 0, none⟩ 3) = some (Value.bool b923) ∧
  V.sel (!(b923 == b10))
  (V.sel (!(b923 == b10))
  (R (Ending.returned (Value.int .i64 38)) w922)
  (R (Ending.returned (Value.int .i64 0)) w922))
  (∃ b924, World.cell? w922 (Addr.add ⟨Array.size (World.heap w), 0, none⟩ 3) = some (Value.bool b924) ∧
  V.sel b924
  (∃ s925, World.cell? w922 (Addr.add ⟨Array.size (World.heap w), 0, none⟩ 1) = some (Value.string s925) ∧
  V.sel (!(ByteArray.toList s925 == ByteArray.toList s9))
  (R (Ending.returned (Value.int .i64 38)) w922)
  (R (Ending.returned (Value.int .i64 0)) w922))
  (R (Ending.returned (Value.int .i64 0)) w922))))
  (∃ b926, World.cell? w12 (Addr.add ⟨Array.size (World.heap w), 0, none⟩ 3) = some (Value.bool b926) ∧
  V.sel (!(b926 == b10))
  (V.sel (!(b926 == b10))
  (R (Ending.returned (Value.int .i64 38)) w12)
  (R (Ending.returned (Value.int .i64 0)) w12))
  (∃ b927, World.cell? w12 (Addr.add ⟨Array.size (World.heap w), 0, none⟩ 3) = some (Value.bool b927) ∧
  V.sel b927
  (∃ s928, World.cell? w12 (Addr.add ⟨Array.size (World.heap w), 0, none⟩ 1) = some (Value.string s928) ∧
  V.sel (!(ByteArray.toList s928 == ByteArray.toList s9))
  (R (Ending.returned (Value.int .i64 38)) w12)
  (R (Ending.returned (Value.int .i64 0)) w12))
  (R (Ending.returned (Value.int .i64 0)) w12))))))
  (∃ b929, World.cell? w12 (Addr.add ⟨Array.size (World.heap w), 0, none⟩ 3) = some (Value.bool b929) ∧
  V.sel b929
  (∃ s930, World.cell? w12 (Addr.add ⟨Array.size (World.heap w), 0, none⟩ 1) = some (Value.string s930) ∧
  Calls Tryz.prog 27 #[(Value.string s930)] w12 fun e932 w933 =>
  ∃ b931, e932 = Ending.returned (Value.bool b931) ∧
  V.sel (!b931)
  (V.sel (!b931)
  (R (Ending.returned (Value.int .i64 32)) w933)
  (∃ b934, World.cell? w933 (Addr.add ⟨Array.size (World.heap w), 0, none⟩ 3) = some (Value.bool b934) ∧
  V.sel (!(b934 == b10))
  (V.sel (!(b934 == b10))
  (R (Ending.returned (Value.int .i64 38)) w933)
  (R (Ending.returned (Value.int .i64 0)) w933))
  (∃ b935, World.cell? w933 (Addr.add ⟨Array.size (World.heap w), 0, none⟩ 3) = some (Value.bool b935) ∧
  V.sel b935
  (∃ s936, World.cell? w933 (Addr.add ⟨Array.size (World.heap w), 0, none⟩ 1) = some (Value.string s936) ∧
  V.sel (!(ByteArray.toList s936 == ByteArray.toList s9))
  (R (Ending.returned (Value.int .i64 38)) w933)
  (R (Ending.returned (Value.int .i64 0)) w933))
  (R (Ending.returned (Value.int .i64 0)) w933))))
  (∃ b937, World.cell? w933 (Addr.add ⟨Array.size (World.heap w), 0, none⟩ 4) = some (Value.bool b937) ∧
  V.sel b937
  (∃ s938, World.cell? w933 (Addr.add ⟨Array.size (World.heap w), 0, none⟩ 2) = some (Value.string s938) ∧
  Calls Tryz.prog 27 #[(Value.string s938)] w933 fun e940 w941 =>
  ∃ b939, e940 = Ending.returned (Value.bool b939) ∧
  V.sel (!b939)
  (R (Ending.returned (Value.int .i64 32)) w941)
  (∃ b942, World.cell? w941 (Addr.add ⟨Array.size (World.heap w), 0, none⟩ 3) = some (Value.bool b942) ∧
  V.sel (!(b942 == b10))
  (V.sel (!(b942 == b10))
  (R (Ending.returned (Value.int .i64 38)) w941)
  (R (Ending.returned (Value.int .i64 0)) w941))
  (∃ b943, World.cell? w941 (Addr.add ⟨Array.size (World.heap w), 0, none⟩ 3) = some (Value.bool b943) ∧
  V.sel b943
  (∃ s944, World.cell? w941 (Addr.add ⟨Array.size (World.heap w), 0, none⟩ 1) = some (Value.string s944) ∧
  V.sel (!(ByteArray.toList s944 == ByteArray.toList s9))
  (R (Ending.returned (Value.int .i64 38)) w941)
  (R (Ending.returned (Value.int .i64 0)) w941))
  (R (Ending.returned (Value.int .i64 0)) w941))))
  (∃ b945, World.cell? w933 (Addr.add ⟨Array.size (World.heap w), 0, none⟩ 3) = some (Value.bool b945) ∧
  V.sel (!(b945 == b10))
  (V.sel (!(b945 == b10))
  (R (Ending.returned (Value.int .i64 38)) w933)
  (R (Ending.returned (Value.int .i64 0)) w933))
  (∃ b946, World.cell? w933 (Addr.add ⟨Array.size (World.heap w), 0, none⟩ 3) = some (Value.bool b946) ∧
  V.sel b946
  (∃ s947, World.cell? w933 (Addr.add ⟨Array.size (World.heap w), 0, none⟩ 1) = some (Value.string s947) ∧
  V.sel (!(ByteArray.toList s947 == ByteArray.toList s9))
  (R (Ending.returned (Value.int .i64 38)) w933)
  (R (Ending.returned (Value.int .i64 0)) w933))
  (R (Ending.returned (Value.int .i64 0)) w933)))))
  (∃ b948, World.cell? w12 (Addr.add ⟨Array.size (World.heap w), 0, none⟩ 4) = some (Value.bool b948) ∧
  V.sel b948
  (∃ s949, World.cell? w12 (Addr.add ⟨Array.size (World.heap w), 0, none⟩ 2) = some (Value.string s949) ∧
  Calls Tryz.prog 27 #[(Value.string s949)] w12 fun e951 w952 =>
  ∃ b950, e951 = Ending.returned (Value.bool b950) ∧
  V.sel (!b950)
  (R (Ending.returned (Value.int .i64 32)) w952)
  (∃ b953, World.cell? w952 (Addr.add ⟨Array.size (World.heap w), 0, none⟩ 3) = some (Value.bool b953) ∧
  V.sel (!(b953 == b10))
  (V.sel (!(b953 == b10))
  (R (Ending.returned (Value.int .i64 38)) w952)
  (R (Ending.returned (Value.int .i64 0)) w952))
  (∃ b954, World.cell? w952 (Addr.add ⟨Array.size (World.heap w), 0, none⟩ 3) = some (Value.bool b954) ∧
  V.sel b954
  (∃ s955, World.cell? w952 (Addr.add ⟨Array.size (World.heap w), 0, none⟩ 1) = some (Value.string s955) ∧
  V.sel (!(ByteArray.toList s955 == ByteArray.toList s9))
  (R (Ending.returned (Value.int .i64 38)) w952)
  (R (Ending.returned (Value.int .i64 0)) w952))
  (R (Ending.returned (Value.int .i64 0)) w952))))
  (∃ b956, World.cell? w12 (Addr.add ⟨Array.size (World.heap w), 0, none⟩ 3) = some (Value.bool b956) ∧
  V.sel (!(b956 == b10))
  (V.sel (!(b956 == b10))
  (R (Ending.returned (Value.int .i64 38)) w12)
  (R (Ending.returned (Value.int .i64 0)) w12))
  (∃ b957, World.cell? w12 (Addr.add ⟨Array.size (World.heap w), 0, none⟩ 3) = some (Value.bool b957) ∧
  V.sel b957
  (∃ s958, World.cell? w12 (Addr.add ⟨Array.size (World.heap w), 0, none⟩ 1) = some (Value.string s958) ∧
  V.sel (!(ByteArray.toList s958 == ByteArray.toList s9))
  (R (Ending.returned (Value.int .i64 38)) w12)
  (R (Ending.returned (Value.int .i64 0)) w12))
  (R (Ending.returned (Value.int .i64 0)) w12))))))
  (∃ b959, World.cell? w12 (Addr.add ⟨Array.size (World.heap w), 0, none⟩ 3) = some (Value.bool b959) ∧
  V.sel b959
  (∃ s960, World.cell? w12 (Addr.add ⟨Array.size (World.heap w), 0, none⟩ 1) = some (Value.string s960) ∧
  Calls Tryz.prog 27 #[(Value.string s960)] w12 fun e962 w963 =>
  ∃ b961, e962 = Ending.returned (Value.bool b961) ∧
  V.sel (!b961)
  (V.sel (!b961)
  (R (Ending.returned (Value.int .i64 32)) w963)
  (∃ b964, World.cell? w963 (Addr.add ⟨Array.size (World.heap w), 0, none⟩ 3) = some (Value.bool b964) ∧
  V.sel (!(b964 == b10))
  (V.sel (!(b964 == b10))
  (R (Ending.returned (Value.int .i64 38)) w963)
  (R (Ending.returned (Value.int .i64 0)) w963))
  (∃ b965, World.cell? w963 (Addr.add ⟨Array.size (World.heap w), 0, none⟩ 3) = some (Value.bool b965) ∧
  V.sel b965
  (∃ s966, World.cell? w963 (Addr.add ⟨Array.size (World.heap w), 0, none⟩ 1) = some (Value.string s966) ∧
  V.sel (!(ByteArray.toList s966 == ByteArray.toList s9))
  (R (Ending.returned (Value.int .i64 38)) w963)
  (R (Ending.returned (Value.int .i64 0)) w963))
  (R (Ending.returned (Value.int .i64 0)) w963))))
  (∃ b967, World.cell? w963 (Addr.add ⟨Array.size (World.heap w), 0, none⟩ 4) = some (Value.bool b967) ∧
  V.sel b967
  (∃ s968, World.cell? w963 (Addr.add ⟨Array.size (World.heap w), 0, none⟩ 2) = some (Value.string s968) ∧
  Calls Tryz.prog 27 #[(Value.string s968)] w963 fun e970 w971 =>
  ∃ b969, e970 = Ending.returned (Value.bool b969) ∧
  V.sel (!b969)
  (R (Ending.returned (Value.int .i64 32)) w971)
  (∃ b972, World.cell? w971 (Addr.add ⟨Array.size (World.heap w), 0, none⟩ 3) = some (Value.bool b972) ∧
  V.sel (!(b972 == b10))
  (V.sel (!(b972 == b10))
  (R (Ending.returned (Value.int .i64 38)) w971)
  (R (Ending.returned (Value.int .i64 0)) w971))
  (∃ b973, World.cell? w971 (Addr.add ⟨Array.size (World.heap w), 0, none⟩ 3) = some (Value.bool b973) ∧
  V.sel b973
  (∃ s974, World.cell? w971 (Addr.add ⟨Array.size (World.heap w), 0, none⟩ 1) = some (Value.string s974) ∧
  V.sel (!(ByteArray.toList s974 == ByteArray.toList s9))
  (R (Ending.returned (Value.int .i64 38)) w971)
  (R (Ending.returned (Value.int .i64 0)) w971))
  (R (Ending.returned (Value.int .i64 0)) w971))))
  (∃ b975, World.cell? w963 (Addr.add ⟨Array.size (World.heap w), 0, none⟩ 3) = some (Value.bool b975) ∧
  V.sel (!(b975 == b10))
  (V.sel (!(b975 == b10))
  (R (Ending.returned (Value.int .i64 38)) w963)
  (R (Ending.returned (Value.int .i64 0)) w963))
  (∃ b976, World.cell? w963 (Addr.add ⟨Array.size (World.heap w), 0, none⟩ 3) = some (Value.bool b976) ∧
  V.sel b976
  (∃ s977, World.cell? w963 (Addr.add ⟨Array.size (World.heap w), 0, none⟩ 1) = some (Value.string s977) ∧
  V.sel (!(ByteArray.toList s977 == ByteArray.toList s9))
  (R (Ending.returned (Value.int .i64 38)) w963)
  (R (Ending.returned (Value.int .i64 0)) w963))
  (R (Ending.returned (Value.int .i64 0)) w963)))))
  (∃ b978, World.cell? w12 (Addr.add ⟨Array.size (World.heap w), 0, none⟩ 4) = some (Value.bool b978) ∧
  V.sel b978
  (∃ s979, World.cell? w12 (Addr.add ⟨Array.size (World.heap w), 0, none⟩ 2) = some (Value.string s979) ∧
  Calls Tryz.prog 27 #[(Value.string s979)] w12 fun e981 w982 =>
  ∃ b980, e981 = Ending.returned (Value.bool b980) ∧
  V.sel (!b980)
  (R (Ending.returned (Value.int .i64 32)) w982)
  (∃ b983, World.cell? w982 (Addr.add ⟨Array.size (World.heap w), 0, none⟩ 3) = some (Value.bool b983) ∧
  V.sel (!(b983 == b10))
  (V.sel (!(b983 == b10))
  (R (Ending.returned (Value.int .i64 38)) w982)
  (R (Ending.returned (Value.int .i64 0)) w982))
  (∃ b984, World.cell? w982 (Addr.add ⟨Array.size (World.heap w), 0, none⟩ 3) = some (Value.bool b984) ∧
  V.sel b984
  (∃ s985, World.cell? w982 (Addr.add ⟨Array.size (World.heap w), 0, none⟩ 1) = some (Value.string s985) ∧
  V.sel (!(ByteArray.toList s985 == ByteArray.toList s9))
  (R (Ending.returned (Value.int .i64 38)) w982)
  (R (Ending.returned (Value.int .i64 0)) w982))
  (R (Ending.returned (Value.int .i64 0)) w982))))
  (∃ b986, World.cell? w12 (Addr.add ⟨Array.size (World.heap w), 0, none⟩ 3) = some (Value.bool b986) ∧
  V.sel (!(b986 == b10))
  (V.sel (!(b986 == b10))
  (R (Ending.returned (Value.int .i64 38)) w12)
  (R (Ending.returned (Value.int .i64 0)) w12))
  (∃ b987, World.cell? w12 (Addr.add ⟨Array.size (World.heap w), 0, none⟩ 3) = some (Value.bool b987) ∧
  V.sel b987
  (∃ s988, World.cell? w12 (Addr.add ⟨Array.size (World.heap w), 0, none⟩ 1) = some (Value.string s988) ∧
  V.sel (!(ByteArray.toList s988 == ByteArray.toList s9))
  (R (Ending.returned (Value.int .i64 38)) w12)
  (R (Ending.returned (Value.int .i64 0)) w12))
  (R (Ending.returned (Value.int .i64 0)) w12))))))))) :
  Calls Tryz.prog 53 #[(Value.slice list_1 list_1l list_1c), (Value.agg #[(Value.string d_2), (Value.string d_3), (Value.string d_4), (Value.bool d_5), (Value.bool d_6)])] w R :=
  V.calls_of_R ⟨V.assoc [], V.assocP [], V.assocC [], V.assocS [], ⟨[], true⟩⟩ Tryz.func53 rfl (Eq.mp (by kernel_rfl) h)

end Go.Proofs.YtcohengppaighaaGreatDoor
