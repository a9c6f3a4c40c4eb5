/- The nil table of names and slots; texts compared. -/
import Derived.Test.YtcampkaenlohbaaK5
set_option linter.unusedVariables false
set_option linter.unusedSimpArgs false
namespace Go.Proofs.Ytcampkaenlohbaa
open Go Go.V Go.B

theorem nil_look {name : ByteArray} {w : World} {R : Ending → World → Prop} (k : R (.returned (.tuple #[.int .i64 0, .int .i64 1])) w) : Calls Try.prog 30 #[.pointer none, .string name] w R := by
  apply slots_Table_int__look_nf
  exact sel_true rfl k
theorem nil_Put {name : ByteArray} {v : Int} {w : World} {R : Ending → World → Prop} (k : R (.returned (.tuple #[.int .i64 0, .int .i64 1])) w) : Calls Try.prog 11 #[.pointer none, .string name, .int .i64 v] w R := by
  apply slots_Table_int__Put_nf
  exact nil_look ⟨_, _, rfl, sel_false rfl (sel_true rfl k)⟩
theorem nil_Set {name : ByteArray} {v : Int} {w : World} {R : Ending → World → Prop} (k : R (.returned (.int .i64 1)) w) : Calls Try.prog 12 #[.pointer none, .string name, .int .i64 v] w R := by
  apply slots_Table_int__Set_nf
  exact nil_look ⟨_, _, rfl, sel_false rfl k⟩
theorem nil_Drop {name : ByteArray} {w : World} {R : Ending → World → Prop} (k : R (.returned (.tuple #[.int .i64 0, .int .i64 1])) w) : Calls Try.prog 13 #[.pointer none, .string name] w R := by
  apply slots_Table_int__Drop_nf
  exact nil_look ⟨_, _, rfl, sel_true rfl k⟩
theorem nil_Find {name : ByteArray} {w : World} {R : Ending → World → Prop} (k : R (.returned (.tuple #[.int .i64 0, .int .i64 0, .bool false])) w) : Calls Try.prog 15 #[.pointer none, .string name] w R := by
  apply slots_Table_int__Find_nf
  exact nil_look ⟨_, _, rfl, sel_true rfl k⟩
theorem nil_Len {w : World} {R : Ending → World → Prop} (k : R (.returned (.int .i64 0)) w) : Calls Try.prog 14 #[.pointer none] w R := by
  apply slots_Table_int__Len_nf
  exact sel_true rfl k
theorem nil_Span {w : World} {R : Ending → World → Prop} (k : R (.returned (.int .i64 0)) w) : Calls Try.prog 32 #[.pointer none] w R := by
  apply slots_Table_int__Span_nf
  exact sel_true rfl k
theorem nil_At {slot : Int} {w : World} {R : Ending → World → Prop} (k : R (.returned (.tuple #[.string ByteArray.empty, .int .i64 0, .bool false])) w) : Calls Try.prog 18 #[.pointer none, .int .i64 slot] w R := by
  apply slots_Table_int__At_nf
  exact sel_dec (fun _ => k) (fun h => nil_Span ⟨_, rfl, sel_dec (fun _ => k) (fun h2 => by omega)⟩)
theorem nil_All {w : World} {R : Ending → World → Prop} (k : ∀ b w', Ext [] w w' → w.heap.size ≤ b → BlkT w' b [.slice none 0 0] 77 → R (.returned (.func (.func 41) #[] #[.pointer (some ⟨b, 0, none⟩)])) w') : Calls Try.prog 22 #[.pointer none] w R := by
  apply slots_Table_int__All_nf
  intro w1 h1
  obtain ⟨b1, x1, z1⟩ := box_new (cs := [.slice none 0 0]) h1
  exact sel_false rfl (k _ w1 x1 (Nat.le_refl _) b1)
end Go.Proofs.Ytcampkaenlohbaa
