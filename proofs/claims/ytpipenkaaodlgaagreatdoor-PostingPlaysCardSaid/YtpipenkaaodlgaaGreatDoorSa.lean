/- Sets: the iterator over a set's members. -/
import Derived.Test.YtpipenkaaodlgaaGreatDoorS5
import Derived.Test.YtpipenkaaodlgaaGreatDoorRg
set_option linter.unusedVariables false
set_option linter.unusedSimpArgs false
namespace Go.Proofs.YtpipenkaaodlgaaGreatDoor
open Go Go.V Go.B

theorem cells_int {w : World} {A : Option Addr} {xs : List Int} (h : Cells w A (ints .i64 xs)) {j : Nat} {x : Int} (hx : xs[j]? = some x) : ∃ ad, A = some ad ∧ w.cell? (Addr.add ad (Int.toNat (j : Int) * 1)) = some (.int .i64 x) := by
  obtain ⟨ad, hA, hc⟩ := h j (.int .i64 x) (by simp [ints, hx])
  exact ⟨ad, hA, by rw [Int.toNat_natCast, Nat.mul_one]; exact hc⟩
theorem i25s : (Tryz.prog.info? 66).map (·.size) = some 1 := by kernel_rfl
theorem i3s : (Tryz.prog.info? 3).map (·.size) = some 1 := by kernel_rfl
theorem i4s : (Tryz.prog.info? 4).map (·.size) = some 1 := by kernel_rfl
theorem i30s : (Tryz.prog.info? 64).map (·.size) = some 1 := by kernel_rfl
/-- What an iterator goes over. -/
def Held (w : World) (b : Nat) (A : Option Addr) (n c : Nat) (xs : List Int) : Prop := BlkT w b [.slice A n c] 66 ∧ Cells w A (ints .i64 xs)
theorem Held.ext {F : List Nat} {w w' : World} {b n c : Nat} {A : Option Addr} {xs : List Int} (h : Held w b A n c xs) (e : Ext F w w') (hb : b ∉ F) (hA : ∀ g ∈ ownF A, g ∉ F) : Held w' b A n c xs := ⟨h.1.ext e hb, h.2.ext e hA⟩
theorem All_c {w : World} {q : Option Addr} {S : SetV} {f : List Nat} (h : RefAt w q S f) {R : Ending → World → Prop}
    (k : ∀ b A c w', Ext [] w w' → w.heap.size ≤ b → b < w'.heap.size → Held w' b A S.count c S.mi → (∀ g ∈ ownF A, w.heap.size ≤ g ∧ g < w'.heap.size) → R (.returned (.func (.func 62) #[] #[.pointer (some ⟨b, 0, none⟩)])) w') :
    Calls Tryz.prog 37 #[.pointer q] w R := by
  apply bitset_Set_All_nf
  refine Members_c h fun A c w4 e4 own4 => ⟨_, _, _, rfl, fun w5 h5 => ?_⟩
  obtain ⟨b5, x5, z5⟩ := box_new (cs := [.slice none 0 0]) h5
  obtain ⟨w6, hr6, b6, x6⟩ := store1 (P := Tryz.prog) (v := .slice A S.count c) i25s b5 (i := 0) (by simp) rfl rfl
  have hbase := own_base own4
  have s4 := e4.size
  have s6 := x6.size
  refine ⟨w6, hr6, k w4.heap.size A c w6 ((e4.trans x5).trans' x6 (fun b hb => .inr (by simp at hb; omega))) s4 (by omega) ⟨b6, ((own_cells own4).ext0 x5).ext x6 (fun g hg => by have := hbase g hg; simp; omega)⟩ (fun g hg => by have := hbase g hg; omega)⟩
theorem All_iter {b n c : Nat} {A : Option Addr} {xs : List Int} (hn : xs.length = n) (hb : n ≤ 65536) :
    Iter Tryz.prog (fun x : Int => [Value.int .i64 x]) 62 [.pointer (some ⟨b, 0, none⟩)] xs (fun w => Held w b A n c xs) := by
  intro yl w J Q R j0 st hK hy k1 k2
  apply bitset_Set_All_l1_nf
  refine ptr_in ⟨_, _, _, (hK _ _ j0).1.cell (i := 0) rfl, fun t w' => ∃ a : Nat, t = a ∧ a ≤ n ∧ J (xs.take a) w', fun t _ => n - t.toNat, ⟨0, rfl, by omega, j0⟩, ?_⟩
  rintro _ _ w1 ⟨a, rfl, ha, j1⟩
  refine sel_dec (fun hlt => ?_) (fun hge => ?_)
  · have hlt : a < n := by omega
    have hx : xs[a]? = some (xs[a]'(by omega)) := List.getElem?_eq_getElem (by omega)
    obtain ⟨ad, rfl, hc⟩ := cells_int (hK _ _ j1).2 hx
    refine when_dec ⟨by omega, by omega⟩ (ptr_in ⟨_, hc, hy (xs.take a) (xs[a]'(by omega)) (xs.drop (a + 1)) w1 ?_ j1 _ (fun w2 j2 => ⟨_, rfl, sel_false rfl ?_⟩) (fun w2 q2 => ⟨_, rfl, sel_true rfl (k2 w2 q2)⟩)⟩)
    · rw [← List.drop_eq_getElem_cons]
      exact (List.take_append_drop _ _).symm
    · rw [up64 a (by omega)]
      exact ⟨⟨a + 1, rfl, by omega, by rw [snoc_at hx]; exact j2⟩, by simp only [Int.toNat_natCast]; omega⟩
  · have : a = n := by omega
    subst this
    rw [List.take_of_length_le (by omega)] at j1
    exact k1 w1 j1
theorem split_lt {α : Type} {ys ps rest : List α} {y : α} (h : ys = ps ++ y :: rest) : ps.length < ys.length := by
  rw [h]; simp
theorem at_len {α : Type} {ys ps rest : List α} {y : α} (h : ys = ps ++ y :: rest) : ys[ps.length]? = some y := by
  rw [h]; simp
end Go.Proofs.YtpipenkaaodlgaaGreatDoor
