/- Labels: lists with spare room, what stands in it: the program's walks. -/
import Derived.Test.YtcohengppaighaaGreatDoorLb10
set_option linter.unusedVariables false
set_option linter.unusedSimpArgs false
namespace Go.B
open Go.V Go.RowKit
theorem own_make {α : Type} {L : Lay α} {w : World} {g N B : Nat} {bs : List Value} {e : TypeId} (hb : BlkT w g bs e) (hB : B ≤ g) (hm : N ≤ 140737488355328) (hs : bs.length = N * L.sz) : w.ownsRow B e L.sz (.slice (some ⟨g, 0, none⟩) 0 N) 0 [] :=
  own_of hb hB (Nat.zero_le _) (by simp only [maxLen]; omega) hs (by simp)
end Go.B
namespace Go.Proofs.YtcohengppaighaaGreatDoor
open Go Go.V Go.B

def spare : Lab := (unb [33], unb [115, 112, 97, 114, 101])
def spares : List Lab := List.replicate 80 spare
theorem spares_len : spares.length = 80 := List.length_replicate
theorem spare_at {l : List Lab} {i : Nat} (h1 : l.length ≤ i) (h2 : i < l.length + 80) : (l ++ spares)[i]? = some spare := by
  rw [List.getElem?_append_right h1]
  unfold spares
  rw [List.getElem?_replicate, if_pos (by omega)]
theorem flat_pre (l r : List Lab) {n : Nat} (h : l.length = n) : (LbL.flat (l ++ r)).take (n * 2) = LbL.flat l := by
  rw [LbL.flat_app]
  exact List.take_left' (by rw [LbL.flat_len, h]; rfl)
theorem Cells.pre {w : World} {A : Option Addr} {l r : List Lab} {n : Nat} (h : Cells w A (LbL.flat (l ++ r))) (hl : l.length = n) : Cells w A (LbL.flat l) := by
  rw [← flat_pre l r hl]
  exact h.take _
set_option maxRecDepth 8000 in
theorem roomy_c {w : World} {A : Option Addr} {n c : Nat} {l : List Lab} (h : LIn w A n l) {R : Ending → World → Prop}
    (k : ∀ w' A' c', Ext [] w w' → LOwn w' w.heap.size A' (n + 80) c' (l ++ spares) → R (.returned (.tuple #[.slice A' (n + 80) c', .slice A' n c'])) w') : Calls Tryz.prog 14 #[.slice A n c] w R := by
  apply berthlaw03_roomy_nf
  have hl := h.len
  have hbig := h.big
  have e1 : IntKind.wrap .i64 (((n : Nat) : Int) + 80) = ((n + 80 : Nat) : Int) := by rw [w64 (by omega) (by omega)]; omega
  refine when_dec ⟨by omega, by rw [e1]; omega, by rw [e1]; omega, by rw [e1]; omega⟩ fun w2 h2 => ?_
  have e2 : Int.toNat (IntKind.wrap .i64 (((n : Nat) : Int) + 80)) = n + 80 := by rw [e1, Int.toNat_natCast]
  rw [e2] at h2 ⊢
  obtain ⟨b2, x2, z2⟩ := box_new h2
  have o1 : w2.ownsRow w.heap.size 40 LbL.sz (.slice (some ⟨w.heap.size, 0, none⟩) 0 (n + 80)) 0 [] := own_make b2 (Nat.le_refl _) (by omega) (rep_two _ _ _)
  obtain ⟨A3, c3, w4, hr, ho, he, hat⟩ := appR (P := Tryz.prog) (t := 22) (ty := 22) (m := n) (cy := c) (Y := A) (by exact Tryz.underlying22) infoL rfl LbL.pos (by decide) o1 (ys := LbL.flat l) (by rw [LbL.flat_len, hl]; rfl) (h.c.ext0 x2) (LbL.flat_one _) (by omega) (by rw [Nat.zero_add]; omega)
  rw [Nat.zero_add, List.nil_append] at ho
  rw [Nat.zero_add] at hr
  have e4 : Ext [] w w4 := x2.trans' he fun b hb => .inr (by simp [ownF] at hb; omega)
  have own4 : LOwn w4 w.heap.size A3 n c3 l := OwnL.lst (show OwnL LbL w4 w.heap.size 40 A3 n c3 l from ho)
  refine ⟨_, _, _, _, hr, fun A' n' c' t w' => ∃ a : Nat, t = a ∧ a ≤ 80 ∧ Ext [] w w' ∧ n' = n + a ∧ LOwn w' w.heap.size A' n' c' (l ++ spares.take a), fun _ _ _ t _ => 80 - t.toNat, ⟨0, rfl, by omega, e4, rfl, by simpa using own4⟩, ?_⟩
  rintro A' n' c' _ _ w10 ⟨a, rfl, ha, e10, rfl, own⟩
  refine sel_dec (fun hlt w11 h11 => ?_) (fun hge => ?_)
  · obtain ⟨A2, c2, w13, hr2, ho2, he2, _⟩ := more_lab e10 own h11 (by omega)
    refine ⟨_, _, _, _, hr2, ?_⟩
    rw [up64 a (by omega)]
    refine ⟨⟨a + 1, rfl, by omega, he2, rfl, ?_⟩, by simp only [Int.toNat_natCast]; omega⟩
    have hs : spares[a]? = some spare := by unfold spares; rw [List.getElem?_replicate, if_pos (by omega)]
    rw [snoc_at hs, ← List.append_assoc]
    exact ho2
  · have : a = 80 := by omega
    subst this
    rw [List.take_of_length_le (by rw [spares_len]; omega)] at own
    have hcap := own.cap
    rw [addr0]
    exact when_dec ⟨by omega, by omega⟩ (k _ A' c' e10.drew own.drew1)
set_option maxRecDepth 8000 in
theorem untouched_c {w : World} {A B : Option Addr} {n c c' : Nat} {l : List Lab} (hA : Cells w A (LbL.flat (l ++ spares))) (hcap : n + 80 ≤ c) (h2 : LIn w B n l) {R : Ending → World → Prop}
    (k : ∀ w', Ext [] w w' → R (.returned (.bool true)) w') : Calls Tryz.prog 17 #[.slice A (n + 80) c, .slice B n c'] w R := by
  apply berthlaw03_untouched_nf
  have hl := h2.len
  have hbig := h2.big
  have e1 : IntKind.wrap .i64 (((n : Nat) : Int) + 80) = ((n + 80 : Nat) : Int) := by rw [w64 (by omega) (by omega)]; omega
  rw [e1, addr0]
  refine sel_false (by simp) (when_dec ⟨by omega, by omega⟩ (same_c (Cells.pre hA hl) hl h2.c hl hbig fun w5 e5 => ⟨_, rfl, sel_false (by rw [decide_eq_true rfl]; rfl) ?_⟩))
  refine ⟨fun t w' => ∃ a : Nat, t = a ∧ n ≤ a ∧ a ≤ n + 80 ∧ Ext [] w w', fun t _ => n + 80 - t.toNat, ⟨n, rfl, by omega, by omega, e5⟩, ?_⟩
  rintro _ _ w10 ⟨a, rfl, h0, ha, e10⟩
  refine sel_dec (fun hlt => ?_) (fun _ => k _ e10)
  obtain ⟨ad, rfl, rd⟩ := lab_cells hA (spare_at (l := l) (i := a) (by omega) (by omega))
  refine when_dec ⟨by omega, by omega⟩ ⟨_, _, (rd w10 e10).2.2, sel_false ?_ ?_⟩
  · rw [beqBytes, beqBytes, decide_eq_true (show spare.1 = ⟨#[33]⟩ from rfl), decide_eq_true (show spare.2 = ⟨#[115, 112, 97, 114, 101]⟩ from rfl)]; rfl
  · rw [up64 a (by omega)]
    exact ⟨⟨a + 1, rfl, by omega, by omega, e10⟩, by simp only [Int.toNat_natCast]; omega⟩
end Go.Proofs.YtcohengppaighaaGreatDoor
