/- The document's set and its members' list. -/
import Derived.Test.YtbaglnffgbnekaaS16
set_option linter.unusedVariables false
set_option linter.unusedSimpArgs false
namespace Go.Proofs.Ytbaglnffgbnekaa
open Go Go.V Go.B

theorem rebase {w : World} {B B' n m c : Nat} {e : TypeId} {A : Option Addr} {xs : List Value} (h : w.ownsRow B e 1 (.slice A n c) m xs) (hB : B' ≤ B) : w.ownsRow B' e 1 (.slice A n c) m xs := by
  refine ⟨h.1, ?_⟩
  rcases h.2 with h2 | ⟨g, cap, cur, hv, hb, rest⟩
  · exact .inl h2
  · exact .inr ⟨g, cap, cur, hv, by omega, rest⟩
set_option maxRecDepth 4000 in
theorem set_c {N : Nat} (hN : N ≤ 65536) {w : World} {A : Option Addr} {l c : Nat} {xs : List Int} (hx : Ints w .i64 A l xs) (hl : l < 4611686018427387904) (hin : ∀ j, j < l → 0 ≤ xs.getD j 0 ∧ xs.getD j 0 < (N : Int)) {R : Ending → World → Prop}
    (k : ∀ M ml mc w', Ext [] w w' → w'.ownsRow w.heap.size 3 1 (.slice M ml mc) ml (ints .i64 (placed N xs)) → R (.returned (.agg #[.int .i64 (N : Int), .slice M ml mc])) w') :
    Calls Try.prog 20 #[.int .i64 (N : Int), .slice A l c] w R := by
  apply berthlaw01_set_nf
  have e0 : Ext [] w (w.alloc (.cells #[.int .i64 0, .slice none 0 0] 38)) := (Ext.refl _ _).alloc _
  have r0 : Blk (w.alloc (.cells #[.int .i64 0, .slice none 0 0] 38)) w.heap.size [.int .i64 0, .slice none 0 0] := Blk.new _ _ _
  refine FromRef_c hN (hx.ext0 e0) hl hin fun M ml mc w1 e1 own1 => ⟨_, _, _, _, _, rfl, ?_⟩
  have r1 := r0.ext e1 (by simp)
  have hr1 := r1.lt
  have hr0 := r0.lt
  have e2 : Ext [] w1 (w1.alloc (.cells #[.int .i64 0, .slice none 0 0] 38)) := (Ext.refl _ _).alloc _
  have hM := own_base own1
  refine pair_put (Blk.new w1 [.int .i64 0, .slice none 0 0] _) (.int .i64 (N : Int)) (.slice M ml mc) fun s3 e3 => ⟨_, pair0 s3, _, _, _, pair1 s3, ?_⟩
  have r3 := (r1.ext e2 (by simp)).ext e3 (by simp; omega)
  refine pair_put r3 (.int .i64 (N : Int)) (.slice M ml mc) fun r4 e4 => ⟨_, pair0 r4, _, _, _, pair1 r4, ?_⟩
  have sz0 := e0.size
  have sz1 := e1.size
  refine k M ml mc _ ?_ ?_
  · refine (((e0.trans e1).trans e2).trans' e3 (fun x hx => .inr ?_)).trans' e4 (fun x hx => .inr ?_)
    · simp at hx; omega
    · simp at hx; omega
  · have o2 := own_ext own1 e2 (by simp)
    have o3 := own_ext o2 e3 (fun b hb => by have := (hM b hb).2; simp; omega)
    have o4 := own_ext o3 e4 (fun b hb => by have := (hM b hb).1; simp; omega)
    exact rebase o4 sz0
theorem MembersRef_c {n : Int} {w : World} {A : Option Addr} {l c : Nat} {xs : List Int} (hx : Ints w .i64 A l xs) (hl : l * 8 ≤ 140737488355328) {R : Ending → World → Prop}
    (k : ∀ A' c' w', Ext [] w w' → w'.ownsRow w.heap.size 3 1 (.slice A' l c') l (ints .i64 xs) → R (.returned (.slice A' l c')) w') :
    Calls Try.prog 19 #[.agg #[.int .i64 n, .slice A l c]] w R := by
  apply berthref01_Members_nf
  have e0 : Ext [] w (w.alloc (.cells #[.int .i64 n, .slice A l c] 38)) := (Ext.refl _ _).alloc _
  have b0 : Blk (w.alloc (.cells #[.int .i64 n, .slice A l c] 38)) w.heap.size [.int .i64 n, .slice A l c] := Blk.new _ _ _
  generalize w.alloc (.cells #[.int .i64 n, .slice A l c] 38) = w0 at *
  have e1 : Ext [] w0 (w0.alloc (.cells #[] 3)) := (Ext.refl _ _).alloc _
  refine ⟨_, _, _, pair1 (b0.ext e1 (by simp)), ?_⟩
  have own0 : (w0.alloc (.cells #[] 3)).ownsRow w0.heap.size 3 1 (.slice (some ⟨w0.heap.size, 0, none⟩) 0 0) 0 (ints .i64 []) := by
    have hh : (w0.alloc (.cells #[] 3)).heap[w0.heap.size]? = some (.cells ⟨[]⟩ 3 (0, 0)) := by
      show (w0.heap.push _)[w0.heap.size]? = _; simp
    exact own_made hh (c := 0) (n := 0) rfl (by omega) (by omega) (Nat.le_refl _)
  have hx0 := hx.ext0 (e0.trans e1)
  have hlen := hx.len
  obtain ⟨A', c', w', hr, own', e'⟩ := appN (P := Try.prog) (t := 25) (ty := 25) (e := 3) (bytes := 8) (z := .int .i64 0) (by kernel_rfl) (by kernel_rfl) rfl (by omega) own0 (m := l) (cy := c) (Y := A) (ys := ints .i64 xs) (by simp [hlen])
    (by intro j u hj
        have hj' : j < l := by
          have := (List.getElem?_eq_some_iff.1 hj).1
          simpa [hlen] using this
        obtain ⟨ad, ha, hc⟩ := hx0.cells j hj'
        rw [ints_get (by omega)] at hj
        exact ⟨ad, ha, by rw [hc]; exact hj⟩)
    (by intro u hu
        obtain ⟨x, _, rfl⟩ := List.mem_map.1 hu
        rfl) e1.size (by omega)
  have sz0 := e0.size
  refine ⟨_, _, _, _, hr, ?_⟩
  rw [Nat.zero_add] at own' ⊢
  exact k A' c' w' ((e0.trans e1).trans' e' (fun x hx => .inr (by simp [ownF] at hx; omega))) (rebase (by simpa [ints] using own') sz0)
theorem mi_placed {S : SetV} {N : Nat} {xs : List Int} (hN : S.N = N) (hm : ∀ i : Nat, S.mem i = decide ((i : Int) ∈ xs)) : S.mi = placed N xs := by
  unfold SetV.mi SetV.members placed
  rw [hN]
  congr 1
  apply List.filter_congr
  intro i _
  exact hm i
end Go.Proofs.Ytbaglnffgbnekaa
