/- Ordered: the library's Insert and Delete at lists of rows. -/
import Derived.Test.YtjlkdadafddodaaGreatDoorO5
set_option linter.unusedVariables false
set_option linter.unusedSimpArgs false
namespace Go.Proofs.YtjlkdadafddodaaGreatDoor
open Go Go.V Go.B

theorem u29 : Tryz.prog.underlying 85 = some (.slice 90) := by kernel_rfl
def z34 : Value := .agg #[.int .i64 0, .pointer none]
theorem i34 : (Tryz.prog.info? 90).map (fun i => (i.zero, i.size, i.bytes)) = some (some z34, 2, 16) := by kernel_rfl
theorem i34s : (Tryz.prog.info? 90).map (·.size) = some 2 := by kernel_rfl
theorem i34z : (Tryz.prog.info? 90).map (fun i => (i.zero, i.size)) = some (some z34, 2) := by kernel_rfl
theorem z34s : z34.cells.size = 2 := rfl
theorem z34o : ∀ u ∈ z34.cells.toList, u.oneCell' = true := by
  intro u hu
  simp only [z34, Value.cells, List.mem_cons, List.not_mem_nil, or_false] at hu
  rcases hu with rfl | rfl <;> rfl
theorem uint3 : Tryz.prog.underlying 3 = some (.int .i64) := by kernel_rfl
abbrev flatW (xs : List Rw) : List Value := RL.flat xs
theorem flatW_len (xs : List Rw) : (flatW xs).length = xs.length * 2 := RL.flat_len xs

theorem cut0 (A : Option Addr) (c sz : Nat) : V.cut A c 0 sz = A := by
  unfold V.cut
  split
  · rfl
  · cases A <;> simp [Addr.add_zero']
theorem cutN {g c l sz : Nat} (h : c ≠ l) : V.cut (some ⟨g, 0, none⟩) c l sz = some ⟨g, l * sz, none⟩ := by
  unfold V.cut
  rw [if_neg h]
  simp [Addr.add_lit]
theorem own_len_xs {w : World} {B n c : Nat} {A : Option Addr} {xs : List Rw} (own : w.ownsRow B 90 2 (.slice A n c) n (flatW xs)) : xs.length = n := by
  have := own.1
  rw [flatW_len] at this
  omega
theorem overlaps_run {w : World} {gv g o la ca lb cb : Nat} {vs bs : List Value} (hv : BlkT w gv vs 90) (hb : BlkT w g bs 90) (hne : gv ≠ g) (hl : bs.length ≠ 0) :
    Sem.run Tryz.prog (callFunc 64 #[.slice (some ⟨gv, 0, none⟩) la ca, .slice (some ⟨g, o, none⟩) lb cb]) w = .ok (.value (.bool false)) w := by
  have hsz : ∀ w, (Go.sizeOf 90).run Tryz.prog w = .ok 2 w := fun w => by
    have := i34s
    cases hq : Tryz.prog.info? 90 with
    | none => rw [hq] at this; cases this
    | some i => rw [hq] at this; simp only [Option.map_some, Option.some.injEq] at this; simp [sizeOf, typeInfo, hq, this]
  have h1 := Lib.run_overlaps_apart (P := Tryz.prog) w 85 4 90 u29 2 hsz ⟨gv, 0, none⟩ ⟨g, o, none⟩ la ca lb cb hne 90 90 vs.length bs.length
    (by unfold BlkT at hv; simp [World.shape?, hv]) (by unfold BlkT at hb; simp [World.shape?, hb]) hl (by unfold BlkT at hv; simp [World.frozen?, hv]) (by unfold BlkT at hv; simp [World.frozen?, hv])
  rw [run_callFunc_extern (P := Tryz.prog) (e := Extern.SlicesOverlaps.overlaps #[85, 85] #[4]) Tryz.func64 (by kernel_rfl) (by kernel_rfl) (by kernel_rfl) (by kernel_rfl), h1]
  rfl
theorem take_app3 {P E D R : List Value} {n : Nat} (h : P.length + E.length + D.length = n) : (P ++ E ++ D ++ R).take n = P ++ E ++ D := by
  rw [← h, show P.length + E.length + D.length = (P ++ E ++ D).length by simp; omega]
  exact List.take_left
theorem take_app2 {P E R : List Value} {n : Nat} (h : P.length + E.length = n) : (P ++ E ++ R).take n = P ++ E := by
  rw [← h, show P.length + E.length = (P ++ E).length by simp]
  exact List.take_left
set_option maxRecDepth 8000 in
theorem Insert_c {B : Nat} {A : Option Addr} {n c : Nat} {xs : List Rw} {w : World} (own : w.ownsRow B 90 2 (.slice A n c) n (flatW xs)) (hB : B ≤ w.heap.size) {i : Nat} (hi : i ≤ n) (hn : n ≤ 8000000000000)
    {gv : Nat} {x : Rw} (hv : BlkT w gv (rowCells x) 90) (hgv : gv ∉ ownF A) {R : Ending → World → Prop}
    (k : ∀ A' c' w', w'.ownsRow B 90 2 (.slice A' (n + 1) c') (n + 1) (flatW (xs.take i ++ x :: xs.drop i)) → Ext (ownF A) w w' → (ownF A' = ownF A ∨ ∃ g, ownF A' = [g] ∧ w.heap.size ≤ g) → R (.returned (.slice A' (n + 1) c')) w') :
    Calls Tryz.prog 39 #[.slice A n c, .int .i64 (i : Int), .slice (some ⟨gv, 0, none⟩) 1 1] w R := by
  apply slices_Insert___ordered_row_ordered_row__nf
  have hxl := own_len_xs own
  have e1 : IntKind.wrap .i64 ((n : Int) + ((1 : Nat) : Int)) = ((n + 1 : Nat) : Int) := by rw [w64 (by omega) (by omega)]; omega
  have e2 : IntKind.wrap .i64 ((i : Int) + ((1 : Nat) : Int)) = ((i + 1 : Nat) : Int) := by rw [w64 (by omega) (by omega)]; omega
  simp only [e1, e2, Int.toNat_natCast, Nat.sub_zero, cut0]
  have hone : ∀ u ∈ (rowCells x), u.oneCell' = true := RL.one x
  have hcv : Cells w (some ⟨gv, 0, none⟩) (rowCells x) := Cells.of_blk hv.blk
  have hxc : (rowCells x).length = 2 := rfl
  have hd6 : (flatW (xs.drop i)).length = (n - i) * 2 := by rw [flatW_len, List.length_drop, hxl]
  have ht6 : (flatW (xs.take i)).length = i * 2 := by rw [flatW_len, List.length_take, hxl]; congr 1; omega
  have hfl : flatW (xs.take i ++ x :: xs.drop i) = flatW (xs.take i) ++ (rowCells x) ++ flatW (xs.drop i) := by
    rw [show xs.take i ++ x :: xs.drop i = xs.take i ++ ([x] ++ xs.drop i) by simp]
    show RL.flat _ = _
    rw [RL.flat_app, RL.flat_app, ← List.append_assoc]
    congr 2
  refine when_dec ⟨by omega, by omega⟩ (sel_false (by simp) (sel_intro (fun h => ?_) (fun h => ?_)))
  · -- at the end
    have h : i = n := by have := eq_of_beq h; omega
    subst h
    obtain ⟨A', c', w', hr, ho, he, hat⟩ := appR (P := Tryz.prog) (ty := 85) (cy := 1) (m := 1) u29 i34 z34s (by omega) (by omega) own (by rw [hxc]) hcv hone hB (by omega)
    refine ⟨_, _, _, _, hr, k _ _ _ ?_ he ?_⟩
    · rw [hfl, show xs.take i = xs from List.take_of_length_le (by omega), show xs.drop i = [] from List.drop_eq_nil_of_le (by omega)]
      simpa [Lay.flat] using ho
    · rcases hat with h | h
      · exact .inl h
      · exact .inr ⟨_, h, Nat.le_refl _⟩
  · have hin : i < n := by
      have : i ≠ n := fun e => by subst e; simp at h
      omega
    obtain ⟨g, bs, rfl, hBg, hbk, hbl, hcm, htk⟩ := own_blk own (by omega)
    have hnc := own_cap own
    have hg : gv ≠ g := fun e => hgv (by simp [ownF, e])
    refine sel_dec (fun hgt => ?_) (fun hle => ?_)
    · -- no room
      have hgt : c < n + 1 := by omega
      have e3 : IntKind.wrap .i64 (((n + 1 : Nat) : Int) - (i : Int)) = ((n + 1 - i : Nat) : Int) := by rw [w64 (by omega) (by omega)]; omega
      rw [e3]
      obtain ⟨g2, c2, b2, w2, hr, hb2, hl2, hn2, hm2, ht2, hg2, ex2⟩ := zerosR (P := Tryz.prog) (ty := 85) (kq := .i64) (n := i) (c := c) (k := n + 1 - i) u29 uint3 i34 z34s (by omega) (by omega) (xs := flatW (xs.take i)) (by rw [ht6])
        (by have := (own_cells own).take (i * 2); rwa [show (flatW xs).take (i * 2) = flatW (xs.take i) from RL.flat_take xs i] at this) (fun e => by cases e) (by omega) (by omega) (by omega)
      have e4 : i + (n + 1 - i) = n + 1 := by omega
      rw [e4] at hr hn2
      refine when_dec ⟨by omega, by omega⟩ ⟨_, _, _, _, hr, when_dec ⟨by omega, by omega⟩ ?_⟩
      rw [cutN (by omega)]
      have hgg2 : g < w.heap.size := hbk.lt
      have hgv2 : gv < w.heap.size := hv.lt
      obtain ⟨w3, hr3, hb3, ex3⟩ := copyR (P := Tryz.prog) (dT := 85) (sT := 85) (ty := 3) (nd := n + 1 - i) (cd := c2 - i) (ns := 1) (cap := 1) u29 i34s hb2 (o := i * 2) (ys := (rowCells x)) (by rw [hxc, show min 1 (n + 1 - i) = 1 by omega]) (hcv.ext0 ex2) hone (by rw [hxc, hl2]; omega) (by omega)
      refine ⟨_, _, hr3, fun _ => True, trivial, when_dec ⟨by omega, by omega⟩ (when_dec ⟨by omega, by omega⟩ ?_)⟩
      rw [cutN (by omega)]
      have hsrc : Cells w3.drew (V.cut (some ⟨g, 0, none⟩) c i 2) (flatW (xs.drop i)) := by
        have h1 := (own_cells own).cut (c := c) (l := i) (sz := 2) (fun e => by omega)
        rw [show (flatW xs).drop (i * 2) = flatW (xs.drop i) from RL.flat_drop xs i] at h1
        have hof : ∀ b ∈ ownF (V.cut (some ⟨g, 0, none⟩) c i 2), b ∉ [g2] := by
          rw [cutN (by omega)]
          intro b hb; simp [ownF] at hb ⊢; omega
        exact (((h1.ext0 ex2).ext ex3 hof).ext0 ((Ext.refl [] w3).drew))
      obtain ⟨w4, hr4, hb4, ex4⟩ := copyR (P := Tryz.prog) (dT := 85) (sT := 85) (ty := 3) (nd := n + 1 - (i + 1)) (cd := c2 - (i + 1)) (ns := n - i) (cap := c - i) u29 i34s (w := w3.drew) (g := g2) hb3 (o := (i + 1) * 2) (ys := flatW (xs.drop i))
        (by rw [hd6]; congr 1; omega) hsrc (RL.flat_one _) (by
          rw [hd6]
          simp only [List.length_append, List.length_take, List.length_drop, hl2, hxc]
          omega) (by omega)
      refine ⟨_, _, hr4, trivial, k _ _ _ (own_of hb4 (by omega) hn2 hm2 ?_ ?_) ?_ (.inr ⟨g2, by simp [ownF], hg2⟩)⟩
      · simp only [List.length_append, List.length_take, List.length_drop, hl2, hxc, hd6]
        omega
      · rw [hfl]
        have hP : b2.take (i * 2) = flatW (xs.take i) := ht2
        rw [hP, take_app2 (P := flatW (xs.take i)) (E := (rowCells x)) (by rw [ht6, hxc]; omega)]
        exact take_app3 (by rw [ht6, hxc, hd6]; omega)
      · exact ((ex2.trans' ex3 (fun b hb => .inr (by simp at hb; omega))).drew.trans' ex4 (fun b hb => .inr (by simp at hb; omega))).weaken (fun b hb => by cases hb)
    · -- there is room
      have hle : n + 1 ≤ c := by omega
      refine when_dec ⟨by omega, by omega⟩ (when_dec ⟨by omega, by omega⟩ ?_)
      rw [cutN (show c ≠ i + 1 by omega), cutN (show c ≠ i by omega)]
      refine ⟨false, w, overlaps_run hv hbk hg (by rw [hbl]; omega), sel_true rfl ?_⟩
      refine ⟨fun _ => True, trivial, when_dec ⟨by omega, by omega⟩ (when_dec ⟨by omega, by omega⟩ ?_)⟩
      have hbd : (bs.drop (i * 2)).take ((n - i) * 2) = flatW (xs.drop i) := by
        rw [← show (flatW xs).drop (i * 2) = flatW (xs.drop i) from RL.flat_drop xs i, ← htk, List.drop_take]
        congr 1; omega
      have hsrc : Cells w.drew (some ⟨g, i * 2, none⟩) (flatW (xs.drop i)) := by
        rw [← hbd]
        exact (Cells.at_blk (w := w.drew) (g := g) hbk.blk (i * 2)).take _
      obtain ⟨w3, hr3, hb3, ex3⟩ := copyR (P := Tryz.prog) (dT := 85) (sT := 85) (ty := 3) (nd := n + 1 - (i + 1)) (cd := c - (i + 1)) (ns := n + 1 - i) (cap := c - i) u29 i34s (w := w.drew) (g := g) hbk (o := (i + 1) * 2) (ys := flatW (xs.drop i))
        (by rw [hd6]; congr 1; omega) hsrc (RL.flat_one _) (by rw [hd6, hbl]; omega) (by omega)
      refine ⟨_, _, hr3, trivial, when_dec ⟨by omega, by omega⟩ ?_⟩
      have hcv3 : Cells w3 (some ⟨gv, 0, none⟩) (rowCells x) := (hcv.ext0 (Ext.refl [] w).drew).ext ex3 (by simp [ownF, hg])
      obtain ⟨w4, hr4, hb4, ex4⟩ := copyR (P := Tryz.prog) (dT := 85) (sT := 85) (ty := 3) (nd := n + 1 - i) (cd := c - i) (ns := 1) (cap := 1) u29 i34s hb3 (o := i * 2) (ys := (rowCells x)) (by rw [hxc, show min 1 (n + 1 - i) = 1 by omega]) hcv3 hone (by
          simp only [List.length_append, List.length_take, List.length_drop, hbl, hxc, hd6]
          omega) (by omega)
      refine ⟨_, _, hr4, k _ _ _ (own_of hb4 hBg hle hcm ?_ ?_) ?_ (.inl rfl)⟩
      · simp only [List.length_append, List.length_take, List.length_drop, hbl, hxc, hd6]
        omega
      · rw [hfl]
        have hP : bs.take (i * 2) = flatW (xs.take i) := by
          rw [← show (flatW xs).take (i * 2) = flatW (xs.take i) from RL.flat_take xs i, ← htk, List.take_take]
          congr 1; omega
        have h1 : (bs.take ((i + 1) * 2) ++ flatW (xs.drop i) ++ bs.drop ((i + 1) * 2 + (flatW (xs.drop i)).length)).take (i * 2) = flatW (xs.take i) := by
          rw [List.append_assoc, List.take_append_of_le_length (by rw [List.length_take, hbl]; omega), List.take_take, ← hP]
          congr 1; omega
        have h2 : (bs.take ((i + 1) * 2) ++ flatW (xs.drop i) ++ bs.drop ((i + 1) * 2 + (flatW (xs.drop i)).length)).drop (i * 2 + (rowCells x).length) = flatW (xs.drop i) ++ bs.drop ((i + 1) * 2 + (flatW (xs.drop i)).length) := by
          have : (bs.take ((i + 1) * 2)).length = i * 2 + (rowCells x).length := by rw [List.length_take, hbl, hxc]; omega
          rw [List.append_assoc, ← this]
          exact List.drop_left
        rw [h1, h2, ← List.append_assoc]
        exact take_app3 (by rw [ht6, hxc, hd6]; omega)
      · exact (((Ext.refl [g] w).drew).trans ex3).trans ex4
set_option maxRecDepth 8000 in
theorem Delete_c {B : Nat} {A : Option Addr} {n c : Nat} {xs : List Rw} {w : World} (own : w.ownsRow B 90 2 (.slice A n c) n (flatW xs)) {i : Nat} (hi : i < n) (hn : n ≤ 8000000000000) {R : Ending → World → Prop}
    (k : ∀ w', w'.ownsRow B 90 2 (.slice A (n - 1) c) (n - 1) (flatW (xs.eraseIdx i)) → Ext (ownF A) w w' → R (.returned (.slice A (n - 1) c)) w') :
    Calls Tryz.prog 72 #[.slice A n c, .int .i64 (i : Int), .int .i64 ((i + 1 : Nat) : Int)] w R := by
  apply slices_Delete___ordered_row_ordered_row__nf
  have hxl := own_len_xs own
  have hnc := own_cap own
  obtain ⟨g, bs, rfl, hBg, hbk, hbl, hcm, htk⟩ := own_blk own (by omega)
  simp only [Int.toNat_natCast, Nat.sub_zero, cut0]
  have hd6 : (flatW (xs.drop (i + 1))).length = (n - (i + 1)) * 2 := by rw [flatW_len, List.length_drop, hxl]
  have ht6 : (flatW (xs.take i)).length = i * 2 := by rw [flatW_len, List.length_take, hxl]; congr 1; omega
  refine when_dec ⟨by omega, by omega⟩ (when_dec ⟨by omega, by omega⟩ (when_dec ⟨by omega, by omega⟩ (sel_false (by
    have : ¬ ((i : Int) = ((i + 1 : Nat) : Int)) := by omega
    simpa using this) ⟨fun _ => True, trivial, when_dec ⟨by omega, by omega⟩ (when_dec ⟨by omega, by omega⟩ ?_)⟩)))
  have hsrc : Cells w.drew (V.cut (some ⟨g, 0, none⟩) c (i + 1) 2) (flatW (xs.drop (i + 1))) := by
    have h1 := (own_cells own).cut (c := c) (l := i + 1) (sz := 2) (fun e => by rw [flatW_len, hxl]; omega)
    rw [show (flatW xs).drop ((i + 1) * 2) = flatW (xs.drop (i + 1)) from RL.flat_drop xs (i + 1)] at h1
    exact h1.ext0 (Ext.refl [] w).drew
  obtain ⟨w2, hr2, hb2, ex2⟩ := appRoom (P := Tryz.prog) (ty := 85) (n := i) (c := c) (m := n - (i + 1)) (cy := c - (i + 1)) u29 i34s (w := w.drew) (g := g) hbk (ys := flatW (xs.drop (i + 1))) (by rw [hd6]) hsrc (RL.flat_one _) (by omega) (by omega) (by rw [hd6, hbl]; omega)
  have e1 : i + (n - (i + 1)) = n - 1 := by omega
  rw [e1] at hr2
  refine ⟨_, _, _, _, hr2, trivial, when_dec ⟨by omega, by omega⟩ (when_dec ⟨by omega, by omega⟩ ?_)⟩
  rw [cutN (by omega)]
  obtain ⟨w3, hr3, ⟨zs, hzl, hb3⟩, ex3⟩ := clearR (P := Tryz.prog) (t := 85) (ty := 0) (n := n - (n - 1)) (c := c - (n - 1)) u29 i34z z34s z34o hb2 (o := (n - 1) * 2) (by
    simp only [List.length_append, List.length_take, List.length_drop, hbl, hd6]
    omega)
  refine ⟨_, hr3, k _ (own_of hb3 hBg (by omega) hcm ?_ ?_) ((((Ext.refl [g] w).drew).trans ex2).trans ex3)⟩
  · simp only [List.length_append, List.length_take, List.length_drop, hbl, hd6, hzl]
    omega
  · have hP : bs.take (i * 2) = flatW (xs.take i) := by
      rw [← show (flatW xs).take (i * 2) = flatW (xs.take i) from RL.flat_take xs i, ← htk, List.take_take]
      congr 1; omega
    have h0 : flatW (xs.eraseIdx i) = flatW (xs.take i) ++ flatW (xs.drop (i + 1)) := by
      rw [List.eraseIdx_eq_take_drop_succ]
      exact RL.flat_app _ _
    rw [h0, hP]
    have h1 : (flatW (xs.take i) ++ flatW (xs.drop (i + 1)) ++ bs.drop (i * 2 + (flatW (xs.drop (i + 1))).length)).take ((n - 1) * 2) = flatW (xs.take i) ++ flatW (xs.drop (i + 1)) := take_app2 (by rw [ht6, hd6]; omega)
    rw [h1]
    have : (flatW (xs.take i) ++ flatW (xs.drop (i + 1))).length = (n - 1) * 2 := by rw [List.length_append, ht6, hd6]; omega
    rw [List.append_assoc, ← this]
    exact List.take_left
end Go.Proofs.YtjlkdadafddodaaGreatDoor
