/- Rows written over; a piece of a script; a queue restored from itself. -/
import Derived.Test.YtfjgiaimlmnepaaQ10
set_option linter.unusedVariables false
set_option linter.unusedSimpArgs false
namespace Go.Proofs.Ytfjgiaimlmnepaa
open Go Go.V Go.B

theorem flat_setRow {α : Type} (L : Lay α) {xs : List α} {i : Nat} {x : α} (h : i < xs.length) : (L.flat xs).take (i * L.sz) ++ L.enc x ++ (L.flat xs).drop (i * L.sz + L.sz) = L.flat (xs.set i x) := by
  have e1 : i * L.sz + L.sz = (i + 1) * L.sz := by rw [Nat.succ_mul]
  rw [e1, L.flat_take, L.flat_drop, List.set_eq_take_append_cons_drop, if_pos h, L.flat_app, L.flat_cons, List.append_assoc]
/-- One of them is written over. -/
theorem own_setRow {w : World} {B n c : Nat} {A : Option Addr} {xs : List Wt} (own : OwnW w B A n c xs) {i : Nat} (hi : i < n) (x : Wt) :
    ∃ g w', A = some ⟨g, 0, none⟩ ∧ (Instr.storeAt 34 (.pointer (some (Addr.add ⟨g, 0, none⟩ (i * 6)))) (.agg ⟨x.cells⟩)).run Try.prog w = .ok () w' ∧ OwnW w' B A n c (xs.set i x) ∧ Ext (ownF A) w w' := by
  have hxl := own_len_xs own
  obtain ⟨g, bs, rfl, hBg, hbk, hbl, hcm, htk⟩ := own_blk own (by omega)
  have hnc := own_cap own
  obtain ⟨w', hr, hb', e⟩ := storeN (P := Try.prog) (t := 34) (n := 6) (vs := x.cells) (o := i * 6) i34s hbk rfl (by omega) (WL.one x)
  refine ⟨g, w', rfl, ?_, own_of hb' hBg hnc hcm ?_ ?_, e⟩
  · rw [Addr.add_lit]
    have : 0 + i * 6 = i * 6 := by omega
    rw [this]; exact hr
  · have : x.cells.length = 6 := rfl
    simp only [List.length_append, List.length_take, List.length_drop, hbl, this]
    omega
  · have h1 := flat_setRow WL (x := x) (show i < xs.length by omega)
    rw [WLsz] at h1
    unfold flatW at htk ⊢
    rw [← h1, ← htk, List.append_assoc, List.append_assoc, List.take_append, List.take_append]
    have hcl : x.cells.length = 6 := rfl
    have e0 : (WL.enc x) = x.cells := rfl
    rw [e0]
    have hl1 : (bs.take (i * 6)).length = i * 6 := by rw [List.length_take, hbl]; omega
    rw [hl1, hcl, List.take_take, List.take_take, List.take_of_length_le (l := x.cells) (by rw [hcl]; omega), List.drop_take]
    rw [Nat.min_comm]
    congr 3
theorem OwnW.len {w : World} {B n c : Nat} {A : Option Addr} {xs : List Wt} (own : OwnW w B A n c xs) : xs.length = n := own_len_xs own
theorem OwnW.cells {w : World} {B n c : Nat} {A : Option Addr} {xs : List Wt} (own : OwnW w B A n c xs) : Cells w A (flatW xs) := own_cells own
theorem OwnW.ext {F : List Nat} {w w' : World} {B n c : Nat} {A : Option Addr} {xs : List Wt} (own : OwnW w B A n c xs) (e : Ext F w w') (hF : ∀ b ∈ ownF A, b ∉ F) : OwnW w' B A n c xs := own_ext own e hF
theorem OwnW.ext0 {w w' : World} {B n c : Nat} {A : Option Addr} {xs : List Wt} (own : OwnW w B A n c xs) (e : Ext [] w w') : OwnW w' B A n c xs := own.ext e (by simp)
theorem OwnW.base {w : World} {B n c : Nat} {A : Option Addr} {xs : List Wt} (own : OwnW w B A n c xs) : ∀ b ∈ ownF A, B ≤ b ∧ b < w.heap.size := own_base own
/-- append(l, x). -/
theorem appW {w w1 : World} {B : Nat} {A : Option Addr} {n c : Nat} {xs : List Wt} {x : Wt} {q : Nat} (own : OwnW w B A n c xs) (h1 : BlkT w q x.cells 34) (hB : B ≤ w.heap.size) (hn : n ≤ 1000000) :
    ∃ A' c' w2, Sem.run Try.prog (Builtin.append_ #[29, 29] 29 #[.slice A n c, .slice (some ⟨q, 0, none⟩) 1 1]) w = .ok (.slice A' (n + 1) c') w2 ∧ OwnW w2 B A' (n + 1) c' (xs ++ [x]) ∧ Ext (ownF A) w w2 ∧ (ownF A' = ownF A ∨ ownF A' = [w.heap.size]) := by
  obtain ⟨A', c', w2, hr, ho, he, hat⟩ := appR (P := Try.prog) (ty := 29) (m := 1) (cy := 1) (Y := some ⟨q, 0, none⟩) u29 i34 z34s (by omega) (by omega) own (ys := x.cells) rfl (Cells.of_blk h1.blk) (WL.one x) hB (by omega)
  refine ⟨A', c', w2, hr, ?_, he, hat⟩
  unfold OwnW flatW
  rw [WL.flat_app]
  exact (show WL.flat [x] = x.cells from List.append_nil _) ▸ ho
theorem OpsAt.one {w : World} {A : Option Addr} {n c : Nat} {ops : List Op} (h : OpsAt w A n ops) {a : Nat} {o : Op} (ho : ops[a]? = some o) (hnc : n ≤ c) : OpsAt w (V.cut A c a 5) 1 [o] := by
  obtain ⟨hl, e⟩ := List.getElem?_eq_some_iff.1 ho
  have hn := h.2.1
  refine ⟨?_, rfl, fun o' ho' => ?_, by omega⟩
  · have h1 := h.1.cut (c := c) (l := a) (sz := 5) (fun e => by omega)
    have h2 : (OL.flat ops).drop (a * 5) = OL.flat [o] ++ OL.flat (ops.drop (a + 1)) := by
      have := OL.flat_drop ops a
      rw [OLsz] at this
      rw [this, List.drop_eq_getElem_cons hl, e, ← OL.flat_app]
      rfl
    rw [h2] at h1
    exact h1.left
  · simp at ho'
    subst ho'
    exact h.2.2.1 _ (List.mem_of_getElem? ho)
/-- What List and Next tell may stand so. -/
theorem QInv.valid {xs : List Wt} {m : List (ByteArray × Wt)} {next : Nat} (i : QInv xs m next) : ValidQ xs next := by
  have h1 := i.nx
  refine ⟨by omega, by omega, i.len, i.sorted, fun x hx => ?_, i.names, i.seqs⟩
  have h2 := i.seq x hx
  have h3 := i.tries x hx
  have h4 := i.til x hx
  unfold soundV
  omega
theorem play_one (s : QS) (o : Op) : playV s [o] = stepV s o := rfl
end Go.Proofs.Ytfjgiaimlmnepaa
