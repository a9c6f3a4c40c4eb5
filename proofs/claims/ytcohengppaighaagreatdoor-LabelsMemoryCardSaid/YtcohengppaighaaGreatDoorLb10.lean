/- Labels: differences that are read; one difference; copies of them: the program's walks. -/
import Derived.Test.YtcohengppaighaaGreatDoorLb9
set_option linter.unusedVariables false
set_option linter.unusedSimpArgs false
namespace Go.Proofs.YtcohengppaighaaGreatDoor
open Go Go.V Go.B

theorem get_sz {l : List Lab} (h : Szs l) (k : ByteArray) : (getS l k).1.size ≤ 140737488351232 := by
  cases hq : (getS l k).2
  · rw [getS_false hq]; show 0 ≤ _; omega
  · exact (h _ (getS_mem hq)).2
theorem diff_dif {was now : List Lab} (h1 : OkL was) (h2 : OkL now) : Dif was now (diffS was now) := by
  unfold diffS
  rw [if_pos ⟨checkS_zero.2 h1, checkS_zero.2 h2⟩]
  exact merge_dif h1.ris h2.ris
theorem diff_all {was now : List Lab} (h1 : OkL was) (h2 : OkL now) {k : ByteArray} (hk : k ∉ dkeys (diffS was now)) : getS was k = getS now k := by
  unfold diffS at hk
  rw [if_pos ⟨checkS_zero.2 h1, checkS_zero.2 h2⟩] at hk
  exact merge_all h1.ris h2.ris hk
theorem diff_nil {was now : List Lab} (h : ¬ (OkL was ∧ OkL now)) : diffS was now = [] := by
  unfold diffS
  rw [if_neg fun hc => h ⟨checkS_zero.1 hc.1, checkS_zero.1 hc.2⟩]
theorem diff_sz {was now : List Lab} : ∀ x ∈ diffS was now, x.key.size ≤ 140737488351232 ∧ x.old.size ≤ 140737488351232 ∧ x.new.size ≤ 140737488351232 := fun x hx => by
  by_cases h : OkL was ∧ OkL now
  · have hd := diff_dif h.1 h.2
    have e := hd.of x hx
    have hk := key_len (dif_key h.1 h.2 hd hx)
    have hl := bs_len x.key
    have e1 : x.old = (getS was x.key).1 := congrArg DL.old e
    have e2 : x.new = (getS now x.key).1 := congrArg DL.new e
    exact ⟨by omega, by rw [e1]; exact get_sz (OkL.szs h.1) _, by rw [e2]; exact get_sz (OkL.szs h.2) _⟩
  · rw [diff_nil h] at hx; cases hx
theorem DOwn.in_ {w : World} {B : Nat} {A : Option Addr} {n c : Nat} {l : List DL} (h : DOwn w B A n c l) (sz : ∀ x ∈ l, x.key.size ≤ 140737488351232 ∧ x.old.size ≤ 140737488351232 ∧ x.new.size ≤ 140737488351232) (big : n * 56 ≤ 140737488351232) : DIn w A n l := ⟨h.cells, h.len, sz, big⟩
theorem walkI {w : World} {A B : Option Addr} {n m c c' : Nat} {was now : List Lab} (h1 : LIn w A n was) (h2 : LIn w B m now) {R : Ending → World → Prop}
    (k : ∀ w' D q d, Ext [] w w' → DIn w' D q (diffS was now) → q ≤ 64 → R (.returned (.slice D q d)) w') : Calls Tryz.prog 73 #[.slice A n c, .slice B m c'] w R :=
  walk_c h1 h2 fun w' D q d e o hq => k w' D q d e (DOwn.in_ o diff_sz (by omega)) hq
theorem copyD {w w1 : World} {D : Option Addr} {q : Nat} {ds : List DL} (h : DIn w D q ds) (h1 : w1 = w.alloc (.cells #[] 59)) (c : Nat) :
    ∃ A' c' w2, (Builtin.append_ #[23, 23] 23 #[.slice (some ⟨w.heap.size, 0, none⟩) 0 0, .slice D q c]).run Tryz.prog w1 = .ok (.slice A' q c') w2 ∧ DIn w2 A' q ds ∧ Ext [] w w2 := by
  have hb := h.big
  obtain ⟨A', c', w4, hr, ho, he⟩ := copyL (L := DLL) (P := Tryz.prog) (t := 23) (ty := 23) (e := 59) (xs := ds) (m := q) (by exact Tryz.underlying23) infoD rfl (by decide) h.c h.len h1 (by omega) c
  exact ⟨A', c', w4, hr, ⟨ho.lst.cells, h.len, h.sz, hb⟩, he⟩
theorem patch_len {l : List Lab} {ds : List DL} : (patchS l ds).1.length ≤ 32 := by
  have hgo : ∀ (ds : List DL) (p : Option ByteArray) (out : List Lab), (patchGo l p out ds).1.length ≤ 32 := by
    intro ds
    induction ds with
    | nil =>
      intro p out
      rw [patchGo]
      by_cases h : 32 < out.length
      · rw [if_pos h]; simp
      · rw [if_neg h]; show (sortS out).length ≤ 32; rw [sortS_len]; omega
    | cons d r ih =>
      intro p out
      rw [patchGo]
      by_cases h : wrongS p l d = 0
      · rw [if_pos h]; exact ih _ _
      · rw [if_neg h]; simp
  unfold patchS
  by_cases h : (checkS l).2 ≠ 0
  · rw [if_pos h]; simp
  · rw [if_neg h]; exact hgo _ _ _
/-- The label a=1. -/
def aOne : List Lab := [(unb [97], unb [49])]
theorem aOne_ok : OkL aOne := { len := by decide, key := by decide, val := by decide, ris := List.pairwise_singleton _ _ }
theorem nil_ok : OkL [] := { len := by decide, key := by simp, val := by simp, ris := List.Pairwise.nil }
theorem one_diff : diffS aOne [] = [⟨unb [97], unb [49], ByteArray.empty, true, false⟩] := by
  unfold diffS
  rw [if_pos ⟨checkS_zero.2 aOne_ok, checkS_zero.2 nil_ok⟩]
  unfold aOne
  rw [mergeD, mergeD]
theorem aOne_in {w w3 : World} (h3 : w3 = w.alloc (.cells #[.string ⟨#[97]⟩, .string ⟨#[49]⟩] 40)) : LIn w3 (some ⟨w.heap.size, 0, none⟩) 1 aOne ∧ Ext [] w w3 := by
  obtain ⟨b3, x3, z3⟩ := box_new (cs := [.string ⟨#[97]⟩, .string ⟨#[49]⟩]) h3
  exact ⟨⟨Cells.of_blk b3.blk, rfl, OkL.szs aOne_ok, by omega⟩, x3⟩
theorem dl_eq (x y : DL) : ((ByteArray.toList x.key == ByteArray.toList y.key) && ((ByteArray.toList x.old == ByteArray.toList y.old) && ((ByteArray.toList x.new == ByteArray.toList y.new) && ((x.had == y.had) && ((x.has == y.has) && true))))) = decide (x = y) := by
  obtain ⟨a, b, c, d, e⟩ := x
  obtain ⟨a', b', c', d', e'⟩ := y
  rw [beqBytes, beqBytes, beqBytes, Bool.and_true, Bool.eq_iff_iff]
  simp
theorem sameDiffs_c {w : World} {A B : Option Addr} {n m c c' : Nat} {a b : List DL} (hA : Cells w A (DLL.flat a)) (hn : a.length = n) (hB : Cells w B (DLL.flat b)) (hm : b.length = m) (big : n * 56 ≤ 140737488351232) {R : Ending → World → Prop}
    (k : ∀ w', Ext [] w w' → R (.returned (.bool (decide (a = b)))) w') : Calls Tryz.prog 75 #[.slice A n c, .slice B m c'] w R := by
  apply berthlaw03_sameDiffs_nf
  have no : ∀ w', Ext [] w w' → a ≠ b → R (.returned (.bool false)) w' := fun w' e h => by
    have := k w' e
    rw [decide_eq_false h] at this; exact this
  refine sel_intro (fun h => no w (Ext.refl _ _) fun e => ?_) (fun h => ?_)
  · rw [e] at hn
    have h : (n : Int) ≠ m := by simpa using h
    omega
  have h : (n : Int) = m := by simpa using h
  refine ⟨fun t w' => ∃ i : Nat, t = i ∧ i ≤ n ∧ Ext [] w w' ∧ a.take i = b.take i, fun t _ => n - t.toNat, ⟨0, rfl, by omega, Ext.refl _ _, rfl⟩, ?_⟩
  rintro _ _ w7 ⟨i, rfl, hi, e7, hab⟩
  refine sel_dec (fun hlt => ?_) (fun hge => ?_)
  · obtain ⟨x, hx⟩ : ∃ x, a[i]? = some x := ⟨_, List.getElem?_eq_getElem (by omega)⟩
    obtain ⟨y, hy⟩ : ∃ y, b[i]? = some y := ⟨_, List.getElem?_eq_getElem (by omega)⟩
    obtain ⟨ad, rfl, rd⟩ := dif_cells hA hx
    obtain ⟨bd, rfl, rb⟩ := dif_cells hB hy
    refine when_dec ⟨by omega, by omega⟩ ⟨_, _, _, _, _, (rd w7 e7).2, when_dec ⟨by omega, by omega⟩ ⟨_, _, _, _, _, (rb w7 e7).2, ?_⟩⟩
    rw [dl_eq x y]
    refine sel_intro (fun hne => no _ e7.drew fun e => ?_) (fun heq => ?_)
    · rw [e, hy] at hx
      cases hx
      simp at hne
    · have heq : x = y := by simpa using heq
      rw [up64 i (by omega)]
      refine ⟨⟨i + 1, rfl, by omega, e7.drew, ?_⟩, by simp only [Int.toNat_natCast]; omega⟩
      rw [snoc_at hx, snoc_at hy, hab, heq]
  · rw [List.take_of_length_le (by omega), List.take_of_length_le (by omega)] at hab
    have := k w7 e7
    rw [decide_eq_true hab] at this; exact this
end Go.Proofs.YtcohengppaighaaGreatDoor
