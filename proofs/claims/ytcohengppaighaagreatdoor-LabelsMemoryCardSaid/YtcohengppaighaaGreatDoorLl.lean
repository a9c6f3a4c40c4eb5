/- Labels: what comes in: a text, a label, a list of labels. -/
import Derived.Test.YtcohengppaighaaGreatDoorLb7
import Derived.Test.YtcohengppaighaaGreatDoorL3L
set_option linter.unusedVariables false
set_option linter.unusedSimpArgs false
namespace Go.Proofs.YtcohengppaighaaGreatDoor
open Go Go.V Go.B
open Go.ChangeShapes Go.WideShapes Go.ChangeAt Go.RowKit

theorem own : ownKnob Tryz.prog.godebug = none := by kernel_rfl
theorem laidOut : laidOutB Tryz.prog = true := by kernel_rfl
section
variable {H : Type} {enc : TypeId × Value → H} {w : World}
theorem open_str1 {n : Nat} {cs : List Value} {y : DataW H × List MemPlace} (h : DataW.trod enc Tryz.prog w 0 (fun _ => true) true n 9 cs = some y) (hw : ∀ k ∈ y.1.weights Tryz.prog 9, k ≤ reachBytes) : ∃ s : ByteArray, cs = [.string s] ∧ s.size ≤ 140737488351232 := by
  obtain ⟨s, h1, rfl, _⟩ := DataW.trod_string Tryz.underlying9 h
  refine ⟨s, h1, ?_⟩
  have := hw s.data.toList.length (by simp [DataW.weights])
  rw [show s.data.toList.length = s.size from bs_len s] at this
  simp only [reachBytes] at this
  omega
set_option maxRecDepth 8000 in
theorem open_str {base : Nat} {v : Value} {d : DataW H} {p : List MemPlace} (hok : Value.okWide Tryz.prog w .any base 9 v) (h : DataW.Trod enc Tryz.prog w 0 (fun _ => true) true 9 v d p) (hw : ∀ n ∈ d.weights Tryz.prog 9, n ≤ reachBytes) : ∃ s : ByteArray, v = .string s ∧ s.size ≤ 140737488351232 := by
  obtain ⟨s, rfl, rfl, rfl, _⟩ := Go.ChangeMaps.open_string Tryz.underlying9 hok h
  refine ⟨s, rfl, ?_⟩
  have := hw s.data.toList.length (by simp [DataW.weights])
  rw [show s.data.toList.length = s.size from bs_len s] at this
  simp only [reachBytes] at this
  omega
set_option maxRecDepth 8000 in
theorem open_lab1 {n : Nat} {cs : List Value} {z : DataW H × List MemPlace} (h : DataW.trod enc Tryz.prog w 0 (fun _ => true) true n 40 cs = some z) (hw : ∀ k ∈ z.1.weights Tryz.prog 40, k ≤ reachBytes) :
    ∃ x : Lab, cs = LbL.enc x ∧ x.1.size ≤ 140737488351232 ∧ x.2.size ≤ 140737488351232 := by
  obtain ⟨hl, m, hf⟩ := trod_fields Tryz.underlying40 (by kernel_rfl) (by kernel_rfl) h hw
  obtain ⟨v0, y0, e0, t0, w0⟩ := hf 0 _ rfl
  obtain ⟨v1, y1, e1, t1, w1⟩ := hf 1 _ rfl
  obtain ⟨a, r0, z0⟩ := open_str1 t0 w0
  obtain ⟨b, r1, z1⟩ := open_str1 t1 w1
  simp only [List.cons.injEq, and_true] at r0 r1
  subst r0 r1
  refine ⟨(a, b), ?_, z0, z1⟩
  match cs, hl with
  | [x, y], _ => simp at e0 e1; simp [e0, e1, LbL]
set_option maxRecDepth 8000 in
theorem open_lab {base : Nat} {v : Value} {d : DataW H} {p : List MemPlace} (hok : Value.okWide Tryz.prog w .any base 40 v) (h : DataW.Trod enc Tryz.prog w 0 (fun _ => true) true 40 v d p) (hw : ∀ n ∈ d.weights Tryz.prog 40, n ≤ reachBytes) :
    ∃ x : Lab, v = .agg #[.string x.1, .string x.2] ∧ x.1.size ≤ 140737488351232 ∧ x.2.size ≤ 140737488351232 := by
  obtain ⟨cs, rfl, _⟩ := Go.WideShapes.okWide_struct Tryz.underlying40 hok
  obtain ⟨fuel, hf⟩ := h
  have hf' : DataW.trod enc Tryz.prog w 0 (fun _ => true) true fuel 40 cs.toList = some (d, p) := hf
  obtain ⟨x, hx, z0, z1⟩ := open_lab1 hf' hw
  refine ⟨x, ?_, z0, z1⟩
  congr 1
  exact Array.toList_inj.1 hx
set_option maxRecDepth 8000 in
theorem open_labs1 {fuel : Nat} {v : Value} {y : DataW H × List MemPlace} (h : DataW.trod enc Tryz.prog w 0 (fun _ => true) true fuel 22 [v] = some y) (hw : ∀ n ∈ y.1.weights Tryz.prog 22, n ≤ reachBytes) :
    ∃ A n c l, v = .slice A n c ∧ LIn w A n l := by
  obtain ⟨A, n, c, l, hv, hc, hlen, hin, hb⟩ := open_flat LbL (P := Tryz.prog) (t := 22) (e := 40) (Q := fun x : Lab => x.1.size ≤ 140737488351232 ∧ x.2.size ≤ 140737488351232) Tryz.underlying22 (by kernel_rfl) (by decide) (fun _ _ _ h hw => open_lab1 h hw) h hw
  have eb : Tryz.prog.bytesOf 40 = 32 := by kernel_rfl
  rw [eb] at hb
  exact ⟨A, n, c, l, hv, hc, hlen, hin, hb⟩
set_option maxRecDepth 8000 in
theorem open_labs {base : Nat} {v : Value} {d : DataW H} {p : List MemPlace} (hok : Value.okWide Tryz.prog w .any base 22 v) (h : DataW.Trod enc Tryz.prog w 0 (fun _ => true) true 22 v d p) (hw : ∀ n ∈ d.weights Tryz.prog 22, n ≤ reachBytes) :
    ∃ A n c l, v = .slice A n c ∧ LIn w A n l := by
  obtain ⟨a, l, c, rfl⟩ := Go.WideShapes.okWide_slice Tryz.underlying22 hok
  obtain ⟨fuel, hf⟩ := h
  have hf' : DataW.trod enc Tryz.prog w 0 (fun _ => true) true fuel 22 [.slice a l c] = some (d, p) := hf
  exact open_labs1 hf' hw
end
end Go.Proofs.YtcohengppaighaaGreatDoor
