/- A size and three lists of places, as they come in. -/
import Derived.Test.YtbaglnffgbnekaaDoorS7
import Derived.Test.YtbaglnffgbnekaaDoorL1
set_option linter.unusedVariables false
set_option linter.unusedSimpArgs false
namespace Go.Proofs.YtbaglnffgbnekaaDoor
open Go Go.V Go.B
open Go.ChangeShapes Go.WideShapes Go.ChangeAt Go.RowKit Go.Joins

structure Three where
  n : Int
  A : Option Addr
  la : Nat
  ca : Nat
  xs : List Int
  B : Option Addr
  lb : Nat
  cb : Nat
  ys : List Int
  D : Option Addr
  ld : Nat
  cd : Nat
  zs : List Int
def Three.cells (t : Three) : List Value := [.int .i64 t.n, .slice t.A t.la t.ca, .slice t.B t.lb t.cb, .slice t.D t.ld t.cd]
def Three.val (t : Three) : Value := .agg ⟨t.cells⟩
structure Three.In (t : Three) (w : World) : Prop where
  n0 : -9223372036854775808 ≤ t.n
  n1 : t.n ≤ 9223372036854775807
  a : Ints w .i64 t.A t.la t.xs
  al : t.la * 8 ≤ 140737488351232
  b : Ints w .i64 t.B t.lb t.ys
  bl : t.lb * 8 ≤ 140737488351232
  d : Ints w .i64 t.D t.ld t.zs
  dl : t.ld * 8 ≤ 140737488351232
theorem Three.In.ext0 {t : Three} {w w' : World} (h : t.In w) (e : Ext [] w w') : t.In w' := ⟨h.n0, h.n1, h.a.ext0 e, h.al, h.b.ext0 e, h.bl, h.d.ext0 e, h.dl⟩
theorem Three.In.ext {F : List Nat} {t : Three} {w w' : World} (h : t.In w) (e : Ext F w w') (hA : ∀ ad, t.A = some ad → ad.block ∉ F) (hB : ∀ ad, t.B = some ad → ad.block ∉ F) (hD : ∀ ad, t.D = some ad → ad.block ∉ F) : t.In w' :=
  ⟨h.n0, h.n1, h.a.ext e hA, h.al, h.b.ext e hB, h.bl, h.d.ext e hD, h.dl⟩
theorem cells_three : Tryd.prog.cellsOf 24 = 4 := by kernel_rfl
theorem open_three {H : Type} {enc : TypeId × Value → H} {W : World} {base : Nat} {v : Value} {d : DataW H} {p : List MemPlace} (hok : Value.okWide Tryd.prog W .any base 24 v)
    (h : DataW.Trod enc Tryd.prog W 0 (fun _ => true) true 24 v d p) (hw : ∀ n ∈ d.weights Tryd.prog 24, n ≤ reachBytes) : ∃ t : Three, v = t.val ∧ t.In W := by
  obtain ⟨c0, c1, c2, c3, y0, y1, y2, y3, m, rfl, rfl, rfl, h0, h1, h2, h3⟩ := open_agg4 Tryd.underlying24 (by kernel_rfl) cells_three hok h
  obtain ⟨a, e0, rfl, wa⟩ := DataW.trod_int Tryd.underlying3 h0
  simp at e0
  subst e0
  have hw' : ∀ (y : DataW H × List MemPlace), y = y1 ∨ y = y2 ∨ y = y3 → ∀ n ∈ y.1.weights Tryd.prog 22, n ≤ reachBytes := fun y hy n hn => by
    apply hw n
    simp only [DataW.weights, Tryd.underlying24]
    rcases hy with rfl | rfl | rfl <;> simp [DataW.weightsEach, hn]
  obtain ⟨A, la, ca, xs, rfl, hx, lx⟩ := open_list Tryd.underlying22 Tryd.underlying3 (by kernel_rfl) (by kernel_rfl) h1 (hw' y1 (.inl rfl))
  obtain ⟨B, lb, cb, ys, rfl, hy, ly⟩ := open_list Tryd.underlying22 Tryd.underlying3 (by kernel_rfl) (by kernel_rfl) h2 (hw' y2 (.inr (.inl rfl)))
  obtain ⟨D, ld, cd, zs, rfl, hz, lz⟩ := open_list Tryd.underlying22 Tryd.underlying3 (by kernel_rfl) (by kernel_rfl) h3 (hw' y3 (.inr (.inr rfl)))
  have wb : IntKind.min .i64 ≤ a ∧ a ≤ IntKind.max .i64 := by simpa [Lit.wf] using wa
  have e1 : IntKind.min .i64 = -9223372036854775808 := by decide
  have e2 : IntKind.max .i64 = 9223372036854775807 := by decide
  rw [e1, e2] at wb
  exact ⟨⟨a, A, la, ca, xs, B, lb, cb, ys, D, ld, cd, zs⟩, rfl, wb.1, wb.2, hx, lx, hy, ly, hz, lz⟩
theorem own : ownKnob Tryd.prog.godebug = none := by kernel_rfl
theorem laidOut : laidOutB Tryd.prog = true := by kernel_rfl
end Go.Proofs.YtbaglnffgbnekaaDoor
