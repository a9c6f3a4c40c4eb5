/- Slots: two tables, each beside the document's, that do not hear of one another. -/
import Derived.Test.YtcampkaenlohbaaM24
set_option linter.unusedVariables false
set_option linter.unusedSimpArgs false
namespace Go.Proofs.Ytcampkaenlohbaa
open Go Go.V Go.B

structure Sd where
  p : Nat
  f : List Nat
  s : TS
  A : Option Addr
  n : Nat
  c : Nat
  ds : List DR
  mb : Nat
def Sd.blks (x : Sd) : List Nat := x.mb :: (x.f ++ dA x.A x.n)
structure SdAt (w0 W : World) (x : Sd) : Prop where
  t : Tb W (some x.p) x.f x.s
  d : Dc W x.A x.n x.s x.ds
  mB : BlkT W x.mb (dt (x.s.most : Int) x.A x.n x.c) 54
  x1 : ∀ b ∈ dA x.A x.n, b ∉ x.f
  x2 : x.mb ∉ x.f ∧ x.mb ∉ dA x.A x.n
  lo : w0.heap.size ≤ x.mb ∧ ∀ b ∈ x.f, w0.heap.size ≤ b
theorem SdAt.lt {w0 W : World} {x : Sd} (h : SdAt w0 W x) : ∀ b ∈ x.blks, b < W.heap.size := by
  intro b hb
  simp only [Sd.blks, List.mem_cons, List.mem_append] at hb
  rcases hb with rfl | hb | hb
  · exact h.mB.lt
  · exact h.t.lt b hb
  · exact dA_lt h.d b hb
theorem SdAt.ext {w0 W W' : World} {x : Sd} {F : List Nat} (h : SdAt w0 W x) (e : Ext F W W') (hF : ∀ b ∈ x.blks, b ∉ F) : SdAt w0 W' x :=
  ⟨h.t.ext e fun b hb => hF b (by simp [Sd.blks, hb]), h.d.extD e fun b hb => hF b (by simp [Sd.blks, hb]), h.mB.ext e (hF _ (by simp [Sd.blks])), h.x1, h.x2, h.lo⟩
structure Two (w0 W : World) (x y : Sd) : Prop where
  e : Ext [] w0 W
  a : SdAt w0 W x
  b : SdAt w0 W y
  dis : ∀ b ∈ x.blks, b ∉ y.blks
theorem Two.swap {w0 W : World} {x y : Sd} (h : Two w0 W x y) : Two w0 W y x := ⟨h.e, h.b, h.a, fun b hb hm => h.dis b hm hb⟩
theorem Two.ext0 {w0 W W' : World} {x y : Sd} (h : Two w0 W x y) (e : Ext [] W W') : Two w0 W' x y := ⟨h.e.trans e, h.a.ext e (by simp), h.b.ext e (by simp), h.dis⟩
/-- What was made of one of them is put in. -/
theorem SdAt.turn {w0 W W1 : World} {x : Sd} (h : SdAt w0 W x) (h0 : w0.heap.size ≤ W.heap.size) {f' : List Nat} {s' : TS} {A' : Option Addr} {n' c' : Nat} {ds' : List DR} (e : Ext x.f W W1) (t' : Tb W1 (some x.p) f' s') (d' : Dc W1 A' n' s' ds') (g1 : ∀ b ∈ f', b ∈ x.f ∨ W.heap.size ≤ b) (g2 : ∀ b ∈ dA A' n', b ∈ x.f ∨ b ∈ dA x.A x.n ∨ W.heap.size ≤ b) (g3 : ∀ b ∈ dA A' n', b ∉ f') :
    ∃ W2, Sem.run Try.prog (Instr.storeAt 54 (.pointer (some ⟨x.mb, 0, none⟩)) (.agg ⟨dt (s'.most : Int) A' n' c'⟩)) W1 = .ok () W2 ∧ Ext (x.mb :: x.f) W W2 ∧ SdAt w0 W2 ⟨x.p, f', s', A', n', c', ds', x.mb⟩ ∧ (∀ b ∈ Sd.blks ⟨x.p, f', s', A', n', c', ds', x.mb⟩, b ∈ x.blks ∨ W.heap.size ≤ b) := by
  have hlt := h.lt
  have hm := hlt x.mb (by simp [Sd.blks])
  have m1 := h.mB.ext e h.x2.1
  obtain ⟨W2, hr, b2, x2⟩ := dt_box (w0 := W1) m1 rfl (s'.most : Int) A' n' c'
  have n1 : x.mb ∉ f' := fun hb => by
    rcases g1 _ hb with h1 | h1
    · exact h.x2.1 h1
    · omega
  have n2 : x.mb ∉ dA A' n' := fun hb => by
    rcases g2 _ hb with h1 | h1 | h1
    · exact h.x2.1 h1
    · exact h.x2.2 h1
    · omega
  refine ⟨W2, hr, ⟨x2.os.trans e.os, x2.tape.trans e.tape, x2.output.trans e.output, Nat.le_trans e.size x2.size, fun q hq hmq => ?_⟩, ⟨t'.ext x2 (fun b hb hmb => n1 (by simp at hmb; exact hmb ▸ hb)), d'.extD x2 (fun b hb hmb => n2 (by simp at hmb; exact hmb ▸ hb)), b2, g3, ⟨n1, n2⟩, h.lo.1, fun b hb => ?_⟩, fun b hb => ?_⟩
  · simp only [List.mem_cons, not_or] at hmq
    rw [x2.same q (by have := e.size; omega) (by simpa using hmq.1), e.same q hq hmq.2]
  · rcases g1 b hb with h1 | h1
    · exact h.lo.2 b h1
    · omega
  · simp only [Sd.blks, List.mem_cons, List.mem_append] at hb ⊢
    rcases hb with h1 | h1 | h1
    · exact .inl (.inl h1)
    · rcases g1 b h1 with h2 | h2
      · exact .inl (.inr (.inl h2))
      · exact .inr h2
    · rcases g2 b h1 with h2 | h2 | h2
      · exact .inl (.inr (.inl h2))
      · exact .inl (.inr (.inr h2))
      · exact .inr h2
theorem Two.turn {w0 W W1 : World} {x y : Sd} (h : Two w0 W x y) {f' : List Nat} {s' : TS} {A' : Option Addr} {n' c' : Nat} {ds' : List DR} (e : Ext x.f W W1) (t' : Tb W1 (some x.p) f' s') (d' : Dc W1 A' n' s' ds') (g1 : ∀ b ∈ f', b ∈ x.f ∨ W.heap.size ≤ b) (g2 : ∀ b ∈ dA A' n', b ∈ x.f ∨ b ∈ dA x.A x.n ∨ W.heap.size ≤ b) (g3 : ∀ b ∈ dA A' n', b ∉ f') :
    ∃ W2, Sem.run Try.prog (Instr.storeAt 54 (.pointer (some ⟨x.mb, 0, none⟩)) (.agg ⟨dt (s'.most : Int) A' n' c'⟩)) W1 = .ok () W2 ∧ Two w0 W2 ⟨x.p, f', s', A', n', c', ds', x.mb⟩ y := by
  obtain ⟨W2, hr, e2, a2, hb⟩ := h.a.turn (c' := c') h.e.size e t' d' g1 g2 g3
  have hl := h.b.lt
  refine ⟨W2, hr, h.e.trans' e2 (fun b hb => .inr ?_), a2, h.b.ext e2 fun b hb hm => ?_, fun b hb1 hm => ?_⟩
  · simp only [List.mem_cons] at hb
    rcases hb with rfl | hb
    · exact h.a.lo.1
    · exact h.a.lo.2 b hb
  · refine h.dis b ?_ hb
    simp only [List.mem_cons] at hm
    rcases hm with rfl | hm
    · simp [Sd.blks]
    · simp [Sd.blks, hm]
  · rcases hb b hb1 with h1 | h1
    · exact h.dis b h1 hm
    · have := hl b hm; omega
theorem Two.ops {w0 W : World} {x y : Sd} (h : Two w0 W x y) {S : Option Addr} {ln : Nat} {ops : List Op} (ho : OpsAt w0 S ln ops) : ∀ w', Ext x.f W w' → OpsAt w' S ln ops := fun w' e =>
  ho.ext0 (h.e.trans' e fun b hb => .inr (h.a.lo.2 b hb))
end Go.Proofs.Ytcampkaenlohbaa
