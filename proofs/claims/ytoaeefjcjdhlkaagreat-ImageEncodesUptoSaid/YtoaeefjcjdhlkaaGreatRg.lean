/- Ranges over functions: what an iterator promises, and what its consumer owes; generic, no program. -/
import Derived.Test.YtoaeefjcjdhlkaaGreatG1
set_option linter.unusedVariables false
set_option linter.unusedSimpArgs false
namespace Go.V
open Go.B
theorem LoopSt.lt {W : World} {l : Nat} {Rc : Loop} {s : LoopState} {p : Option Code} (h : LoopSt W l Rc s p) : l < W.heap.size := (Array.getElem?_eq_some_iff.1 h).1
theorem LoopSt.ext {F : List Nat} {W W' : World} {l : Nat} {Rc : Loop} {s : LoopState} {p : Option Code} (h : LoopSt W l Rc s p) (e : Ext F W W') (hl : l ∉ F) : LoopSt W' l Rc s p := by
  unfold LoopSt at h ⊢
  rw [e.same l (LoopSt.lt h) hl]; exact h
end Go.V
namespace Go.B
open Go.V

theorem BlkT.ext0 {w w' : World} {b : Nat} {cs : List Value} {T : TypeId} (h : BlkT w b cs T) (e : Ext [] w w') : BlkT w' b cs T := h.ext e (by simp)
theorem setLoop_st {W : World} {l : Nat} {Rc : Loop} (s : LoopState) (p : Option Code) (h : l < W.heap.size) : LoopSt (setLoop W l Rc s p) l Rc s p := World.putObj_heap_same h
theorem setLoop_ext (W : World) (l : Nat) (Rc : Loop) (s : LoopState) (p : Option Code) : Ext [l] W (setLoop W l Rc s p) := putObj_ext W l _
theorem setLoop_size (W : World) (l : Nat) (Rc : Loop) (s : LoopState) (p : Option Code) : (setLoop W l Rc s p).heap.size = W.heap.size := by simp [setLoop, World.putObj]
/-- The mark of a frame's deferred calls. -/
def Mrk (W : World) (D : Nat) : Prop := W.heap[D]? = some (.deferred (some []))
theorem Mrk.lt {W : World} {D : Nat} (h : Mrk W D) : D < W.heap.size := (Array.getElem?_eq_some_iff.1 h).1
theorem Mrk.ext {F : List Nat} {W W' : World} {D : Nat} (h : Mrk W D) (e : Ext F W W') (hD : D ∉ F) : Mrk W' D := by
  unfold Mrk at h ⊢
  rw [e.same D (Mrk.lt h) hD]; exact h
theorem Ext.undrew {F : List Nat} {w w' : World} (h : Ext F w.drew w') : Ext F w w' := ⟨h.os, h.tape, h.output, h.size, h.same⟩
theorem mark_new (W : World) : Mrk (W.alloc (.deferred (some []))) W.heap.size := by
  show (W.heap.push _)[W.heap.size]? = _; simp
theorem loop_new (W : World) (Rc : Loop) : LoopSt (W.alloc (.loop { Rc with state := .ready, pending := none })) W.heap.size Rc .ready none := by
  show (W.heap.push _)[W.heap.size]? = _; simp
/-- A mark and a loop behind it. -/
theorem enter_new {W w1 : World} {l : Nat} {Rc : Loop} (hl : l = W.heap.size + 1) (h : w1 = (W.alloc (.deferred (some []))).alloc (.loop { Rc with state := .ready, pending := none })) : LoopSt w1 l Rc .ready none ∧ Mrk w1 W.heap.size ∧ Ext [] W w1 ∧ w1.heap.size = W.heap.size + 2 := by
  subst h
  subst hl
  have e1 : Ext [] W (W.alloc (.deferred (some []))) := (Ext.refl _ _).alloc _
  have e2 : Ext [] (W.alloc (.deferred (some []))) ((W.alloc (.deferred (some []))).alloc (.loop { Rc with state := .ready, pending := none })) := (Ext.refl _ _).alloc _
  refine ⟨?_, (mark_new W).ext e2 (by simp), e1.trans e2, by rw [World.size_alloc, World.size_alloc]⟩
  have := loop_new (W.alloc (.deferred (some []))) Rc
  rw [World.size_alloc] at this
  exact this
theorem close_one {W : World} {D : Nat} {K : World → Prop} (h : Mrk W D) (k : ∀ w', Ext [D] W w' → K w') : closeR [D] W K := ⟨h, k _ (putObj_ext W D _)⟩
section
variable {α : Type} {P : Program} {enc : α → List Value} {gf : FuncId} {cap : List Value} {ys : List α} {K : World → Prop}
/-- An iterator that yields ys, one by one, wherever K holds. -/
def Iter (P : Program) (enc : α → List Value) (gf : FuncId) (cap : List Value) (ys : List α) (K : World → Prop) : Prop :=
  ∀ (yl : Nat) (w : World) (J : List α → World → Prop) (Q : World → Prop) (R : Ending → World → Prop),
    J [] w → (∀ ps w1 w2, Ext [] w1 w2 → J ps w1 → J ps w2) → (∀ ps w1, J ps w1 → K w1) →
    (∀ ps y rest w1, ys = ps ++ y :: rest → J ps w1 → ∀ R' : Ending → World → Prop, (∀ w2, J (ps ++ [y]) w2 → R' (.returned (.bool true)) w2) → (∀ w2, Q w2 → R' (.returned (.bool false)) w2) → V.Yield P yl (enc y) w1 R') →
    (∀ w1, J ys w1 → R (.returned undef) w1) → (∀ w1, Q w1 → R (.returned undef) w1) →
    Calls P gf ⟨[Value.func (.yield yl) #[] #[]] ++ cap⟩ w R
/-- A range over it. -/
theorem Iter.range (it : Iter P enc gf cap ys K) {l : Nat} {Rc : Loop} {w : World} {I : List α → World → Prop} {Q : Code → World → Prop} {Bd : α → World → (Ending → World → Prop) → Prop} {FIN : World → Prop}
    (hy : ∀ y W R', LoopSt W l Rc .ready none → Bd y W R' → V.Yield P l (enc y) W R')
    (l0 : LoopSt w l Rc .ready none) (i0 : I [] w) (st : ∀ ps w1 w2, Ext [l] w1 w2 → I ps w1 → I ps w2) (stq : ∀ p w1 w2, Ext [l] w1 w2 → Q p w1 → Q p w2) (hK : ∀ ps w1, I ps w1 → K w1)
    (body : ∀ ps y rest W R', ys = ps ++ y :: rest → LoopSt W l Rc .ready none → LoopSt (setLoop W l Rc .busy none) l Rc .busy none → I ps (setLoop W l Rc .busy none) →
      (∀ w2, LoopSt w2 l Rc .busy none → I (ps ++ [y]) w2 → R' (.returned (.bool true)) (setLoop w2 l Rc .ready none)) →
      (∀ w2 p, LoopSt w2 l Rc .busy none → Q p w2 → R' (.returned (.bool false)) (setLoop w2 l Rc .done (some p))) → Bd y W R')
    (fin : ∀ w2, LoopSt w2 l Rc .ready none → I ys w2 → FIN w2) (fin2 : ∀ w2 p, LoopSt w2 l Rc .done (some p) → Q p w2 → FIN w2) :
    Calls P gf ⟨[Value.func (.yield l) #[] #[]] ++ cap⟩ w fun e w2 => (∃ v, e = .returned v) ∧ FIN w2 := by
  refine it l w (fun ps w1 => LoopSt w1 l Rc .ready none ∧ I ps w1) (fun w1 => ∃ p, LoopSt w1 l Rc .done (some p) ∧ Q p w1) _ ⟨l0, i0⟩ (fun ps w1 w2 e h => ⟨LoopSt.ext h.1 e (by simp), st ps w1 w2 e.up h.2⟩) (fun ps w1 h => hK ps w1 h.2) ?_ (fun w1 h => ⟨⟨_, rfl⟩, fin w1 h.1 h.2⟩) (fun w1 ⟨p, h⟩ => ⟨⟨_, rfl⟩, fin2 w1 p h.1 h.2⟩)
  rintro ps y rest w1 e ⟨h1, h2⟩ R' k1 k2
  refine hy y w1 R' h1 (body ps y rest w1 R' e h1 (setLoop_st _ _ (LoopSt.lt h1)) (st ps _ _ (setLoop_ext _ _ _ _ _) h2) (fun w2 hs hi => k1 _ ⟨setLoop_st _ _ (LoopSt.lt hs), st _ _ _ (setLoop_ext _ _ _ _ _) hi⟩) fun w2 p hs hq => k2 _ ⟨p, setLoop_st _ _ (LoopSt.lt hs), stq _ _ _ (setLoop_ext _ _ _ _ _) hq⟩)
/-- A range over it; the body begins in the world that is ready. -/
theorem Iter.range2 (it : Iter P enc gf cap ys K) {l : Nat} {Rc : Loop} {w : World} {I : List α → World → Prop} {Q : Code → World → Prop} {Bd : α → World → (Ending → World → Prop) → Prop} {FIN : World → Prop}
    (hy : ∀ y W R', LoopSt W l Rc .ready none → Bd y W R' → V.Yield P l (enc y) W R')
    (l0 : LoopSt w l Rc .ready none) (i0 : I [] w) (st : ∀ ps w1 w2, Ext [l] w1 w2 → I ps w1 → I ps w2) (stq : ∀ p w1 w2, Ext [l] w1 w2 → Q p w1 → Q p w2) (hK : ∀ ps w1, I ps w1 → K w1)
    (body : ∀ ps y rest W R', ys = ps ++ y :: rest → LoopSt W l Rc .ready none → I ps W →
      (∀ w2, LoopSt w2 l Rc .busy none → I (ps ++ [y]) w2 → R' (.returned (.bool true)) (setLoop w2 l Rc .ready none)) →
      (∀ w2 p, LoopSt w2 l Rc .busy none → Q p w2 → R' (.returned (.bool false)) (setLoop w2 l Rc .done (some p))) → Bd y W R')
    (fin : ∀ w2, LoopSt w2 l Rc .ready none → I ys w2 → FIN w2) (fin2 : ∀ w2 p, LoopSt w2 l Rc .done (some p) → Q p w2 → FIN w2) :
    Calls P gf ⟨[Value.func (.yield l) #[] #[]] ++ cap⟩ w fun e w2 => (∃ v, e = .returned v) ∧ FIN w2 := by
  refine it l w (fun ps w1 => LoopSt w1 l Rc .ready none ∧ I ps w1) (fun w1 => ∃ p, LoopSt w1 l Rc .done (some p) ∧ Q p w1) _ ⟨l0, i0⟩ (fun ps w1 w2 e h => ⟨LoopSt.ext h.1 e (by simp), st ps w1 w2 e.up h.2⟩) (fun ps w1 h => hK ps w1 h.2) ?_ (fun w1 h => ⟨⟨_, rfl⟩, fin w1 h.1 h.2⟩) (fun w1 ⟨p, h⟩ => ⟨⟨_, rfl⟩, fin2 w1 p h.1 h.2⟩)
  rintro ps y rest w1 e ⟨h1, h2⟩ R' k1 k2
  exact hy y w1 R' h1 (body ps y rest w1 R' e h1 h2 (fun w2 hs hi => k1 _ ⟨setLoop_st _ _ (LoopSt.lt hs), st _ _ _ (setLoop_ext _ _ _ _ _) hi⟩) fun w2 p hs hq => k2 _ ⟨p, setLoop_st _ _ (LoopSt.lt hs), stq _ _ _ (setLoop_ext _ _ _ _ _) hq⟩)
/-- A loop within a loop. -/
theorem inner_new {W w1 : World} {l : Nat} {Rc : Loop} (hl : l = W.heap.size) (h : w1 = W.alloc (.loop { Rc with state := .ready, pending := none })) : LoopSt w1 l Rc .ready none ∧ Ext [] W w1 ∧ w1.heap.size = W.heap.size + 1 := by
  subst h
  subst hl
  exact ⟨loop_new W Rc, (Ext.refl _ _).alloc _, by rw [World.size_alloc]⟩
end
/-- One of a row of one cell each is written over. -/
theorem OwnL.set1 {α : Type} {L : Lay α} {w : World} {B n c : Nat} {e : TypeId} {A : Option Addr} {xs : List α} {P : Program} (own : OwnL L w B e A n c xs) {i : Nat} {y : α} {v : Value} (hi : i < n) (hz : L.sz = 1) (hy : L.enc y = [v]) {t : TypeId} (ht : (P.info? t).map (·.size) = some 1) (hc : v.cells = #[v]) :
    ∃ g w', A = some ⟨g, 0, none⟩ ∧ (Instr.storeAt t (.pointer (some (Addr.add ⟨g, 0, none⟩ (i * 1)))) v).run P w = .ok () w' ∧ OwnL L w' B e A n c (xs.set i y) ∧ Ext (ownF A) w w' := by
  have hl := own.len
  have hx : xs[i]? = some (xs[i]'(by omega)) := List.getElem?_eq_getElem (by omega)
  have h1 : ∀ x, ∃ u, L.enc x = [u] := fun x => by
    have := L.len x
    rw [hz] at this
    match h : L.enc x, this with
    | [u], _ => exact ⟨u, rfl⟩
  obtain ⟨u, hu⟩ := h1 (xs[i]'(by omega))
  obtain ⟨g, w', hA, hr, h2⟩ := own.setCell (P := P) (i := i) (k := 0) (y := y) (v := v) hx (by omega) (by rw [hy, hu]; rfl) ht (L.one y v (by rw [hy]; simp)) hc
  rw [hz, Addr.add_zero'] at hr
  exact ⟨g, w', hA, hr, h2⟩
end Go.B
