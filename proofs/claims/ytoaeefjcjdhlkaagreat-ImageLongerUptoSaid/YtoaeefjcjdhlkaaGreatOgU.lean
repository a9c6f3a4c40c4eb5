/- The lifts for statements over inputs of bounded bulk; generic, no program. -/
import Derived.Test.YtoaeefjcjdhlkaaGreatOg
import Derived.Deep.DeepHandedRow
set_option linter.unusedVariables false
set_option linter.unusedSimpArgs false
namespace Go.B
open Go.V
open Go.ChangeShapes Go.WideShapes Go.ChangeAt Go.RowKit Go.Joins Go.Deep

/-- The lift with two arguments and a condition of the row's own. -/
theorem lift2U {C : Checked} {f : FuncId} {fn : Func} {s : OpenSpec} {k : (H : Type) → List (DataW H) → Bool} (hk : s.cond = some k) {conds : List PathCond} {T U tb : TypeId}
    (own : ownKnob C.prog.godebug = none) (noInit : C.prog.inits.idxOf? f = none) (hfn : C.prog.funcs[f]? = some fn) (hp : fn.params = #[T, U]) (hr : fn.resultTypes = #[tb]) (hb : C.prog.underlying tb = some .bool)
    (hv : s.vars = []) (hs : ∀ (F : Stop.Interp) (H : Type) (d d' : DataW H), s.fn F H [d, d'] = { results := [.lit (.bool true)], args := [d, d'] }) (lo : laidOutB C.prog = true) (hread : C.prog.readableRec T = true) (hrow : T < C.prog.types.size) (hread2 : C.prog.readableRec U = true) (hrow2 : U < C.prog.types.size)
    (os : Os) (started : os.Started) (H : Type) (enc : TypeId × Value → H) (F : Stop.Interp)
    (walk : ∀ (W : World) (base : Nat) (v v' : Value) (d d' : DataW H) (p p' : List MemPlace), Value.okWide C.prog W .any base T v → DataW.Trod enc C.prog W 0 (fun _ => true) true T v d p → (∀ n ∈ d.weights C.prog T, n ≤ reachBytes) →
      Value.okWide C.prog W .any base U v' → DataW.Trod enc C.prog W 0 (fun _ => true) true U v' d' p' → (∀ n ∈ d'.weights C.prog U, n ≤ reachBytes) → k H [d, d'] = true →
      Calls C.prog f #[v, v'] W fun e W' => e = .returned (.bool true) ∧ Below W.heap.size W W')
    (witness : ∃ (w : World) (tape : Tape) (i : Input), w.os = os ∧ (w.forCall tape i).Shaped C.prog ∧ i.vars = [] ∧ Input.okWide C.prog (w.forCall tape i) .any w.heap.size f i ∧
      s.pre6 enc C.prog fn conds false (w.forCall tape i).memory i.args ∧ ({} : Assume).holds C.prog (lone (Frame.enter C.prog f i.args .normal) [] (w.forCall tape i))) :
    ReturnsInHanded {} C os f .any (s.preRow enc C.prog fn conds false []) ((s.at F).post enc C.prog fn false true false false) := by
  refine returnsInHanded_of_row own started noInit hfn ?_ ?_
  · obtain ⟨w, tape, i, a1, a2, a3, a4, ⟨a5, a6⟩, a7⟩ := witness
    exact ⟨w, tape, i, a1, a2, a3, a4, ⟨⟨a5, show laidMet _ _ _ from ⟨[], rfl, List.nodup_nil, fun b off h => by cases h⟩⟩, a6⟩, a7⟩
  intro W base args ds gs before hval hW hcnd hkk hsz _ _ _
  have hW' := hW
  obtain ⟨p, q, hA, hV, rfl, hfz, hnd⟩ := hW
  rw [hv] at hV
  obtain ⟨rfl, rfl⟩ := trodVars_none hV
  rw [hp] at hA
  obtain ⟨args⟩ := args
  obtain ⟨v0, v1, d0, d1, p0, p1, rfl, rfl, h0, h1, rfl⟩ := trodAll_two hA
  have hlt : ∀ x ∈ p0 ++ (p1 ++ []), x.block < W.heap.size := fun x hx => by
    have := hW'.lt x (by simpa using hx)
    simpa using this
  have hw0 : ∀ n ∈ d0.weights C.prog T, n ≤ reachBytes := fun n hn => by
    have := List.all_eq_true.1 hsz n (DataW.weights_mem_each (j := 0) (t := T) (d := d0) (by rw [hp]; rfl) rfl n hn)
    simpa using this
  have hw1 : ∀ n ∈ d1.weights C.prog U, n ≤ reachBytes := fun n hn => by
    have := List.all_eq_true.1 hsz n (DataW.weights_mem_each (j := 1) (t := U) (d := d1) (by rw [hp]; rfl) rfl n hn)
    simpa using this
  refine (walk W base v0 v1 d0 d1 p0 p1 (hval 0 T v0 (by rw [hp]; rfl) rfl) h0 hw0 (hval 1 U v1 (by rw [hp]; rfl) rfl) h1 hw1 (hkk k hk)).mono fun e W' ⟨he, bel⟩ => ?_
  subst he
  refine ⟨_, rfl, _, _, _, [], p0 ++ (p1 ++ []), [], hW', ?_, ?_, ?_, bel.frame _, fun h => by cases h⟩
  · rw [hr, List.append_nil]
    show DataW.TrodAll _ _ _ _ _ _ _ _ (s.fn F H [d0, d1]).results _
    rw [hs]
    exact trodAll_mk1 (shut_bool hb _)
  · rw [hp, List.append_nil]
    show DataW.TrodAll _ _ _ _ _ _ _ _ (s.fn F H [d0, d1]).args _
    rw [hs]
    exact ⟨p0, p1 ++ [], Below.trod lo hread hrow h0 bel (fun x hx => hlt x (by simp [hx])), ⟨p1, [], Below.trod lo hread2 hrow2 h1 bel (fun x hx => hlt x (by simp [hx])), rfl, rfl⟩, rfl⟩
  · show DataW.TrodVars _ _ _ _ s.vars (s.fn F H [d0, d1]).vars _
    rw [hv, hs]; rfl
end Go.B
