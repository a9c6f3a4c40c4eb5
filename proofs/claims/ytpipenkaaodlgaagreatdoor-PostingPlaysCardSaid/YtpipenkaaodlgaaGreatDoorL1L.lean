/- How a statement with one argument is brought to its row where the row lists variables with their content; generic, no program. -/
import Derived.Test.YtpipenkaaodlgaaGreatDoorL1
import Derived.Deep.DeepHandedRow
import Derived.Lib.LaidTab
set_option linter.unusedVariables false
set_option linter.unusedSimpArgs false
namespace Go.B
open Go.V
open Go.ChangeShapes Go.WideShapes Go.ChangeAt Go.RowKit

theorem lift1L {C : Checked} {f : FuncId} {fn : Func} {s : ChangeSpec} {conds : List PathCond} {T tb : TypeId} {laid : List (String × DataW Unit)}
    (own : ownKnob C.prog.godebug = none) (noInit : C.prog.inits.idxOf? f = none) (hfn : C.prog.funcs[f]? = some fn) (hp : fn.params = #[T]) (hr : fn.resultTypes = #[tb]) (hb : C.prog.underlying tb = some .bool)
    (hv : s.vars = []) (hs : ∀ (H : Type) (d : DataW H), s.fn H [d] = { results := [.lit (.bool true)], args := [d] }) (lo : laidOutB C.prog = true) (hread : C.prog.readableRec T = true) (hrow : T < C.prog.types.size)
    (os : Os) (started : os.Started) (H : Type) (enc : TypeId × Value → H) (F : Stop.Interp)
    (walk : ∀ (W : World) (base : Nat) (v : Value) (d : DataW H) (p : List MemPlace), Value.okWide C.prog W .any base T v → DataW.Trod enc C.prog W 0 (fun _ => true) true T v d p → (∀ n ∈ d.weights C.prog T, n ≤ reachBytes) → laidMetH C.prog laid W →
      Calls C.prog f #[v] W fun e W' => e = .returned (.bool true) ∧ Below W.heap.size W W')
    (witness : ∃ (w : World) (tape : Tape) (i : Input), w.os = os ∧ (w.forCall tape i).Shaped C.prog ∧ i.vars = [] ∧ Input.okWide C.prog (w.forCall tape i) .any w.heap.size f i ∧
      (OpenSpec.ofChange s).preRow enc C.prog fn conds false laid (w.forCall tape i).memory i.args ∧ ({} : Assume).holds C.prog (lone (Frame.enter C.prog f i.args .normal) [] (w.forCall tape i))) :
    ReturnsInHanded {} C os f .any ((OpenSpec.ofChange s).preRow enc C.prog fn conds false laid) (((OpenSpec.ofChange s).at F).post enc C.prog fn false true false false) := by
  refine returnsInHanded_of_row own started noInit hfn witness ?_
  intro W base args ds gs before hval hW hcnd _ hsz hL _ _
  have hW' : DataW.Whole enc C.prog fn.params.toList s.vars false W args.toList ds gs before := hW
  obtain ⟨p, q, hA, hV, rfl, hfz, hnd⟩ := hW'
  have hW' : DataW.Whole enc C.prog fn.params.toList s.vars false W args.toList ds gs (p ++ q) := hW
  rw [hv] at hV
  obtain ⟨rfl, rfl⟩ := trodVars_none hV
  rw [hp] at hA
  obtain ⟨v0, d0, ha, rfl, h0⟩ := trodAll_one hA
  obtain rfl : args = #[v0] := by
    cases args; simp_all
  have hlt : ∀ x ∈ p, x.block < W.heap.size := fun x hx => by
    have := hW'.lt x (by simp [hx])
    simpa using this
  have hw : ∀ n ∈ d0.weights C.prog T, n ≤ reachBytes := fun n hn => by
    have := List.all_eq_true.1 hsz n (DataW.weights_mem_each (j := 0) (t := T) (d := d0) (by rw [hp]; rfl) rfl n hn)
    simpa using this
  refine (walk W base v0 d0 p (hval 0 T v0 (by rw [hp]; rfl) rfl) h0 hw hL).mono fun e W' ⟨he, bel⟩ => ?_
  subst he
  refine ⟨_, rfl, ?_⟩
  show s.post enc C.prog fn false true false false W _ _ W'
  refine ⟨_, _, _, [], p, [], hW', ?_, ?_, ?_, bel.frame _, fun h => by cases h⟩
  · rw [hr, List.append_nil, hs]
    exact trodAll_mk1 (shut_bool hb _)
  · rw [hp, List.append_nil, hs]
    exact trodAll_mk1 (Below.trod lo hread hrow h0 bel hlt)
  · rw [hv, List.append_nil, hs]; rfl
end Go.B
