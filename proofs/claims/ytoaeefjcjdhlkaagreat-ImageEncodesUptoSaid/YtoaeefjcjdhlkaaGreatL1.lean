/- How a statement with one argument, which returns true and leaves all as it was, is brought to its row; generic, no program. -/
import Derived.Test.YtoaeefjcjdhlkaaGreatB
import Derived.ProofKit
import Derived.OpenShut
import Derived.ShutString
import Derived.ChangeOld
import Derived.ChangeSlices
import Derived.Below
import Derived.Carry
import Derived.Lib.SmallJoins
import Derived.SizedLaws
set_option linter.unusedVariables false
set_option linter.unusedSimpArgs false
namespace Go.B
open Go.V
open Go.ChangeShapes Go.WideShapes Go.ChangeAt Go.RowKit
open Go.ChangeMaps (open_string shut_string)

theorem lift1 {C : Checked} {f : FuncId} {fn : Func} {s : ChangeSpec} {conds : List PathCond} {T tb : TypeId}
    (own : ownKnob C.prog.godebug = none) (noInit : C.prog.inits.idxOf? f = none) (hfn : C.prog.funcs[f]? = some fn) (hp : fn.params = #[T]) (hr : fn.resultTypes = #[tb]) (hb : C.prog.underlying tb = some .bool)
    (hv : s.vars = []) (hs : ∀ (H : Type) (d : DataW H), s.fn H [d] = { results := [.lit (.bool true)], args := [d] }) (lo : laidOutB C.prog = true) (hread : C.prog.readableRec T = true) (hrow : T < C.prog.types.size)
    (os : Os) (started : os.Started) (H : Type) (enc : TypeId × Value → H)
    (walk : ∀ (W : World) (base : Nat) (v : Value) (d : DataW H) (p : List MemPlace), Value.okWide C.prog W .any base T v → DataW.Trod enc C.prog W 0 (fun _ => true) true T v d p → (∀ n ∈ d.weights C.prog T, n ≤ reachBytes) →
      Calls C.prog f #[v] W fun e W' => e = .returned (.bool true) ∧ Below W.heap.size W W')
    (witness : ∃ (w : World) (tape : Tape) (i : Input), w.os = os ∧ (w.forCall tape i).Shaped C.prog ∧ i.vars = [] ∧ Input.okWide C.prog (w.forCall tape i) .any w.heap.size f i ∧
      s.pre6 enc C.prog fn conds false (w.forCall tape i).memory i.args ∧ ({} : Assume).holds C.prog (lone (Frame.enter C.prog f i.args .normal) [] (w.forCall tape i))) :
    ReturnsInHanded {} C os f .any (s.pre6 enc C.prog fn conds false) (s.post enc C.prog fn false true false false) := by
  refine returnsInHanded_of_change_sized own started noInit hfn witness ?_
  intro W base args ds gs before hval hW hcnd hsz _
  have hW' := hW
  obtain ⟨p, q, hA, hV, rfl, hfz, hnd⟩ := hW
  rw [hv] at hV
  obtain ⟨rfl, rfl⟩ := trodVars_none hV
  rw [hp] at hA
  obtain ⟨v0, d0, ha, rfl, h0⟩ := trodAll_one hA
  obtain rfl : args = #[v0] := by
    cases args; simp_all
  have hlt : ∀ x ∈ p, x.block < W.heap.size := fun x hx => by
    have := hW'.lt x (by simp [hx])
    simpa using this
  have hw : ∀ n ∈ d0.weights C.prog T, n ≤ reachBytes := fun n hn => by
    have := List.all_eq_true.1 hsz n (DataW.weights_mem_each (j := 0) (t := T) (d := d0) (by rw [hp]; rfl) rfl n hn)
    simpa using this
  refine (walk W base v0 d0 p (hval 0 T v0 (by rw [hp]; rfl) rfl) h0 hw).mono fun e W' ⟨he, bel⟩ => ?_
  subst he
  refine ⟨_, rfl, _, _, _, [], p, [], hW', ?_, ?_, ?_, bel.frame _, fun h => by cases h⟩
  · rw [hr, List.append_nil, hs]
    exact trodAll_mk1 (shut_bool hb _)
  · rw [hp, List.append_nil, hs]
    exact trodAll_mk1 (Below.trod lo hread hrow h0 bel hlt)
  · rw [hv, List.append_nil, hs]; rfl
/-- A list of whole numbers that came in. -/
theorem open_list {H : Type} {enc : TypeId × Value → H} {w : World} {fuel : Nat} {v : Value} {y : DataW H × List MemPlace} {P : Program} {t e : TypeId} (ht : P.underlying t = some (.slice e)) (he : P.underlying e = some (.int .i64)) (hc : P.cellsOf e = 1) (hby : P.bytesOf e = 8)
    (h : DataW.trod enc P w 0 (fun _ => true) true fuel t [v] = some y) (hw : ∀ n ∈ y.1.weights P t, n ≤ reachBytes) :
    ∃ A l c xs, v = .slice A l c ∧ Ints w .i64 A l xs ∧ l * 8 ≤ 140737488351232 := by
  rcases open_ints ht he hc h with ⟨hcs, hx⟩ | ⟨a, len, cap, zs, hcs, _, hl, hm, hz, hx, hcell, hwz⟩
  · injection hcs with hv _
    exact ⟨none, 0, 0, [], hv, Ints.nil _ _ _, by omega⟩
  · injection hcs with hv _
    simp only [if_true] at hz
    refine ⟨some a, len, cap, zs.take len, hv, ⟨by simp; omega, fun j hj => ⟨a, rfl, ?_⟩⟩, ?_⟩
    · rw [hcell j (by omega)]
      simp [List.getD_eq_getElem?_getD, List.getElem?_take, hj]
    · rw [hx] at hw
      have := hw (((lits (H := H) .i64 (zs.take len)).length + (lits (H := H) .i64 (zs.drop len)).length) * 8) (by simp [DataW.weights, ht, hby])
      simp only [lits, List.length_map, List.length_take, List.length_drop, reachBytes] at this
      omega
end Go.B
