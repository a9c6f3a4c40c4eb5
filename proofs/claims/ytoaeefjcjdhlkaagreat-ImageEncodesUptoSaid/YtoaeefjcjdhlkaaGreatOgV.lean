/- A list of structs that came in, with what its reading says of each; the lift with one argument for inputs of bounded bulk; generic, no program. -/
import Derived.Test.YtoaeefjcjdhlkaaGreatOg
import Derived.Deep.DeepHandedRow
set_option linter.unusedVariables false
set_option linter.unusedSimpArgs false
namespace Go.B
open Go.V
open Go.ChangeShapes Go.WideShapes Go.ChangeAt Go.RowKit Go.Joins Go.Deep

section
variable {H : Type} {enc : TypeId × Value → H} {P : Program} {w : World} {base : Nat} {spare : Nat → Bool} {held : Bool}
/-- One field's reading is a part of the struct's. -/
theorem trod_part {fs : Array Field} {t : TypeId} {fuel : Nat} {cs : List Value} {x : DataW H × List MemPlace} (ht : P.underlying t = some (.struct fs)) (hone : oneCellFields P fs = true) (hC : P.cellsOf t = fs.size)
    (h : DataW.trod enc P w base spare held fuel t cs = some x) {i : Nat} {f : Field} (hi : fs[i]? = some f) {v : Value} (hv : cs[i]? = some v) : ∃ n y ps, DataW.trod enc P w base spare held n f.type [v] = some y ∧ x.1 = .agg ps ∧ y.1 ∈ ps := by
  obtain ⟨xs, n, _, rfl, hl, hlen, hf⟩ := DataW.trod_struct ht h
  obtain ⟨ho, hk⟩ := hone_of hone i f hi
  have hil : i < fs.size := (Array.getElem?_eq_some_iff.1 hi).1
  obtain ⟨y, hy⟩ : ∃ y, xs[i]? = some y := ⟨xs[i]'(by omega), List.getElem?_eq_getElem (by omega)⟩
  have hcl := hl.trans hC
  have hq := hf i f hi
  have hd : (cs.drop i).take 1 = [v] := by
    rw [List.drop_eq_getElem_cons (by omega)]
    obtain ⟨hb, e⟩ := List.getElem?_eq_some_iff.1 hv
    simp [e]
  rw [ho, hk, hd, hy] at hq
  exact ⟨n, y, _, hq, rfl, List.mem_map_of_mem (List.mem_of_getElem? hy)⟩
/-- A list of structs that came in; what holds of the readings of all its rows. -/
theorem open_flatM {α : Type} (L : Lay α) {Q : α → Prop} {M : DataW H → Prop} {t e : TypeId} {fuel : Nat} {v : Value} {y : DataW H × List MemPlace} (ht : P.underlying t = some (.slice e)) (hsz : P.cellsOf e = L.sz) (hpos : 0 < L.sz)
    (each : ∀ (n : Nat) (cs : List Value) (z : DataW H × List MemPlace), DataW.trod enc P w base spare held n e cs = some z → (∀ k ∈ z.1.weights P e, k ≤ reachBytes) → M z.1 → ∃ x : α, cs = L.enc x ∧ Q x)
    (h : DataW.trod enc P w base spare held fuel t [v] = some y) (hw : ∀ n ∈ y.1.weights P t, n ≤ reachBytes) (hM : ∀ els sp, y.1 = .slice els sp → ∀ d ∈ els, M d) :
    ∃ A l c xs, v = .slice A l c ∧ Cells w A (L.flat xs) ∧ xs.length = l ∧ (∀ x ∈ xs, Q x) ∧ l * P.bytesOf e ≤ 140737488351232 := by
  rcases DataW.trod_slice ht h with ⟨hcs, rfl⟩ | ⟨a, len, cap, elems, rest, n, _, hcs, rfl, hb, hl, hm, hlen, hel, hsp, hns⟩
  · injection hcs with hv _
    exact ⟨none, 0, 0, [], hv, Cells.nil _ _, rfl, by simp, by omega⟩
  injection hcs with hv _
  subst hv
  have hsum : len * P.bytesOf e ≤ 140737488351232 := by
    have := hw ((((elems.map (·.1)).length + (rest.map (·.1)).length)) * P.bytesOf e) (by simp [DataW.weights, ht])
    simp only [List.length_map, reachBytes, hlen] at this
    exact Nat.le_trans (Nat.mul_le_mul_right _ (Nat.le_add_right _ _)) this
  obtain ⟨xs, hxl, hx⟩ := list_of (Q := fun i x => (∀ k, k < L.sz → w.cell? ((a.add (i * L.sz)).add k) = (L.enc x)[k]?) ∧ Q x) len fun i hi => by
    obtain ⟨z, hz⟩ : ∃ z, elems[i]? = some z := ⟨elems[i]'(by omega), List.getElem?_eq_getElem (by omega)⟩
    have hq := hel i hi
    rw [hz, Option.bind_eq_some_iff] at hq
    obtain ⟨cs, hcs, htr⟩ := hq
    obtain ⟨x, rfl, hQ⟩ := each n cs z htr (fun k hk => hw k (by
      simp only [DataW.weights, ht, List.mem_cons, List.mem_append]
      exact .inr (.inl (weights_all (List.mem_map_of_mem (List.mem_of_getElem? hz)) k hk)))) (hM _ _ rfl _ (List.mem_map_of_mem (List.mem_of_getElem? hz)))
    rw [hsz] at hcs
    exact ⟨x, (World.cells?_some hcs).2.2, hQ⟩
  refine ⟨some a, len, cap, xs, rfl, fun j v hj => ⟨a, rfl, ?_⟩, hxl, fun x hxm => ?_, hsum⟩
  · have hjl := (List.getElem?_eq_some_iff.1 hj).1
    rw [L.flat_len] at hjl
    have hi : j / L.sz < xs.length := Nat.div_lt_of_lt_mul (by rwa [Nat.mul_comm] at hjl)
    have hk : j % L.sz < L.sz := Nat.mod_lt _ hpos
    obtain ⟨x, hxx⟩ : ∃ x, xs[j / L.sz]? = some x := ⟨xs[j / L.sz]'hi, List.getElem?_eq_getElem hi⟩
    obtain ⟨u, hu⟩ : ∃ u, (L.enc x)[j % L.sz]? = some u := ⟨(L.enc x)[j % L.sz]'(by rw [L.len]; exact hk), List.getElem?_eq_getElem (by rw [L.len]; exact hk)⟩
    have e1 := L.flat_at hxx hu
    have e2 : j / L.sz * L.sz + j % L.sz = j := by rw [Nat.mul_comm]; exact Nat.div_add_mod j L.sz
    rw [e2, hj] at e1
    cases e1
    have := (hx _ _ hxx).1 (j % L.sz) hk
    rwa [Addr.add_add, e2, hu] at this
  · obtain ⟨i, hi⟩ := List.mem_iff_getElem?.1 hxm
    exact (hx i x hi).2
end
/-- The lift with one argument and a condition of the row's own. -/
theorem lift1U {C : Checked} {f : FuncId} {fn : Func} {s : OpenSpec} {k : (H : Type) → List (DataW H) → Bool} (hk : s.cond = some k) {conds : List PathCond} {T tb : TypeId}
    (own : ownKnob C.prog.godebug = none) (noInit : C.prog.inits.idxOf? f = none) (hfn : C.prog.funcs[f]? = some fn) (hp : fn.params = #[T]) (hr : fn.resultTypes = #[tb]) (hb : C.prog.underlying tb = some .bool)
    (hv : s.vars = []) (hs : ∀ (F : Stop.Interp) (H : Type) (d : DataW H), s.fn F H [d] = { results := [.lit (.bool true)], args := [d] }) (lo : laidOutB C.prog = true) (hread : C.prog.readableRec T = true) (hrow : T < C.prog.types.size)
    (os : Os) (started : os.Started) (H : Type) (enc : TypeId × Value → H) (F : Stop.Interp)
    (walk : ∀ (W : World) (base : Nat) (v : Value) (d : DataW H) (p : List MemPlace), Value.okWide C.prog W .any base T v → DataW.Trod enc C.prog W 0 (fun _ => true) true T v d p → (∀ n ∈ d.weights C.prog T, n ≤ reachBytes) → k H [d] = true →
      Calls C.prog f #[v] W fun e W' => e = .returned (.bool true) ∧ Below W.heap.size W W')
    (witness : ∃ (w : World) (tape : Tape) (i : Input), w.os = os ∧ (w.forCall tape i).Shaped C.prog ∧ i.vars = [] ∧ Input.okWide C.prog (w.forCall tape i) .any w.heap.size f i ∧
      s.pre6 enc C.prog fn conds false (w.forCall tape i).memory i.args ∧ ({} : Assume).holds C.prog (lone (Frame.enter C.prog f i.args .normal) [] (w.forCall tape i))) :
    ReturnsInHanded {} C os f .any (s.preRow enc C.prog fn conds false []) ((s.at F).post enc C.prog fn false true false false) := by
  refine returnsInHanded_of_row own started noInit hfn ?_ ?_
  · obtain ⟨w, tape, i, a1, a2, a3, a4, ⟨a5, a6⟩, a7⟩ := witness
    exact ⟨w, tape, i, a1, a2, a3, a4, ⟨⟨a5, show laidMet _ _ _ from ⟨[], rfl, List.nodup_nil, fun b off h => by cases h⟩⟩, a6⟩, a7⟩
  intro W base args ds gs before hval hW hcnd hkk hsz _ _ _
  have hW' := hW
  obtain ⟨p, q, hA, hV, rfl, hfz, hnd⟩ := hW
  rw [hv] at hV
  obtain ⟨rfl, rfl⟩ := trodVars_none hV
  rw [hp] at hA
  obtain ⟨v0, d0, ha, rfl, h0⟩ := trodAll_one hA
  obtain rfl : args = #[v0] := by
    cases args; simp_all
  have hlt : ∀ x ∈ p, x.block < W.heap.size := fun x hx => by
    have := hW'.lt x (by simp [hx])
    simpa using this
  have hw : ∀ n ∈ d0.weights C.prog T, n ≤ reachBytes := fun n hn => by
    have := List.all_eq_true.1 hsz n (DataW.weights_mem_each (j := 0) (t := T) (d := d0) (by rw [hp]; rfl) rfl n hn)
    simpa using this
  refine (walk W base v0 d0 p (hval 0 T v0 (by rw [hp]; rfl) rfl) h0 hw (hkk k hk)).mono fun e W' ⟨he, bel⟩ => ?_
  subst he
  refine ⟨_, rfl, _, _, _, [], p, [], hW', ?_, ?_, ?_, bel.frame _, fun h => by cases h⟩
  · rw [hr, List.append_nil]
    show DataW.TrodAll _ _ _ _ _ _ _ _ (s.fn F H [d0]).results _
    rw [hs]
    exact trodAll_mk1 (shut_bool hb _)
  · rw [hp, List.append_nil]
    show DataW.TrodAll _ _ _ _ _ _ _ _ (s.fn F H [d0]).args _
    rw [hs]
    exact trodAll_mk1 (Below.trod lo hread hrow h0 bel hlt)
  · show DataW.TrodVars _ _ _ _ s.vars (s.fn F H [d0]).vars _
    rw [hv, hs]; rfl
end Go.B
