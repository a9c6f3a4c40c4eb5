/- A list of structs that came in, as a flat row; the lift with two arguments; generic, no program. -/
import Derived.Test.YtoaeefjcjdhlkaaGreatFl
import Derived.Test.YtoaeefjcjdhlkaaGreatL1
set_option linter.unusedVariables false
set_option linter.unusedSimpArgs false
namespace Go.B
open Go.V
open Go.ChangeShapes Go.WideShapes Go.ChangeAt Go.RowKit Go.Joins Go.Deep

section
variable {H : Type} {enc : TypeId × Value → H} {P : Program} {w : World} {base : Nat} {spare : Nat → Bool} {held : Bool}
/-- The fields of a struct whose fields have one cell each. -/
theorem trod_fields {fs : Array Field} {t : TypeId} {fuel : Nat} {cs : List Value} {x : DataW H × List MemPlace} (ht : P.underlying t = some (.struct fs)) (hone : oneCellFields P fs = true) (hC : P.cellsOf t = fs.size)
    (h : DataW.trod enc P w base spare held fuel t cs = some x) (hw : ∀ k ∈ x.1.weights P t, k ≤ reachBytes) :
    cs.length = fs.size ∧ ∃ n, ∀ (i : Nat) (f : Field), fs[i]? = some f → ∃ v y, cs[i]? = some v ∧ DataW.trod enc P w base spare held n f.type [v] = some y ∧ ∀ k ∈ y.1.weights P f.type, k ≤ reachBytes := by
  obtain ⟨xs, n, _, rfl, hl, hlen, hf⟩ := DataW.trod_struct ht h
  refine ⟨hl.trans hC, n, fun i f hi => ?_⟩
  obtain ⟨ho, hk⟩ := hone_of hone i f hi
  have hil : i < fs.size := (Array.getElem?_eq_some_iff.1 hi).1
  obtain ⟨v, hv⟩ : ∃ v, cs[i]? = some v := ⟨cs[i]'(by omega), List.getElem?_eq_getElem (by omega)⟩
  obtain ⟨y, hy⟩ : ∃ y, xs[i]? = some y := ⟨xs[i]'(by omega), List.getElem?_eq_getElem (by omega)⟩
  have hq := hf i f hi
  have hd : (cs.drop i).take 1 = [v] := by
    rw [List.drop_eq_getElem_cons (by omega)]
    obtain ⟨hb, e⟩ := List.getElem?_eq_some_iff.1 hv
    simp [e]
  rw [ho, hk, hd, hy] at hq
  refine ⟨v, y, hv, hq, fun k hk => hw k ?_⟩
  simp only [DataW.weights, ht]
  exact DataW.weights_mem_each (j := i) (t := f.type) (d := y.1) (by simp [hi]) (by simp [hy]) k hk
theorem weights_all {e : TypeId} : ∀ {ds : List (DataW H)} {d : DataW H}, d ∈ ds → ∀ n ∈ d.weights P e, n ∈ DataW.weightsAll P e ds
  | x :: r, d, h, n, hn => by
    simp only [DataW.weightsAll, List.mem_append]
    rcases List.mem_cons.1 h with rfl | h
    · exact .inl hn
    · exact .inr (weights_all h n hn)
theorem list_of {α : Type} {Q : Nat → α → Prop} : ∀ (n : Nat), (∀ i, i < n → ∃ x, Q i x) → ∃ xs : List α, xs.length = n ∧ ∀ i x, xs[i]? = some x → Q i x
  | 0, _ => ⟨[], rfl, fun i x h => by simp at h⟩
  | n + 1, h => by
    obtain ⟨xs, hl, hq⟩ := list_of n fun i hi => h i (by omega)
    obtain ⟨x, hx⟩ := h n (by omega)
    refine ⟨xs ++ [x], by simp [hl], fun i y hy => ?_⟩
    by_cases hi : i < n
    · rw [List.getElem?_append_left (by omega)] at hy
      exact hq i y hy
    · have : i = n := by
        have := (List.getElem?_eq_some_iff.1 hy).1
        simp at this; omega
      subst this
      rw [List.getElem?_append_right (by omega), hl] at hy
      simp at hy; subst hy; exact hx
/-- A list of structs that came in. -/
theorem open_flat {α : Type} (L : Lay α) {Q : α → Prop} {t e : TypeId} {fuel : Nat} {v : Value} {y : DataW H × List MemPlace} (ht : P.underlying t = some (.slice e)) (hsz : P.cellsOf e = L.sz) (hpos : 0 < L.sz)
    (each : ∀ (n : Nat) (cs : List Value) (z : DataW H × List MemPlace), DataW.trod enc P w base spare held n e cs = some z → (∀ k ∈ z.1.weights P e, k ≤ reachBytes) → ∃ x : α, cs = L.enc x ∧ Q x)
    (h : DataW.trod enc P w base spare held fuel t [v] = some y) (hw : ∀ n ∈ y.1.weights P t, n ≤ reachBytes) :
    ∃ A l c xs, v = .slice A l c ∧ Cells w A (L.flat xs) ∧ xs.length = l ∧ (∀ x ∈ xs, Q x) ∧ l * P.bytesOf e ≤ 140737488351232 := by
  rcases DataW.trod_slice ht h with ⟨hcs, rfl⟩ | ⟨a, len, cap, elems, rest, n, _, hcs, rfl, hb, hl, hm, hlen, hel, hsp, hns⟩
  · injection hcs with hv _
    exact ⟨none, 0, 0, [], hv, Cells.nil _ _, rfl, by simp, by omega⟩
  injection hcs with hv _
  subst hv
  have hsum : len * P.bytesOf e ≤ 140737488351232 := by
    have := hw ((((elems.map (·.1)).length + (rest.map (·.1)).length)) * P.bytesOf e) (by simp [DataW.weights, ht])
    simp only [List.length_map, reachBytes, hlen] at this
    exact Nat.le_trans (Nat.mul_le_mul_right _ (Nat.le_add_right _ _)) this
  obtain ⟨xs, hxl, hx⟩ := list_of (Q := fun i x => (∀ k, k < L.sz → w.cell? ((a.add (i * L.sz)).add k) = (L.enc x)[k]?) ∧ Q x) len fun i hi => by
    obtain ⟨z, hz⟩ : ∃ z, elems[i]? = some z := ⟨elems[i]'(by omega), List.getElem?_eq_getElem (by omega)⟩
    have hq := hel i hi
    rw [hz, Option.bind_eq_some_iff] at hq
    obtain ⟨cs, hcs, htr⟩ := hq
    obtain ⟨x, rfl, hQ⟩ := each n cs z htr fun k hk => hw k (by
      simp only [DataW.weights, ht, List.mem_cons, List.mem_append]
      exact .inr (.inl (weights_all (List.mem_map_of_mem (List.mem_of_getElem? hz)) k hk)))
    rw [hsz] at hcs
    exact ⟨x, (World.cells?_some hcs).2.2, hQ⟩
  refine ⟨some a, len, cap, xs, rfl, fun j v hj => ⟨a, rfl, ?_⟩, hxl, fun x hxm => ?_, hsum⟩
  · have hjl := (List.getElem?_eq_some_iff.1 hj).1
    rw [L.flat_len] at hjl
    have hi : j / L.sz < xs.length := Nat.div_lt_of_lt_mul (by rwa [Nat.mul_comm] at hjl)
    have hk : j % L.sz < L.sz := Nat.mod_lt _ hpos
    obtain ⟨x, hxx⟩ : ∃ x, xs[j / L.sz]? = some x := ⟨xs[j / L.sz]'hi, List.getElem?_eq_getElem hi⟩
    obtain ⟨u, hu⟩ : ∃ u, (L.enc x)[j % L.sz]? = some u := ⟨(L.enc x)[j % L.sz]'(by rw [L.len]; exact hk), List.getElem?_eq_getElem (by rw [L.len]; exact hk)⟩
    have e1 := L.flat_at hxx hu
    have e2 : j / L.sz * L.sz + j % L.sz = j := by rw [Nat.mul_comm]; exact Nat.div_add_mod j L.sz
    rw [e2, hj] at e1
    cases e1
    have := (hx _ _ hxx).1 (j % L.sz) hk
    rwa [Addr.add_add, e2, hu] at this
  · obtain ⟨i, hi⟩ := List.mem_iff_getElem?.1 hxm
    exact (hx i x hi).2
end
theorem trodAll_two {H : Type} {enc : TypeId × Value → H} {P : Program} {w : World} {base : Nat} {spare : Nat → Bool} {held : Bool} {T U : TypeId} {vs : List Value} {ds : List (DataW H)} {p : List MemPlace} (h : DataW.TrodAll enc P w base spare held [T, U] vs ds p) :
    ∃ v0 v1 d0 d1 p0 p1, vs = [v0, v1] ∧ ds = [d0, d1] ∧ DataW.Trod enc P w base spare held T v0 d0 p0 ∧ DataW.Trod enc P w base spare held U v1 d1 p1 ∧ p = p0 ++ (p1 ++ []) := by
  rcases vs with _ | ⟨v0, _ | ⟨v1, _ | ⟨v2, vs⟩⟩⟩ <;> rcases ds with _ | ⟨d0, _ | ⟨d1, _ | ⟨d2, ds⟩⟩⟩ <;>
    first
    | (obtain ⟨p0, _, h0, ⟨p1, _, h1, rfl, rfl⟩, rfl⟩ := h; exact ⟨v0, v1, d0, d1, p0, p1, rfl, rfl, h0, h1, rfl⟩)
    | (exfalso; simp [DataW.TrodAll] at h)
/-- The lift with two arguments. -/
theorem lift2 {C : Checked} {f : FuncId} {fn : Func} {s : ChangeSpec} {conds : List PathCond} {T U tb : TypeId}
    (own : ownKnob C.prog.godebug = none) (noInit : C.prog.inits.idxOf? f = none) (hfn : C.prog.funcs[f]? = some fn) (hp : fn.params = #[T, U]) (hr : fn.resultTypes = #[tb]) (hb : C.prog.underlying tb = some .bool)
    (hv : s.vars = []) (hs : ∀ (H : Type) (d d' : DataW H), s.fn H [d, d'] = { results := [.lit (.bool true)], args := [d, d'] }) (lo : laidOutB C.prog = true) (hread : C.prog.readableRec T = true) (hrow : T < C.prog.types.size) (hread2 : C.prog.readableRec U = true) (hrow2 : U < C.prog.types.size)
    (os : Os) (started : os.Started) (H : Type) (enc : TypeId × Value → H)
    (walk : ∀ (W : World) (base : Nat) (v v' : Value) (d d' : DataW H) (p p' : List MemPlace), Value.okWide C.prog W .any base T v → DataW.Trod enc C.prog W 0 (fun _ => true) true T v d p → (∀ n ∈ d.weights C.prog T, n ≤ reachBytes) →
      Value.okWide C.prog W .any base U v' → DataW.Trod enc C.prog W 0 (fun _ => true) true U v' d' p' → (∀ n ∈ d'.weights C.prog U, n ≤ reachBytes) →
      Calls C.prog f #[v, v'] W fun e W' => e = .returned (.bool true) ∧ Below W.heap.size W W')
    (witness : ∃ (w : World) (tape : Tape) (i : Input), w.os = os ∧ (w.forCall tape i).Shaped C.prog ∧ i.vars = [] ∧ Input.okWide C.prog (w.forCall tape i) .any w.heap.size f i ∧
      s.pre6 enc C.prog fn conds false (w.forCall tape i).memory i.args ∧ ({} : Assume).holds C.prog (lone (Frame.enter C.prog f i.args .normal) [] (w.forCall tape i))) :
    ReturnsInHanded {} C os f .any (s.pre6 enc C.prog fn conds false) (s.post enc C.prog fn false true false false) := by
  refine returnsInHanded_of_change_sized own started noInit hfn witness ?_
  intro W base args ds gs before hval hW hcnd hsz _
  have hW' := hW
  obtain ⟨p, q, hA, hV, rfl, hfz, hnd⟩ := hW
  rw [hv] at hV
  obtain ⟨rfl, rfl⟩ := trodVars_none hV
  rw [hp] at hA
  obtain ⟨args⟩ := args
  obtain ⟨v0, v1, d0, d1, p0, p1, rfl, rfl, h0, h1, rfl⟩ := trodAll_two hA
  have hlt : ∀ x ∈ p0 ++ (p1 ++ []), x.block < W.heap.size := fun x hx => by
    have := hW'.lt x (by simpa using hx)
    simpa using this
  have hw0 : ∀ n ∈ d0.weights C.prog T, n ≤ reachBytes := fun n hn => by
    have := List.all_eq_true.1 hsz n (DataW.weights_mem_each (j := 0) (t := T) (d := d0) (by rw [hp]; rfl) rfl n hn)
    simpa using this
  have hw1 : ∀ n ∈ d1.weights C.prog U, n ≤ reachBytes := fun n hn => by
    have := List.all_eq_true.1 hsz n (DataW.weights_mem_each (j := 1) (t := U) (d := d1) (by rw [hp]; rfl) rfl n hn)
    simpa using this
  refine (walk W base v0 v1 d0 d1 p0 p1 (hval 0 T v0 (by rw [hp]; rfl) rfl) h0 hw0 (hval 1 U v1 (by rw [hp]; rfl) rfl) h1 hw1).mono fun e W' ⟨he, bel⟩ => ?_
  subst he
  refine ⟨_, rfl, _, _, _, [], p0 ++ (p1 ++ []), [], hW', ?_, ?_, ?_, bel.frame _, fun h => by cases h⟩
  · rw [hr, List.append_nil, hs]
    exact trodAll_mk1 (shut_bool hb _)
  · rw [hp, List.append_nil, hs]
    exact ⟨p0, p1 ++ [], Below.trod lo hread hrow h0 bel (fun x hx => hlt x (by simp [hx])), ⟨p1, [], Below.trod lo hread2 hrow2 h1 bel (fun x hx => hlt x (by simp [hx])), rfl, rfl⟩, rfl⟩
  · rw [hv, List.append_nil, hs]; rfl
end Go.B
