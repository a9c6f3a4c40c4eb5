/- Ranges over maps of keys and values; generic, no program. -/
import Derived.Test.YtoaeefjcjdhlkaaGreatMp
import Derived.Maps.RangeRun
set_option linter.unusedVariables false
set_option linter.unusedSectionVars false
set_option linter.unusedSimpArgs false
namespace Go.B
open Go Go.V

section
variable {κ β : Type} [DecidableEq κ] {P : Program} {ke : κ → Value} {ve : β → Value}
/-- A range over a map under way: those at the places js are done. -/
def ItAt (w : World) (it : Nat) (r : Option Nat) (ke : κ → Value) (ve : β → Value) (m done : List (κ × β)) : Prop :=
  (r = none ∧ m = [] ∧ done = [] ∧ ∃ a b, w.heap[it]? = some (.mapIter none a #[] b)) ∨
  ∃ (b : Nat) (es : Array MapEntry) (clock : Nat) (seen : Array Nat) (c0 : Nat) (js : List Nat), r = some b ∧ it ≠ b ∧ w.heap[it]? = some (.mapIter (some b) clock seen c0) ∧ clock ≤ c0 ∧ w.heap[b]? = some (.map es clock) ∧ es.toList.map (fun e => (e.key, e.val)) = m.map (fun p => (ke p.1, ve p.2)) ∧
    (mkeys m).Nodup ∧ (es.toList.map (·.born)).Nodup ∧ (∀ e ∈ es.toList, e.born < clock) ∧ js.Nodup ∧ seen.toList.map some = js.map (fun j => (es.toList[j]?).map (·.born)) ∧ done.map some = js.map (fun j => m[j]?) ∧ js.length + (leftOf es seen).size ≤ es.size
theorem ItAt.lt {w : World} {it : Nat} {r : Option Nat} {m done : List (κ × β)} (h : ItAt w it r ke ve m done) : it < w.heap.size := by
  rcases h with ⟨_, _, _, a, b, h⟩ | ⟨b, es, clock, seen, c0, js, _, _, h, _⟩ <;> exact (Array.getElem?_eq_some_iff.1 h).1
theorem ItAt.ext {F : List Nat} {w w' : World} {it : Nat} {r : Option Nat} {m done : List (κ × β)} (h : ItAt w it r ke ve m done) (e : Ext F w w') (hi : it ∉ F) (hr : ∀ b, r = some b → b ∉ F) : ItAt w' it r ke ve m done := by
  have hl := h.lt
  rcases h with ⟨h1, h2, h3, a, b, h⟩ | ⟨b, es, clock, seen, c0, js, rfl, h0, h1, h2, h3, rest⟩
  · exact .inl ⟨h1, h2, h3, a, b, by rw [e.same it hl hi]; exact h⟩
  · exact .inr ⟨b, es, clock, seen, c0, js, rfl, h0, by rw [e.same it hl hi]; exact h1, h2, by rw [e.same b (Array.getElem?_eq_some_iff.1 h3).1 (hr b rfl)]; exact h3, rest⟩
theorem ItAt.ext0 {w w' : World} {it : Nat} {r : Option Nat} {m done : List (κ × β)} (h : ItAt w it r ke ve m done) (e : Ext [] w w') : ItAt w' it r ke ve m done := h.ext e (by simp) (by simp)
/-- for range m -/
theorem it_start {w : World} {t kt et : TypeId} (ht : P.underlying t = some (.map kt et)) {r : Option Nat} {m : List (κ × β)} (h : (r = none ∧ m = []) ∨ ∃ b, r = some b ∧ MapAt w b ke ve m) :
    ∃ w', (Instr.range t (.map r)).run P w = .ok (.pointer (some ⟨w.heap.size, 0, none⟩)) w' ∧ ItAt w' w.heap.size r ke ve m [] ∧ Ext [] w w' := by
  rcases h with ⟨rfl, rfl⟩ | ⟨b, rfl, hm⟩
  · refine ⟨_, run_range_nilMap w t kt et ht, .inl ⟨rfl, rfl, rfl, 0, 0, ?_⟩, (Ext.refl _ _).alloc _⟩
    show (w.heap.push _)[w.heap.size]? = _; simp
  · have hlt := hm.lt
    obtain ⟨es, clock, hb, hes, hnd, hbn, hbc⟩ := hm
    have e : Ext [] w (w.alloc (.mapIter (some b) clock #[] clock)) := (Ext.refl _ _).alloc _
    refine ⟨_, run_range_map w t kt et b es clock ht hb, .inr ⟨b, es, clock, #[], clock, [], rfl, by omega, ?_, Nat.le_refl _, ?_, hes, hnd, hbn, hbc, by simp, rfl, rfl, ?_⟩, e⟩
    · show (w.heap.push _)[w.heap.size]? = _; simp
    · rw [e.same b hlt (by simp)]; exact hb
    · simp only [List.length_nil, Nat.zero_add]; exact Array.size_filter_le
/-- How many a range has told. -/
def itN (w : World) (it : Nat) : Nat := match w.heap[it]? with | some (.mapIter _ _ seen _) => seen.size | _ => 0
theorem ItAt.num {w : World} {it : Nat} {r : Option Nat} {m done : List (κ × β)} (h : ItAt w it r ke ve m done) : itN w it = done.length := by
  unfold itN
  rcases h with ⟨_, _, rfl, a, b, h⟩ | ⟨b, es, clock, seen, c0, js, rfl, hib, hi, hc, hb, hes, hnd, hbn, hbc, hjs, hseen, hdone, hcnt⟩
  · rw [h]; rfl
  · rw [hi]
    have h1 := congrArg List.length hseen
    have h2 := congrArg List.length hdone
    simp at h1 h2
    show seen.size = _
    omega
theorem ext_setBlk (w : World) (r : Nat) (o : Obj) : Ext [r] w (Go.ChangeMaps.setBlock w r o) :=
  ⟨rfl, rfl, rfl, by simp [Go.ChangeMaps.setBlock], fun b hb hF => by
    have : r ≠ b := fun e => hF (by simp [e])
    simp [Go.ChangeMaps.setBlock, Array.getElem?_setIfInBounds, this]⟩
theorem run_next_nil (w : World) (ty : TypeId) {it a b : Nat} {s : Array Nat} (h : w.heap[it]? = some (.mapIter none a s b)) :
    (Instr.next (.pointer (some ⟨it, 0, none⟩)) false ty).run P w = .ok (.tuple #[.bool false]) w := by
  simp only [Instr.next, getObj, Sem.run_bind, Sem.run, h, Result.andThen]
  rfl
/-- The range's next step. -/
theorem it_next {w : World} {it : Nat} {r : Option Nat} {m done : List (κ × β)} (h : ItAt w it r ke ve m done) (ty : TypeId) :
    ((Instr.next (.pointer (some ⟨it, 0, none⟩)) false ty).run P w = .ok (.tuple #[.bool false]) w ∧ (∀ z, z ∈ done ↔ z ∈ m) ∧ (mkeys done).Nodup) ∨
    ∃ z w1, (Instr.next (.pointer (some ⟨it, 0, none⟩)) false ty).run P w = .ok (.tuple #[.bool true, ke z.1, ve z.2]) w1 ∧ (Instr.entry (.pointer (some ⟨it, 0, none⟩))).run P w1 = .ok (.tuple #[ke z.1, ve z.2]) w1 ∧ Ext [it] w w1 ∧ ItAt w1 it r ke ve m (done ++ [z]) ∧ z ∈ m ∧ done.length < m.length := by
  have hlt := h.lt
  rcases h with ⟨rfl, rfl, rfl, a, b, h⟩ | ⟨b, es, clock, seen, c0, js, rfl, hib, hi, hc, hb, hes, hnd, hbn, hbc, hjs, hseen, hdone, hcnt⟩
  · exact .inl ⟨run_next_nil w ty h, fun z => Iff.rfl, by simp [mkeys]⟩
  have hlen : es.size = m.length := by have := congrArg List.length hes; simpa using this
  have hdl : done.length = js.length := by have := congrArg List.length hdone; simpa using this
  have hpos : ∀ (j : Nat) (e : MapEntry), es.toList[j]? = some e → ∃ z, m[j]? = some z ∧ e.key = ke z.1 ∧ e.val = ve z.2 := fun j e he => by
    have := congrArg (·[j]?) hes
    simp only [List.getElem?_map, he] at this
    cases hm : m[j]? with
    | none => rw [hm] at this; cases this
    | some z =>
      rw [hm] at this
      simp at this
      exact ⟨z, rfl, this.1, this.2⟩
  have hmem : ∀ z ∈ done, ∃ j ∈ js, m[j]? = some z := fun z hz => by
    have : some z ∈ done.map some := List.mem_map.2 ⟨z, hz, rfl⟩
    rw [hdone] at this
    obtain ⟨j, hj, e⟩ := List.mem_map.1 this
    exact ⟨j, hj, e⟩
  rcases run_next_at (P := P) w ty it b clock c0 seen es clock hi hb hbc hc with ⟨h0, hr⟩ | ⟨e, he, w1, hw1, hr⟩
  · refine .inl ⟨hr, fun z => ⟨fun hz => ?_, fun hz => ?_⟩, ?_⟩
    · obtain ⟨j, _, hj⟩ := hmem z hz
      exact List.mem_of_getElem? hj
    · obtain ⟨j, hj⟩ := List.mem_iff_getElem?.1 hz
      have hjl : j < es.toList.length := by
        have := (List.getElem?_eq_some_iff.1 hj).1
        simp; omega
      have hee : es.toList[j]? = some es.toList[j] := List.getElem?_eq_getElem hjl
      have hin := all_seen es seen h0 _ (List.getElem_mem hjl)
      have hin2 : es.toList[j].born ∈ seen.toList := by simpa using hin
      have hin3 : some es.toList[j].born ∈ seen.toList.map some := List.mem_map.2 ⟨_, hin2, rfl⟩
      rw [hseen] at hin3
      obtain ⟨i, hi1, hi2⟩ := List.mem_map.1 hin3
      have hij : i = j := by
        cases hei : es.toList[i]? with
        | none => rw [hei] at hi2; cases hi2
        | some e2 =>
          rw [hei] at hi2
          simp only [Option.map_some, Option.some.injEq] at hi2
          have hil := (List.getElem?_eq_some_iff.1 hei).1
          have h1 : (es.toList.map (·.born))[i]? = some e2.born := by rw [List.getElem?_map, hei]; rfl
          have h2 : (es.toList.map (·.born))[j]? = some e2.born := by rw [List.getElem?_map, hee, Option.map_some, hi2]
          exact (List.getElem?_inj (by simpa using hil) hbn).1 (h1.trans h2.symm)
      subst hij
      have : some z ∈ js.map (fun j => m[j]?) := List.mem_map.2 ⟨i, hi1, hj⟩
      rw [← hdone] at this
      obtain ⟨z', hz', e'⟩ := List.mem_map.1 this
      injection e' with e'
      subst e'; exact hz'
    · have h1 : (mkeys done).map some = js.map (fun j => (m[j]?).map (·.1)) := by
        have := congrArg (List.map (Option.map (·.1))) hdone
        rw [List.map_map, List.map_map] at this
        unfold mkeys
        rw [List.map_map]
        exact this
      have h2 : ((mkeys done).map some).Nodup := by
        rw [h1, List.Nodup, List.pairwise_map]
        refine hjs.imp_of_mem fun {a b} ha hb' hne hh => hne ?_
        have hin : ∀ j ∈ js, ∃ z, m[j]? = some z := fun j hj => by
          have : m[j]? ∈ js.map (fun j => m[j]?) := List.mem_map.2 ⟨j, hj, rfl⟩
          rw [← hdone] at this
          obtain ⟨z, _, e⟩ := List.mem_map.1 this
          exact ⟨z, e.symm⟩
        obtain ⟨z, hz⟩ := hin a ha
        have hzl := (List.getElem?_eq_some_iff.1 hz).1
        refine (List.getElem?_inj (l := mkeys m) (by simpa [mkeys] using hzl) hnd).1 ?_
        simpa [mkeys] using hh
      rw [List.Nodup, List.pairwise_map] at h2
      exact h2.imp fun hne e => hne (by rw [e])
  · right
    obtain ⟨hem, hes'⟩ := mem_left he
    have hshr := left_shrinks es seen e he
    have e1 : Ext [] w w1 := by rcases hw1 with rfl | rfl; exact Ext.refl _ _; exact (Ext.refl _ _).drew
    have hs1 : w1.heap.size = w.heap.size := by rcases hw1 with rfl | rfl <;> rfl
    have x2 := ext_setBlk w1 it (.mapIter (some b) clock (seen.push e.born) clock)
    have hr2 : (Go.ChangeMaps.setBlock w1 it (.mapIter (some b) clock (seen.push e.born) clock)).heap[it]? = some (.mapIter (some b) clock (seen.push e.born) clock) := by
      simp [Go.ChangeMaps.setBlock, Array.getElem?_setIfInBounds]; omega
    generalize Go.ChangeMaps.setBlock w1 it (.mapIter (some b) clock (seen.push e.born) clock) = w2 at hr x2 hr2
    have e2 : Ext [it] w w2 := (e1.weaken (fun _ h => by cases h)).trans x2
    have hb2 : w2.heap[b]? = some (.map es clock) := by
      rw [e2.same b (Array.getElem?_eq_some_iff.1 hb).1 (by simp; exact fun e => hib e.symm)]; exact hb
    obtain ⟨j, hj⟩ := List.mem_iff_getElem?.1 hem
    obtain ⟨z, hz, hk, hv⟩ := hpos j e hj
    have hre := run_entry_at (P := P) w2 it b clock seen es clock e hr2 hb2 hem hbn
    rw [hk, hv] at hre hr
    have hnj : j ∉ js := fun hm => by
      have : (es.toList[j]?).map (·.born) ∈ js.map (fun j => (es.toList[j]?).map (·.born)) := List.mem_map.2 ⟨j, hm, rfl⟩
      rw [← hseen, hj] at this
      obtain ⟨q, hq, e'⟩ := List.mem_map.1 this
      simp only [Option.map_some, Option.some.injEq] at e'
      subst e'
      have : seen.contains e.born = true := by simpa using hq
      rw [this] at hes'; cases hes'
    refine ⟨z, w2, hr, hre, e2, .inr ⟨b, es, clock, seen.push e.born, clock, js ++ [j], rfl, hib, hr2, Nat.le_refl _, hb2, hes, hnd, hbn, hbc, ?_, ?_, ?_, ?_⟩, List.mem_of_getElem? hz, by omega⟩
    · rw [List.nodup_append]
      refine ⟨hjs, by simp, fun a ha c hc' => ?_⟩
      simp at hc'
      subst hc'
      exact fun e => hnj (e ▸ ha)
    · rw [Array.toList_push, List.map_append, hseen, List.map_append, List.map_singleton, List.map_singleton, hj]
      rfl
    · rw [List.map_append, hdone, List.map_append]
      simp [hz]
    · simp only [List.length_append, List.length_singleton]; omega
end
end Go.B
