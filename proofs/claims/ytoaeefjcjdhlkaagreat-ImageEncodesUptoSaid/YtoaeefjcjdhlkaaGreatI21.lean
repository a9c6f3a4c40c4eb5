/- Image: a state that came in. -/
import Derived.Test.YtoaeefjcjdhlkaaGreatI20
set_option linter.unusedVariables false
set_option linter.unusedSimpArgs false
namespace Go.Proofs.YtoaeefjcjdhlkaaGreat
open Go Go.V Go.B
open Go.ChangeShapes Go.WideShapes Go.ChangeAt Go.RowKit Go.Joins Go.Deep

section
variable {H : Type} {enc : TypeId × Value → H} {w : World} {base : Nat} {spare : Nat → Bool} {held : Bool}
/-- Cells of this type are a row of these types. -/
def ReadsAs (enc : TypeId × Value → H) (w : World) (base : Nat) (spare : Nat → Bool) (held : Bool) (t : TypeId) (us : List Ty) (k j : Nat) : Prop := ∀ n cs x, DataW.trod enc Tryz.prog w base spare held n t cs = some x → Rows.uptoBulk x.1 ≤ 1048576 →
  cs.length = k ∧ ∃ r, tyR us r ∧ RepR w r cs ∧ bulkR r + j ≤ Rows.uptoBulk x.1
theorem bulk_pos (d : DataW H) : 1 ≤ Rows.uptoBulk d := by
  unfold Rows.uptoBulk
  split <;> omega
theorem read_int {t : TypeId} (ht : Tryz.prog.underlying t = some (.int .i64)) : ReadsAs enc w base spare held t [.int] 1 0 := fun n cs x h hb => by
  obtain ⟨z, rfl, rfl, hwf⟩ := DataW.trod_int ht h
  have hwf : (decide (IntKind.min .i64 ≤ z) && decide (z ≤ IntKind.max .i64)) = true := hwf
  simp only [Bool.and_eq_true, decide_eq_true_eq] at hwf
  have h0 : IntKind.min .i64 = -9223372036854775808 := by decide
  have h1 : IntKind.max .i64 = 9223372036854775807 := by decide
  exact ⟨rfl, [.int z], ⟨⟨by omega, by omega⟩, trivial⟩, ⟨_, _, rfl, rfl, rfl⟩, by simp only [bulkR, bulkD]; exact bulk_pos _⟩
theorem read_str {t : TypeId} (ht : Tryz.prog.underlying t = some .string) : ReadsAs enc w base spare held t [.str] 1 0 := fun n cs x h hb => by
  obtain ⟨z, rfl, rfl, -⟩ := DataW.trod_string ht h
  have e : Rows.uptoBulk (H := H) (.lit (.string z.data.toList)) = z.size + 1 := by unfold Rows.uptoBulk; rfl
  rw [e] at hb ⊢
  exact ⟨rfl, [.str z], ⟨trivial, trivial⟩, ⟨_, _, rfl, ⟨rfl, by omega⟩, rfl⟩, by simp only [bulkR, bulkD]; omega⟩
theorem read_bool {t : TypeId} (ht : Tryz.prog.underlying t = some .bool) : ReadsAs enc w base spare held t [.bool] 1 0 := fun n cs x h hb => by
  obtain ⟨z, rfl, rfl⟩ := DataW.trod_bool ht h
  exact ⟨rfl, [.bool z], ⟨trivial, trivial⟩, ⟨_, _, rfl, rfl, rfl⟩, by simp only [bulkR, bulkD]; exact bulk_pos _⟩
theorem repR_one {P : Nat → Prop} : ∀ {r : List D} {vs : List Value}, RepPR P w r vs → ∀ v ∈ vs, v.oneCell' = true
  | [], vs, h => by simp only [RepPR] at h; subst h; simp
  | d :: r, vs, h => by
    simp only [RepPR] at h
    obtain ⟨v, vs', rfl, h2, h3⟩ := h
    intro u hu
    rcases List.mem_cons.1 hu with rfl | hu
    · cases d with
      | int n => simp only [RepP] at h2; subst h2; rfl
      | str s => simp only [RepP] at h2; obtain ⟨rfl, -⟩ := h2; rfl
      | bool b => simp only [RepP] at h2; subst h2; rfl
      | list l => simp only [RepP] at h2; obtain ⟨A, n, c, m, xs, rfl, -⟩ := h2; rfl
    · exact repR_one h3 u hu
theorem bulk_allW : ∀ (ds : List (DataW H)), ds.length ≤ Rows.uptoBulkAll ds
  | [] => by simp
  | d :: r => by
    unfold Rows.uptoBulkAll
    have := bulk_pos d
    have := bulk_allW r
    simp only [List.length_cons]; omega
/-- Rows one by one. -/
theorem read_rows {e : TypeId} {ts : List Ty} {m n : Nat} (he : ReadsAs enc w base spare held e ts (m + 1) 1) : ∀ (elems : List (DataW H × List MemPlace)) (css : Nat → List Value), (∀ i z, elems[i]? = some z → DataW.trod enc Tryz.prog w base spare held n e (css i) = some z) → Rows.uptoBulkAll (elems.map (·.1)) ≤ 1048576 →
    ∃ (l : List (List D)) (xs : List (Row (m + 1))), xs.length = elems.length ∧ (∀ i x, xs[i]? = some x → x.vs = css i) ∧ tyL ts l ∧ RepL w l (xs.map Row.vs) ∧ l.length = elems.length ∧ bulkL l ≤ Rows.uptoBulkAll (elems.map (·.1))
  | [], css, h, hb => ⟨[], [], rfl, by simp, by simp only [tyL], rfl, rfl, by simp [bulkL]⟩
  | z :: elems, css, h, hb => by
    simp only [List.map_cons, Rows.uptoBulkAll] at hb
    obtain ⟨hl, r, h1, h2, h3⟩ := he n (css 0) z (h 0 z rfl) (by omega)
    obtain ⟨l, xs, k1, k2, k3, k4, k5, k6⟩ := read_rows he elems (fun i => css (i + 1)) (fun i z hz => h (i + 1) z (by simpa using hz)) (by omega)
    refine ⟨r :: l, ⟨css 0, hl, repR_one h2⟩ :: xs, by simp [k1], fun i x hx => ?_, ⟨h1, k3⟩, ⟨_, _, rfl, h2, k4⟩, by simp [k5], ?_⟩
    · cases i with
      | zero => simp at hx; subst hx; rfl
      | succ i => exact k2 i x (by simpa using hx)
    · simp only [bulkL, List.map_cons, Rows.uptoBulkAll, List.length_cons]
      omega
theorem cells_rows {m : Nat} {xs : List (Row (m + 1))} {a : Addr} (hx : ∀ i x, xs[i]? = some x → ∀ k, k < m + 1 → w.cell? ((a.add (i * (m + 1))).add k) = x.vs[k]?) : Cells w (some a) ((RL m).flat xs) := fun j v hj => ⟨a, rfl, by
  have hjl := (List.getElem?_eq_some_iff.1 hj).1
  rw [(RL m).flat_len] at hjl
  have hjl : j < xs.length * (m + 1) := hjl
  have hi : j / (m + 1) < xs.length := Nat.div_lt_of_lt_mul (by rwa [Nat.mul_comm] at hjl)
  have hk : j % (m + 1) < m + 1 := Nat.mod_lt _ (by omega)
  obtain ⟨x, hxx⟩ : ∃ x, xs[j / (m + 1)]? = some x := ⟨xs[j / (m + 1)]'hi, List.getElem?_eq_getElem hi⟩
  obtain ⟨u, hu⟩ : ∃ u, x.vs[j % (m + 1)]? = some u := ⟨x.vs[j % (m + 1)]'(by rw [x.len]; exact hk), List.getElem?_eq_getElem (by rw [x.len]; exact hk)⟩
  have e1 := (RL m).flat_at hxx (k := j % (m + 1)) hu
  have e2 : j / (m + 1) * (m + 1) + j % (m + 1) = j := by rw [Nat.mul_comm]; exact Nat.div_add_mod j (m + 1)
  have e1 : ((RL m).flat xs)[j / (m + 1) * (m + 1) + j % (m + 1)]? = some u := e1
  rw [e2, hj] at e1
  cases e1
  have := hx _ _ hxx (j % (m + 1)) hk
  rwa [Addr.add_add, e2, hu] at this⟩
theorem read_list {t e : TypeId} {ts : List Ty} {m : Nat} (ht : Tryz.prog.underlying t = some (.slice e)) (hk : Tryz.prog.cellsOf e = m + 1) (he : ReadsAs enc w base spare held e ts (m + 1) 1) : ReadsAs enc w base spare held t [.list ts] 1 0 := fun n cs x h hb => by
  rcases DataW.trod_slice ht h with ⟨rfl, rfl⟩ | ⟨a, len, cap, elems, rest, n', _, rfl, rfl, hb', hl, hm, hlen, hel, hsp, hns⟩
  · exact ⟨rfl, [.list []], ⟨⟨by simp, by simp only [tyL]⟩, trivial⟩, ⟨_, _, rfl, rep_none, rfl⟩, by simp only [bulkR, bulkD, bulkL]; exact bulk_pos _⟩
  · have e0 : Rows.uptoBulk (.slice (elems.map (·.1)) (rest.map (·.1))) = Rows.uptoBulkAll (elems.map (·.1)) + Rows.uptoBulkAll (rest.map (·.1)) + 1 := by rw [Rows.uptoBulk]
    rw [e0] at hb ⊢
    have hel2 : ∀ i z, elems[i]? = some z → ∃ cs, w.cells? base (a.add (i * (m + 1))) (m + 1) = some cs ∧ DataW.trod enc Tryz.prog w base spare held n' e cs = some z := fun i z hz => by
      have hi : i < len := by have := (List.getElem?_eq_some_iff.1 hz).1; omega
      have hq := hel i hi
      rw [hz, Option.bind_eq_some_iff, hk] at hq
      exact hq
    obtain ⟨l, xs, k1, k2, k3, k4, k5, k6⟩ := read_rows (n := n') he elems (fun i => (w.cells? base (a.add (i * (m + 1))) (m + 1)).getD []) (fun i z hz => by
      obtain ⟨cs, h1, h2⟩ := hel2 i z hz
      show DataW.trod _ _ _ _ _ _ _ _ (Option.getD (w.cells? base (a.add (i * (m + 1))) (m + 1)) []) = _
      rw [h1]; exact h2) (by omega)
    have hle := bulk_allW (elems.map (·.1))
    rw [List.length_map] at hle
    refine ⟨rfl, [.list l], ⟨⟨by omega, k3⟩, trivial⟩, ⟨_, _, rfl, ⟨some a, len, cap, m, xs, rfl, cells_rows fun i x hx k hk' => ?_, by omega, by omega, fun _ _ => trivial, k4⟩, rfl⟩, ?_⟩
    · have hil : i < elems.length := by have := (List.getElem?_eq_some_iff.1 hx).1; omega
      obtain ⟨cs, h1, h2⟩ := hel2 i _ (List.getElem?_eq_getElem hil)
      have h3 := k2 i x hx
      simp only [h1, Option.getD_some] at h3
      rw [h3]
      exact (World.cells?_some h1).2.2 k hk'
    · simp only [bulkR, bulkD]
      omega
/-! ### structs -/
abbrev Spec := List (TypeId × List Ty × Nat)
def offAt : Spec → Nat → Nat
  | s :: sp, i + 1 => s.2.2 + offAt sp i
  | _, _ => 0
def total : Spec → Nat
  | [] => 0
  | s :: sp => s.2.2 + total sp
theorem tyR_app' : ∀ {ts us : List Ty} {a b : List D}, tyR ts a → tyR us b → tyR (ts ++ us) (a ++ b)
  | [], us, [], b, _, h => h
  | [], us, d :: a, b, h, _ => h.elim
  | t :: ts, us, [], b, h, _ => h.elim
  | t :: ts, us, d :: a, b, h, k => by
    simp only [List.cons_append, tyR] at h ⊢
    exact ⟨h.1, tyR_app' h.2 k⟩
theorem bulkR_app : ∀ (a b : List D), bulkR (a ++ b) = bulkR a + bulkR b
  | [], b => by simp [bulkR]
  | d :: a, b => by simp only [List.cons_append, bulkR, bulkR_app a b]; omega
theorem read_go {n : Nat} : ∀ (sp : Spec) (cs : List Value) (xs : List (DataW H × List MemPlace)), cs.length = total sp → xs.length = sp.length → (∀ i s, sp[i]? = some s → DataW.trod enc Tryz.prog w base spare held n s.1 ((cs.drop (offAt sp i)).take s.2.2) = xs[i]?) →
    (∀ s ∈ sp, ReadsAs enc w base spare held s.1 s.2.1 s.2.2 0) → Rows.uptoBulkAll (xs.map (·.1)) ≤ 1048576 → ∃ r, tyR (sp.flatMap (·.2.1)) r ∧ RepR w r cs ∧ bulkR r ≤ Rows.uptoBulkAll (xs.map (·.1))
  | [], cs, xs, hl, hx, hf, hs, hb => by
    obtain rfl : cs = [] := List.eq_nil_of_length_eq_zero hl
    exact ⟨[], trivial, rfl, by simp [bulkR]⟩
  | s :: sp, cs, [], hl, hx, hf, hs, hb => by simp at hx
  | s :: sp, cs, x :: xs, hl, hx, hf, hs, hb => by
    simp only [List.map_cons, Rows.uptoBulkAll] at hb
    have h0 := hf 0 s rfl
    have h0 : DataW.trod enc Tryz.prog w base spare held n s.1 (cs.take s.2.2) = some x := by simpa [offAt] using h0
    obtain ⟨k1, r, k2, k3, k4⟩ := hs s (by simp) n _ x h0 (by omega)
    simp only [total] at hl
    obtain ⟨r', q1, q2, q3⟩ := read_go sp (cs.drop s.2.2) xs (by rw [List.length_drop]; omega) (by simpa using hx) (fun i s' hi => by
      have := hf (i + 1) s' (by simpa using hi)
      simp only [offAt] at this
      rw [List.drop_drop]
      simpa using this) (fun s' h' => hs s' (by simp [h'])) (by omega)
    refine ⟨r ++ r', ?_, ?_, ?_⟩
    · rw [List.flatMap_cons]; exact tyR_app' k2 q1
    · have := RepPR.app q2 k3
      rwa [List.take_append_drop] at this
    · rw [bulkR_app, List.map_cons, Rows.uptoBulkAll]; omega
def specOk (P : Program) (t : TypeId) (sp : Spec) : Bool := match P.underlying t with
  | some (.struct fs) => fs.size == sp.length && (P.cellsOf t == total sp) && (List.range sp.length).all fun i => match fs[i]?, sp[i]? with
    | some f, some s => f.type == s.1 && (f.offset == offAt sp i) && (P.cellsOf f.type == s.2.2)
    | _, _ => false
  | _ => false
theorem read_struct {t : TypeId} {sp : Spec} (hok : specOk Tryz.prog t sp = true) (hs : ∀ s ∈ sp, ReadsAs enc w base spare held s.1 s.2.1 s.2.2 0) : ReadsAs enc w base spare held t (sp.flatMap (·.2.1)) (total sp) 1 := fun n cs x h hb => by
  unfold specOk at hok
  split at hok
  · rename_i fs ht
    simp only [Bool.and_eq_true, beq_iff_eq, List.all_eq_true, List.mem_range] at hok
    obtain ⟨⟨hsz, htot⟩, hall⟩ := hok
    obtain ⟨xs, n', _, rfl, hl, hlen, hf⟩ := DataW.trod_struct ht h
    have e0 : Rows.uptoBulk (.agg (xs.map (·.1))) = Rows.uptoBulkAll (xs.map (·.1)) + 1 := by rw [Rows.uptoBulk]
    rw [e0] at hb ⊢
    have hcl : cs.length = total sp := by rw [hl, htot]
    obtain ⟨r, h1, h2, h3⟩ := read_go (n := n') sp cs xs hcl (by omega) (fun i s hi => by
      have hil := (List.getElem?_eq_some_iff.1 hi).1
      have := hall i hil
      rw [hi] at this
      cases hfi : fs[i]? with
      | none => rw [hfi] at this; simp at this
      | some f =>
        rw [hfi] at this
        simp only [Bool.and_eq_true, beq_iff_eq] at this
        have hq := hf i f hfi
        rw [this.1.1, this.1.2, ← this.1.1, this.2, this.1.1] at hq
        exact hq) hs (by omega)
    exact ⟨hcl, r, h1, h2, by omega⟩
  · cases hok
theorem ReadsAs.less {t : TypeId} {us : List Ty} {k : Nat} (h : ReadsAs enc w base spare held t us k 1) : ReadsAs enc w base spare held t us k 0 := fun n cs x hx hb => by
  obtain ⟨h1, r, h2, h3, h4⟩ := h n cs x hx hb
  exact ⟨h1, r, h2, h3, by omega⟩
variable (enc w base spare held)
theorem rInt : ReadsAs enc w base spare held 3 [.int] 1 0 := read_int Tryz.underlying3
theorem rStr : ReadsAs enc w base spare held 9 [.str] 1 0 := read_str Tryz.underlying9
theorem rBool : ReadsAs enc w base spare held 4 [.bool] 1 0 := read_bool Tryz.underlying4
theorem rLabel : ReadsAs enc w base spare held 87 tLabel 2 1 := read_struct (sp := [(9, [.str], 1), (9, [.str], 1)]) (by kernel_rfl) (by intro s hs; simp at hs; subst hs; exact rStr enc w base spare held)
theorem rItem : ReadsAs enc w base spare held 91 tItem 2 1 := read_struct (sp := [(9, [.str], 1), (3, [.int], 1)]) (by kernel_rfl) (by intro s hs; simp at hs; rcases hs with rfl | rfl; exact rStr enc w base spare held; exact rInt enc w base spare held)
theorem rTaint : ReadsAs enc w base spare held 89 tTaint 3 1 := read_struct (sp := [(9, [.str], 1), (9, [.str], 1), (9, [.str], 1)]) (by kernel_rfl) (by intro s hs; simp at hs; subst hs; exact rStr enc w base spare held)
theorem rTol : ReadsAs enc w base spare held 123 tTol 4 1 := read_struct (sp := [(9, [.str], 1), (9, [.str], 1), (9, [.str], 1), (9, [.str], 1)]) (by kernel_rfl) (by intro s hs; simp at hs; subst hs; exact rStr enc w base spare held)
theorem rApart : ReadsAs enc w base spare held 125 tApart 2 1 := read_struct (sp := [(9, [.str], 1), (9, [.str], 1)]) (by kernel_rfl) (by intro s hs; simp at hs; subst hs; exact rStr enc w base spare held)
theorem rPrefer : ReadsAs enc w base spare held 127 tPrefer 2 1 := read_struct (sp := [(3, [.int], 1), (9, [.str], 1)]) (by kernel_rfl) (by intro s hs; simp at hs; rcases hs with rfl | rfl; exact rInt enc w base spare held; exact rStr enc w base spare held)
theorem rLabels : ReadsAs enc w base spare held 49 [.list tLabel] 1 0 := read_list (m := 1) Tryz.underlying49 (by kernel_rfl) (rLabel enc w base spare held)
theorem rItems : ReadsAs enc w base spare held 51 [.list tItem] 1 0 := read_list (m := 1) Tryz.underlying51 (by kernel_rfl) (rItem enc w base spare held)
theorem rTaints : ReadsAs enc w base spare held 50 [.list tTaint] 1 0 := read_list (m := 2) Tryz.underlying50 (by kernel_rfl) (rTaint enc w base spare held)
theorem rTols : ReadsAs enc w base spare held 64 [.list tTol] 1 0 := read_list (m := 3) Tryz.underlying64 (by kernel_rfl) (rTol enc w base spare held)
theorem rAparts : ReadsAs enc w base spare held 65 [.list tApart] 1 0 := read_list (m := 1) Tryz.underlying65 (by kernel_rfl) (rApart enc w base spare held)
theorem rPrefers : ReadsAs enc w base spare held 66 [.list tPrefer] 1 0 := read_list (m := 1) Tryz.underlying66 (by kernel_rfl) (rPrefer enc w base spare held)
set_option maxRecDepth 8000 in
theorem rNode : ReadsAs enc w base spare held 53 tNode 5 1 := read_struct (sp := [(9, [.str], 1), (49, [.list tLabel], 1), (50, [.list tTaint], 1), (51, [.list tItem], 1), (4, [.bool], 1)]) (by kernel_rfl) (by
  intro s hs; simp at hs
  rcases hs with rfl | rfl | rfl | rfl | rfl
  · exact rStr enc w base spare held
  · exact rLabels enc w base spare held
  · exact rTaints enc w base spare held
  · exact rItems enc w base spare held
  · exact rBool enc w base spare held)
set_option maxRecDepth 8000 in
theorem rPod : ReadsAs enc w base spare held 68 tPod 8 1 := read_struct (sp := [(9, [.str], 1), (49, [.list tLabel], 1), (51, [.list tItem], 1), (64, [.list tTol], 1), (9, [.str], 1), (65, [.list tApart], 1), (66, [.list tPrefer], 1), (3, [.int], 1)]) (by kernel_rfl) (by
  intro s hs; simp only [List.mem_cons, List.not_mem_nil, or_false] at hs
  rcases hs with rfl | rfl | rfl | rfl | rfl | rfl | rfl | rfl
  · exact rStr enc w base spare held
  · exact rLabels enc w base spare held
  · exact rItems enc w base spare held
  · exact rTols enc w base spare held
  · exact rStr enc w base spare held
  · exact rAparts enc w base spare held
  · exact rPrefers enc w base spare held
  · exact rInt enc w base spare held)
set_option maxRecDepth 8000 in
theorem rBound : ReadsAs enc w base spare held 71 tBound 9 1 := read_struct (sp := [(68, tPod, 8), (9, [.str], 1)]) (by kernel_rfl) (by
  intro s hs; simp only [List.mem_cons, List.not_mem_nil, or_false] at hs
  rcases hs with rfl | rfl
  · exact (rPod enc w base spare held).less
  · exact rStr enc w base spare held)
set_option maxRecDepth 8000 in
theorem rPending : ReadsAs enc w base spare held 73 tPending 12 1 := read_struct (sp := [(68, tPod, 8), (3, [.int], 1), (3, [.int], 1), (3, [.int], 1), (4, [.bool], 1)]) (by kernel_rfl) (by
  intro s hs; simp only [List.mem_cons, List.not_mem_nil, or_false] at hs
  rcases hs with rfl | rfl | rfl | rfl | rfl
  · exact (rPod enc w base spare held).less
  · exact rInt enc w base spare held
  · exact rInt enc w base spare held
  · exact rInt enc w base spare held
  · exact rBool enc w base spare held)
theorem rNodes : ReadsAs enc w base spare held 22 [.list tNode] 1 0 := read_list (m := 4) Tryz.underlying22 (by kernel_rfl) (rNode enc w base spare held)
theorem rBounds : ReadsAs enc w base spare held 23 [.list tBound] 1 0 := read_list (m := 8) Tryz.underlying23 (by kernel_rfl) (rBound enc w base spare held)
theorem rPendings : ReadsAs enc w base spare held 24 [.list tPending] 1 0 := read_list (m := 11) Tryz.underlying24 (by kernel_rfl) (rPending enc w base spare held)
set_option maxRecDepth 8000 in
theorem rState : ReadsAs enc w base spare held 26 tState 5 1 := read_struct (sp := [(3, [.int], 1), (3, [.int], 1), (22, [.list tNode], 1), (23, [.list tBound], 1), (24, [.list tPending], 1)]) (by kernel_rfl) (by
  intro s hs; simp only [List.mem_cons, List.not_mem_nil, or_false] at hs
  rcases hs with rfl | rfl | rfl | rfl | rfl
  · exact rInt enc w base spare held
  · exact rInt enc w base spare held
  · exact rNodes enc w base spare held
  · exact rBounds enc w base spare held
  · exact rPendings enc w base spare held)
end

set_option maxRecDepth 8000 in
theorem open_state {H : Type} {enc : TypeId × Value → H} {w : World} {base : Nat} {v : Value} {d : DataW H} {p : List MemPlace} (hok : Value.okWide Tryz.prog w .any base 26 v) (h : DataW.Trod enc Tryz.prog w 0 (fun _ => true) true 26 v d p) (hb : Rows.uptoBulk d ≤ 1048576) :
    ∃ r vs, v = .agg ⟨vs⟩ ∧ tyR tState r ∧ RepR w r vs ∧ bulkR r ≤ 1048576 ∧ (imageS r).length ≤ 16777216 := by
  obtain ⟨fuel, hf⟩ := h
  obtain ⟨cs, rfl, -⟩ := Go.WideShapes.okWide_struct Tryz.underlying26 hok
  obtain ⟨cs⟩ := cs
  obtain ⟨-, r, h1, h2, h3⟩ := rState enc w 0 (fun _ => true) true fuel cs (d, p) hf hb
  replace h3 : bulkR r + 1 ≤ Rows.uptoBulk d := h3
  exact ⟨r, cs, rfl, h1, h2, by omega, image_small h1 (by omega)⟩
end Go.Proofs.YtoaeefjcjdhlkaaGreat
