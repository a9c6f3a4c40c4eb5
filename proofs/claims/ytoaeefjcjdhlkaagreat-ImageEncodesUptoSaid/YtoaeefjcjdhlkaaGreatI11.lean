/- Image: the reader of rows and lists. (Printed by gen_image.py.) -/
import Derived.Test.YtoaeefjcjdhlkaaGreatI10
set_option linter.unusedVariables false
set_option linter.unusedSimpArgs false
namespace Go.Proofs.YtoaeefjcjdhlkaaGreat
open Go Go.V Go.B

theorem RepPR.snoc {P : Nat → Prop} {w : World} {d : D} {v : Value} (hd : RepP P w d v) : ∀ {r : List D} {vs : List Value}, RepPR P w r vs → RepPR P w (r ++ [d]) (vs ++ [v])
  | [], vs, h => by simp only [RepPR] at h; subst h; exact ⟨v, [], rfl, hd, rfl⟩
  | x :: r, vs, h => by
    simp only [RepPR] at h
    obtain ⟨v', vs', rfl, h2, h3⟩ := h
    exact ⟨v', vs' ++ [v], rfl, h2, RepPR.snoc hd h3⟩
theorem RepPR.app {P : Nat → Prop} {w : World} {b : List D} {vb : List Value} (hd : RepPR P w b vb) : ∀ {r : List D} {vs : List Value}, RepPR P w r vs → RepPR P w (r ++ b) (vs ++ vb)
  | [], vs, h => by simp only [RepPR] at h; subst h; exact hd
  | x :: r, vs, h => by
    simp only [RepPR] at h
    obtain ⟨v', vs', rfl, h2, h3⟩ := h
    exact ⟨v', vs' ++ vb, rfl, h2, RepPR.app hd h3⟩
theorem RepPL.snoc {P : Nat → Prop} {w : World} {d : List D} {v : List Value} (hd : RepPR P w d v) : ∀ {r : List (List D)} {vs : List (List Value)}, RepPL P w r vs → RepPL P w (r ++ [d]) (vs ++ [v])
  | [], vs, h => by simp only [RepPL] at h; subst h; exact ⟨v, [], rfl, hd, rfl⟩
  | x :: r, vs, h => by
    simp only [RepPL] at h
    obtain ⟨v', vs', rfl, h2, h3⟩ := h
    exact ⟨v', vs' ++ [v], rfl, h2, RepPL.snoc hd h3⟩
theorem bind_bind {α β γ : Type} (r : Res α) (f : α → Pst → Res β) (g : β → Pst → Res γ) : (r.bind f).bind g = r.bind fun a s => (f a s).bind g := by
  cases r <;> rfl
theorem readTs_app {T : List ByteArray} : ∀ {ts us : List Ty} {s : Pst}, readTs T (ts ++ us) s = (readTs T ts s).bind fun a s1 => (readTs T us s1).bind fun b s2 => .ok (a ++ b) s2
  | [], us, s => by
    simp only [List.nil_append, readTs, Res.bind]
    cases readTs T us s <;> rfl
  | t :: ts, us, s => by
    simp only [List.cons_append, readTs, bind_bind, readTs_app (ts := ts)]
    rfl
abbrev NewB (w w' : World) : Nat → Prop := fun b => w.heap.size ≤ b ∧ b < w'.heap.size
/-- In the midst of reading a row. -/
structure Acc (C : RC) (X : List Nat) (w0 : World) (s0 : Pst) (ts : List Ty) (done : List D) (vs : List Value) (us : List Ty) (s : Pst) (w : World) : Prop where
  n0 : C.N ≤ w0.heap.size
  rd : RdAt C s w
  ex : Ext C.F w0 w
  eq : readTs C.T ts s0 = (readTs C.T us s).bind fun r s' => .ok (done ++ r) s'
  rep : RepPR (fun b => w0.heap.size ≤ b ∧ b < w.heap.size ∧ b ∉ X) w done vs
  xs : ∀ x ∈ X, w0.heap.size ≤ x ∧ x < w.heap.size
variable {C : RC}
/-- The function f reads a row of these types. -/
def Rds (C : RC) (f : FuncId) (ts : List Ty) : Prop := ∀ {s : Pst} {w : World} {R : Ending → World → Prop}, RdAt C s w → Post C w (readTs C.T ts s) (fun r s' w' => ∀ vs, RepPR (NewB w w') w' r vs → R (.returned (.agg ⟨vs⟩)) w') R → Calls Tryz.prog f #[.pointer (some ⟨C.rb, 0, none⟩)] w R
/-- The function lst reads a list by f. -/
def LRds (C : RC) (lst f : FuncId) (ts : List Ty) : Prop := ∀ {s : Pst} {w : World} {R : Ending → World → Prop}, RdAt C s w → Post C w (readT C.T (.list ts) s) (fun d s' w' => ∀ A n c, RepP (NewB w w') w' d (.slice A n c) → R (.returned (.slice A n c)) w') R → Calls Tryz.prog lst #[.pointer (some ⟨C.rb, 0, none⟩), .func (.func f) #[.pointer (some ⟨C.rb, 0, none⟩)] #[]] w R
variable (ok : C.Ok)
theorem Acc.start {s : Pst} {w : World} (h : RdAt C s w) (ts : List Ty) : Acc C [] w s ts [] [] ts s w :=
  ⟨h.n, h, Ext.refl _ _, by simp only [List.nil_append]; cases readTs C.T ts s <;> rfl, rfl, by simp⟩
variable {X : List Nat} {w0 : World} {s0 : Pst} {ts : List Ty} {done : List D} {vs : List Value} {us : List Ty} {s : Pst} {w : World}
include ok
/-- More boxes. -/
theorem Acc.more {X' : List Nat} {w' : World} (c : Acc C X w0 s0 ts done vs us s w) (e : Ext [] w w') (hx : ∀ x ∈ X', x ∈ X ∨ (w.heap.size ≤ x ∧ x < w'.heap.size)) (hs : ∀ x ∈ X, x ∈ X') : Acc C X' w0 s0 ts done vs us s w' := by
  refine ⟨c.n0, c.rd.stay ok e (by simp), c.ex.trans e.up, c.eq, RepPR.ext e (by simp) (fun b hb => ?_) c.rep, fun x hm => ?_⟩
  · refine ⟨hb.1, by have := e.size; omega, fun hm => ?_⟩
    rcases hx b hm with h | h
    · exact hb.2.2 h
    · omega
  · have := e.size; have := c.ex.size
    rcases hx x hm with h | h
    · have := c.xs x h; omega
    · omega
/-- A store into a box. -/
theorem Acc.box {w' : World} {b : Nat} (c : Acc C X w0 s0 ts done vs us s w) (hb : b ∈ X) (e : Ext [b] w w') : Acc C X w0 s0 ts done vs us s w' := by
  have h1 := c.xs b hb
  have h2 := c.n0
  refine ⟨c.n0, c.rd.stay ok e (by simp; omega), c.ex.trans' e (by simp; exact .inr h1.1), c.eq, c.rep.ext e (fun x hx hm => ?_) fun b hb => ⟨hb.1, by have := e.size; omega, hb.2.2⟩, fun x hm => ?_⟩
  · simp at hm; subst hm; exact hx.2.2 hb
  · have := e.size; have := c.xs x hm; omega
theorem Acc.nF {b : Nat} (c : Acc C X w0 s0 ts done vs us s w) (hb : b ∈ X) : b ∉ C.F := fun hm => by
  have h1 := c.xs b hb
  have h2 := c.n0
  have h3 := ok.FN b hm
  omega
/-- One thing read. -/
theorem Acc.step {ty : Ty} {d : D} {v : Value} {s' : Pst} {w' : World} (c : Acc C X w0 s0 ts done vs (ty :: us) s w) (hd : readT C.T ty s = .ok d s') (h : RdAt C s' w') (e : Ext C.F w w') (hr : RepP (NewB w w') w' d v) : Acc C X w0 s0 ts (done ++ [d]) (vs ++ [v]) us s' w' := by
  have hsz := e.size
  refine ⟨c.n0, h, c.ex.trans e, ?_, RepPR.snoc (RepP.ext (Ext.refl [] _) (by simp) (fun b hb => ?_) hr) (c.rep.ext e (fun b hb hm => ?_) fun b hb => ⟨hb.1, by omega, hb.2.2⟩), fun x hm => ?_⟩
  · rw [c.eq]
    simp only [readTs, hd, Res.bind]
    cases readTs C.T us s' <;> simp
  · have := c.ex.size
    exact ⟨by have := hb.1; omega, hb.2, fun hm => by have := c.xs b hm; have := hb.1; omega⟩
  · have := ok.FN b hm; have := c.n0; omega
  · have := c.xs x hm; omega
/-- A row read. -/
theorem Acc.row {xs : List Ty} {r : List D} {rv : List Value} {s' : Pst} {w' : World} (c : Acc C X w0 s0 ts done vs (xs ++ us) s w) (hd : readTs C.T xs s = .ok r s') (h : RdAt C s' w') (e : Ext C.F w w') (hr : RepPR (NewB w w') w' r rv) : Acc C X w0 s0 ts (done ++ r) (vs ++ rv) us s' w' := by
  have hsz := e.size
  refine ⟨c.n0, h, c.ex.trans e, ?_, RepPR.app (RepPR.ext (Ext.refl [] _) (by simp) (fun b hb => ?_) hr) (c.rep.ext e (fun b hb hm => ?_) fun b hb => ⟨hb.1, by omega, hb.2.2⟩), fun x hm => ?_⟩
  · rw [c.eq, readTs_app]
    simp only [hd, Res.bind]
    cases readTs C.T us s' <;> simp
  · have := c.ex.size
    exact ⟨by have := hb.1; omega, hb.2, fun hm => by have := c.xs b hm; have := hb.1; omega⟩
  · have := ok.FN b hm; have := c.n0; omega
  · have := c.xs x hm; omega
section
variable {okk : List D → Pst → World → Prop} {R : Ending → World → Prop}
omit ok in
theorem Acc.bad {ty : Ty} {e p : Nat} (c : Acc C X w0 s0 ts done vs (ty :: us) s w) (k : Post C w0 (readTs C.T ts s0) okk R) (hd : readT C.T ty s = .err e p) : ∀ w' fa, Ext C.F w w' → w.heap.size ≤ fa → BlkT w' fa (faultC e p) 129 → R (.panicked (gaveUp fa)) w' := fun w' fa e hfa hb => by
  rw [c.eq] at k
  simp only [readTs, hd, Res.bind, Post] at k
  exact k w' fa (c.ex.trans e) (Nat.le_trans c.ex.size hfa) hb
omit ok in
theorem Acc.badRow {xs : List Ty} {e p : Nat} (c : Acc C X w0 s0 ts done vs (xs ++ us) s w) (k : Post C w0 (readTs C.T ts s0) okk R) (hd : readTs C.T xs s = .err e p) : ∀ w' fa, Ext C.F w w' → w.heap.size ≤ fa → BlkT w' fa (faultC e p) 129 → R (.panicked (gaveUp fa)) w' := fun w' fa e hfa hb => by
  rw [c.eq, readTs_app] at k
  simp only [hd, Res.bind, Post] at k
  exact k w' fa (c.ex.trans e) (Nat.le_trans c.ex.size hfa) hb
omit ok in
theorem Acc.done_ (c : Acc C X w0 s0 ts done vs [] s w) (k : Post C w0 (readTs C.T ts s0) (fun r s' w' => ∀ vs, RepPR (NewB w0 w') w' r vs → R (.returned (.agg ⟨vs⟩)) w') R) : R (.returned (.agg ⟨vs⟩)) w := by
  rw [c.eq] at k
  simp only [readTs, Res.bind, Post, List.append_nil] at k
  exact k w c.rd c.ex vs (c.rep.mono fun b hb => ⟨hb.1, hb.2.1⟩)
variable (k : Post C w0 (readTs C.T ts s0) okk R) {Q : Ending → World → Prop} (hp : ∀ w' ch, R (.panicked ch) w' → Q (.panicked ch) w')
include k hp
theorem Acc.text (c : Acc C X w0 s0 ts done vs (.str :: us) s w) (hok : ∀ t s' w', Acc C X w0 s0 ts (done ++ [.str t]) (vs ++ [.string t]) us s' w' → Ext C.F w w' → Q (.returned (.string t)) w') : Calls Tryz.prog 119 #[.pointer (some ⟨C.rb, 0, none⟩)] w Q := by
  refine text_c ok c.rd ?_
  cases hc : textS C.T s with
  | err e p => exact fun w' fa e hfa hb => hp _ _ (c.bad k (by simp only [readT, hc, Res.bind]) w' fa e hfa hb)
  | ok t s' => exact fun w' h' e' hz => hok t s' w' (c.step ok (by simp only [readT, hc, Res.bind]) h' e' ⟨rfl, hz⟩) e'
theorem Acc.num (c : Acc C X w0 s0 ts done vs (.int :: us) s w) (hok : ∀ t s' w', Acc C X w0 s0 ts (done ++ [.int t]) (vs ++ [.int .i64 t]) us s' w' → Ext C.F w w' → Q (.returned (.int .i64 t)) w') : Calls Tryz.prog 88 #[.pointer (some ⟨C.rb, 0, none⟩)] w Q := by
  refine number_c ok c.rd ?_
  cases hc : numS s with
  | err e p => exact fun w' fa e hfa hb => hp _ _ (c.bad k (by simp only [readT, hc, Res.bind]) w' fa e hfa hb)
  | ok t s' => exact fun w' h' e' => hok t s' w' (c.step ok (by simp only [readT, hc, Res.bind]) h' e' rfl) e'
theorem Acc.truth (c : Acc C X w0 s0 ts done vs (.bool :: us) s w) (hok : ∀ t s' w', Acc C X w0 s0 ts (done ++ [.bool t]) (vs ++ [.bool t]) us s' w' → Ext C.F w w' → Q (.returned (.bool t)) w') : Calls Tryz.prog 126 #[.pointer (some ⟨C.rb, 0, none⟩)] w Q := by
  refine truth_c ok c.rd ?_
  cases hc : truthS s with
  | err e p => exact fun w' fa e hfa hb => hp _ _ (c.bad k (by simp only [readT, hc, Res.bind]) w' fa e hfa hb)
  | ok t s' => exact fun w' h' e' => hok t s' w' (c.step ok (by simp only [readT, hc, Res.bind]) h' e' rfl) e'
theorem Acc.list {tl : List Ty} {lst f : FuncId} (hl : LRds C lst f tl) (c : Acc C X w0 s0 ts done vs (.list tl :: us) s w) (hok : ∀ d A n c' s' w', Acc C X w0 s0 ts (done ++ [d]) (vs ++ [.slice A n c']) us s' w' → Ext C.F w w' → Q (.returned (.slice A n c')) w') : Calls Tryz.prog lst #[.pointer (some ⟨C.rb, 0, none⟩), .func (.func f) #[.pointer (some ⟨C.rb, 0, none⟩)] #[]] w Q := by
  refine hl c.rd ?_
  cases hc : readT C.T (.list tl) s with
  | err e p => exact fun w' fa e hfa hb => hp _ _ (c.bad k hc w' fa e hfa hb)
  | ok d s' => exact fun w' h' e' A n c' hr => hok d A n c' s' w' (c.step ok hc h' e' hr) e'
theorem Acc.rows {xs : List Ty} {f : FuncId} (hl : Rds C f xs) (c : Acc C X w0 s0 ts done vs (xs ++ us) s w) (hok : ∀ r rv s' w', readTs C.T xs s = .ok r s' → RepPR (NewB w w') w' r rv → Acc C X w0 s0 ts (done ++ r) (vs ++ rv) us s' w' → Ext C.F w w' → Q (.returned (.agg ⟨rv⟩)) w') : Calls Tryz.prog f #[.pointer (some ⟨C.rb, 0, none⟩)] w Q := by
  refine hl c.rd ?_
  cases hc : readTs C.T xs s with
  | err e p => exact fun w' fa e hfa hb => hp _ _ (c.badRow k hc w' fa e hfa hb)
  | ok r s' => exact fun w' h' e' rv hr => hok r rv s' w' hc hr (c.row ok hc h' e' hr) e'
end
/-- Rows that were read have their types. -/
theorem rd_ty {s' : Pst} {r : List D} {xs : List Ty} (h : RdAt C s w) (hc : readTs C.T xs s = .ok r s') : tyR xs r := by
  refine (readTs_ok ok.nd ?_ hc).1
  have := h.rlen; have := ok.le; omega
/-! ### lists -/
omit ok in
theorem timesS_step {p : Pst → Res (List D)} {n : Nat} {s1 : Pst} {done : List (List D)} {a : Nat} (ha : a < n) {s s' : Pst} {r : List D} (h : timesS p n s1 = (timesS p (n - a) s).bind fun l s2 => .ok (done ++ l) s2) (hp : p s = .ok r s') : timesS p n s1 = (timesS p (n - (a + 1)) s').bind fun l s2 => .ok ((done ++ [r]) ++ l) s2 := by
  obtain ⟨m, hm⟩ : ∃ m, n - a = m + 1 := ⟨n - a - 1, by omega⟩
  rw [h, hm, show n - (a + 1) = m by omega]
  simp only [timesS, hp, Res.bind]
  cases timesS p m s' <;> simp
omit ok in
theorem timesS_bad {p : Pst → Res (List D)} {n : Nat} {s1 : Pst} {done : List (List D)} {a : Nat} (ha : a < n) {s : Pst} {e q : Nat} (h : timesS p n s1 = (timesS p (n - a) s).bind fun l s2 => .ok (done ++ l) s2) (hp : p s = .err e q) : timesS p n s1 = .err e q := by
  obtain ⟨m, hm⟩ : ∃ m, n - a = m + 1 := ⟨n - a - 1, by omega⟩
  rw [h, hm]
  simp only [timesS, hp, Res.bind]
/-- In the midst of reading a list: a of n rows stand. -/
structure LAcc (C : RC) (w0 : World) (s1 : Pst) (tl : List Ty) (m n : Nat) (T : TypeId) (A : Option Addr) (a c : Nat) (w : World) : Prop where
  n0 : C.N ≤ w0.heap.size
  an : a ≤ n
  in_ : ∃ done s rows, RdAt C s w ∧ Ext C.F w0 w ∧ OwnL (RL m) w w0.heap.size T A a c rows ∧ (∀ b ∈ ownF A, w0.heap.size ≤ b) ∧ RepPL (fun b => w0.heap.size ≤ b ∧ b < w.heap.size ∧ b ∉ ownF A) w done (rows.map Row.vs) ∧ timesS (readTs C.T tl) n s1 = (timesS (readTs C.T tl) (n - a) s).bind fun l s2 => .ok (done ++ l) s2
omit ok in
theorem LAcc.start {w0 w : World} {s1 : Pst} {tl : List Ty} {m n : Nat} {T : TypeId} (hn : C.N ≤ w0.heap.size) (h : RdAt C s1 w) (e : Ext C.F w0 w) : LAcc C w0 s1 tl m n T none 0 0 w :=
  ⟨hn, by omega, [], s1, [], h, e, OwnL.nil _ _ _, by simp [ownF], rfl, by simp only [List.nil_append, Nat.sub_zero]; cases timesS (readTs C.T tl) n s1 <;> rfl⟩
theorem LAcc.step {w0 w : World} {s1 : Pst} {tl : List Ty} {m n : Nat} {T : TypeId} {A : Option Addr} {a c : Nat} {t ty : TypeId} {z : Value} {bytes : Nat} (ht : Tryz.prog.underlying t = some (.slice T)) (hi : (Tryz.prog.info? T).map (fun i => (i.zero, i.size, i.bytes)) = some (some z, m + 1, bytes)) (hz : z.cells.size = m + 1) (hb0 : 0 < bytes) (hbl : bytes ≤ 1000) (hn : n ≤ 16777216)
    (c0 : LAcc C w0 s1 tl m n T A a c w) (ha : a < n) {f : FuncId} (hf : Rds C f tl) {Q : Ending → World → Prop} {okk : List (List D) → Pst → World → Prop} {R : Ending → World → Prop} (k : Post C w0 (timesS (readTs C.T tl) n s1) okk R) (hp : ∀ w' ch, R (.panicked ch) w' → Q (.panicked ch) w')
    (hok : ∀ r vs w', tyR tl r → RepR w' r vs → (∀ (hv : vs.length = m + 1) (h1 : ∀ v ∈ vs, v.oneCell' = true) w18, w18 = w'.alloc (.cells ⟨vs⟩ T) → ∃ A' c' w2, (Builtin.append_ #[t, t] ty #[.slice A a c, .slice (some ⟨w'.heap.size, 0, none⟩) 1 1]).run Tryz.prog w18 = .ok (.slice A' (a + 1) c') w2 ∧ LAcc C w0 s1 tl m n T A' (a + 1) c' w2) → Q (.returned (.agg ⟨vs⟩)) w') :
    Calls Tryz.prog f #[.pointer (some ⟨C.rb, 0, none⟩)] w Q := by
  obtain ⟨hn0, han, done, s, rows, h, e, ho, hA, hrep, heq⟩ := c0
  refine hf h ?_
  cases hc : readTs C.T tl s with
  | err e' p =>
    rw [timesS_bad ha heq hc] at k
    exact fun w' fa e1 hfa hb => hp _ _ (k w' fa (e.trans e1) (Nat.le_trans e.size hfa) hb)
  | ok r s' =>
    refine fun w' h' e' vs hr => hok r vs w' (rd_ty ok h hc) hr.any fun hv h1 w18 h18 => ?_
    have hnF : ∀ x, w0.heap.size ≤ x → x ∉ C.F := fun x hx hm => by have := ok.FN x hm; omega
    obtain ⟨b18, x18, z18⟩ := box_new h18
    have ho' : OwnL (RL m) w18 w0.heap.size T A a c rows := (ho.ext e' (fun b hb => hnF b (hA b hb))).ext0 x18
    have hsz := e.size
    have hsz' := e'.size
    obtain ⟨A', c', w2, hr2, ho2, he2, hat⟩ := OwnL.more (P := Tryz.prog) (t := t) (ty := ty) (z := z) (bytes := bytes) (x := (⟨vs, hv, h1⟩ : Row (m + 1))) (T := T) ht hi hz hb0 ho' b18 (by omega) (by
      have : (a + 1) * bytes ≤ 16777216 * 1000 := Nat.mul_le_mul (by omega) hbl
      omega)
    refine ⟨A', c', w2, hr2, hn0, by omega, done ++ [r], s', rows ++ [⟨vs, hv, h1⟩], (h'.stay ok x18 (by simp)).stay ok he2 (fun x hx => by have := hA x hx; omega), ((e.trans e').trans x18.up).trans' he2 (fun x hx => .inr (hA x hx)), ho2, fun b hb => ?_, ?_, timesS_step ha heq hc⟩
    · rcases hat with hat | hat
      · exact hA b (hat ▸ hb)
      · rw [hat] at hb; simp at hb; omega
    · have hs2 := he2.size
      have hnew : ∀ b, b < w'.heap.size → b ∉ ownF A → b ∉ ownF A' := fun b hb hn hm => by
        rcases hat with hat | hat
        · exact hn (hat ▸ hm)
        · rw [hat] at hm; simp at hm; omega
      have hAl : ∀ b ∈ ownF A, b < w.heap.size := fun b hb => (own_base ho b hb).2
      have r1 : RepPL (fun b => w0.heap.size ≤ b ∧ b < w2.heap.size ∧ b ∉ ownF A') w2 done (rows.map Row.vs) :=
        RepPL.ext he2 (P := fun b => w0.heap.size ≤ b ∧ b < w.heap.size ∧ b ∉ ownF A) (fun b hb => hb.2.2) (fun b hb => ⟨hb.1, by omega, hnew b (by omega) hb.2.2⟩) (RepPL.ext x18 (by simp) (fun b hb => hb) (RepPL.ext e' (fun b hb => hnF b hb.1) (fun b hb => hb) hrep))
      have r2 : RepPR (fun b => w0.heap.size ≤ b ∧ b < w2.heap.size ∧ b ∉ ownF A') w2 r vs :=
        RepPR.ext he2 (P := NewB w w') (fun b hb hm => by have := hAl b hm; have := hb.1; omega) (fun b hb => ⟨by have := hb.1; omega, by have := hb.2; omega, hnew b hb.2 (fun hm => by have := hAl b hm; have := hb.1; omega)⟩) (RepPR.ext x18 (by simp) (fun b hb => hb) hr)
      rw [List.map_append]
      exact RepPL.snoc r2 r1
omit ok in
theorem LAcc.done_ {w0 w : World} {s s1 : Pst} {tl : List Ty} {m n : Nat} {T : TypeId} {A : Option Addr} {c : Nat} (hn : n ≤ 16777216) (c0 : LAcc C w0 s1 tl m n T A n c w) (hm : manyS s = .ok n s1) {R : Ending → World → Prop} (k : Post C w0 (readT C.T (.list tl) s) (fun d s' w' => ∀ A n c, RepP (NewB w0 w') w' d (.slice A n c) → R (.returned (.slice A n c)) w') R) : R (.returned (.slice A n c)) w := by
  obtain ⟨hn0, han, done, s2, rows, h, e, ho, hA, hrep, heq⟩ := c0
  rw [Nat.sub_self] at heq
  simp only [timesS, Res.bind, List.append_nil] at heq
  simp only [readT, hm, Res.bind, heq, Post] at k
  exact k w h e A n c ⟨A, n, c, m, rows, rfl, ho.cells, ho.len, hn, fun b hb => ⟨hA b hb, (own_base ho b hb).2⟩, RepPL.ext (Ext.refl [] _) (by simp) (fun b hb => ⟨hb.1, hb.2.1⟩) hrep⟩
omit ok in
theorem post_times {w0 : World} {s s1 : Pst} {tl : List Ty} {n : Nat} (hm : manyS s = .ok n s1) {okk : D → Pst → World → Prop} {R : Ending → World → Prop} (k : Post C w0 (readT C.T (.list tl) s) okk R) : Post C w0 (timesS (readTs C.T tl) n s1) (fun l s' w' => okk (.list l) s' w') R := by
  simp only [readT, hm, Res.bind] at k
  cases hc : timesS (readTs C.T tl) n s1 with
  | err e p => rw [hc] at k; exact k
  | ok l s' => rw [hc] at k; exact k
set_option maxRecDepth 8000 in
theorem rdLabel_c : Rds C 121 tLabel := by
  intro s w R h k
  apply image_reader_label_nf
  intro w2 h2
  obtain ⟨b0, x0, z0⟩ := box_new (cs := [.string ByteArray.empty, .string ByteArray.empty]) h2
  have c := (Acc.start h tLabel).more ok (X' := [w.heap.size]) x0 (by simp; omega) (by simp)
  refine c.text ok k (fun w' ch h => .inr ⟨_, rfl, h⟩) fun t0 s' w' c' e' => .inl ⟨_, rfl, ?_⟩
  replace b0 := b0.ext e' (c.nF ok (by simp))
  replace c := c'
  clear e' c'
  refine c.text ok k (fun w' ch h => .inr ⟨_, rfl, h⟩) fun t1 s' w' c' e' => .inl ⟨_, rfl, ?_⟩
  replace b0 := b0.ext e' (c.nF ok (by simp))
  replace c := c'
  clear e' c'
  obtain ⟨w9, hr9, b9, x9⟩ := storeW (P := Tryz.prog) (t := 87) (n := 2) iLabel b0 (vs := [.string t0, .string t1]) (by rfl) rfl (by simp [Value.oneCell'])
  exact ⟨w9, hr9, _, _, cadd0 b9, (c.box ok (by simp) x9).done_ k⟩
set_option maxRecDepth 8000 in
theorem rlLabel_c : LRds C 120 121 tLabel := by
  intro s w R h k
  apply image_readList_api_Label__nf
  refine many_c ok h ?_
  cases hm : manyS s with
  | err e p =>
    simp only [readT, hm, Res.bind] at k
    exact fun w' fa e hfa hb => .inr ⟨_, rfl, k w' fa e hfa hb⟩
  | ok n s1 =>
  intro w7 h7 e7 hn
  refine .inl ⟨_, rfl, ?_⟩
  have kt := post_times hm k
  refine ⟨fun A l c t w' => t = (l : Int) ∧ LAcc C w s1 tLabel 1 n 87 A l c w', fun _ l _ _ _ => n - l, ⟨rfl, LAcc.start h.n h7 e7⟩, ?_⟩
  rintro A l c _ _ w13 ⟨rfl, c13⟩
  have hln := c13.an
  refine sel_dec (fun hlt => ?_) (fun hge => ?_)
  rotate_left
  · obtain rfl : l = n := by omega
    exact c13.done_ hn hm k
  refine when_intro (by kernel_rfl) (c13.step ok (t := 49) (ty := 49) (z := .agg ⟨[.string ByteArray.empty, .string ByteArray.empty]⟩) (bytes := 32) (by kernel_rfl) (by kernel_rfl) (by kernel_rfl) (by omega) (by omega) hn (by omega) (rdLabel_c ok) kt (fun w' ch h => .inr ⟨_, rfl, h⟩) fun r vs w' htr hrr hk => ?_)
  obtain ⟨s0, r0, u0, rfl, rfl, z0, htr, hrr⟩ := inv_str htr hrr
  obtain ⟨s1, r1, u1, rfl, rfl, z1, htr, hrr⟩ := inv_str htr hrr
  obtain ⟨rfl, rfl⟩ := inv_nil htr hrr
  refine .inl ⟨_, _, rfl, fun w18 h18 => ?_⟩
  obtain ⟨A', c', w2, hr2, h2⟩ := hk rfl (by simp [Value.oneCell']) w18 h18
  rw [up64 l (by omega)]
  exact ⟨A', _, c', w2, hr2, ⟨rfl, h2⟩, by show n - (l + 1) < n - l; omega⟩
set_option maxRecDepth 8000 in
theorem rdItem_c : Rds C 125 tItem := by
  intro s w R h k
  apply image_reader_item_nf
  intro w2 h2
  obtain ⟨b0, x0, z0⟩ := box_new (cs := [.string ByteArray.empty, .int .i64 0]) h2
  have c := (Acc.start h tItem).more ok (X' := [w.heap.size]) x0 (by simp; omega) (by simp)
  refine c.text ok k (fun w' ch h => .inr ⟨_, rfl, h⟩) fun t0 s' w' c' e' => .inl ⟨_, rfl, ?_⟩
  replace b0 := b0.ext e' (c.nF ok (by simp))
  replace c := c'
  clear e' c'
  refine c.num ok k (fun w' ch h => .inr ⟨_, rfl, h⟩) fun t1 s' w' c' e' => .inl ⟨_, rfl, ?_⟩
  replace b0 := b0.ext e' (c.nF ok (by simp))
  replace c := c'
  clear e' c'
  obtain ⟨w9, hr9, b9, x9⟩ := storeW (P := Tryz.prog) (t := 91) (n := 2) iItem b0 (vs := [.string t0, .int .i64 t1]) (by rfl) rfl (by simp [Value.oneCell'])
  exact ⟨w9, hr9, _, _, cadd0 b9, (c.box ok (by simp) x9).done_ k⟩
set_option maxRecDepth 8000 in
theorem rlItem_c : LRds C 124 125 tItem := by
  intro s w R h k
  apply image_readList_api_Item__nf
  refine many_c ok h ?_
  cases hm : manyS s with
  | err e p =>
    simp only [readT, hm, Res.bind] at k
    exact fun w' fa e hfa hb => .inr ⟨_, rfl, k w' fa e hfa hb⟩
  | ok n s1 =>
  intro w7 h7 e7 hn
  refine .inl ⟨_, rfl, ?_⟩
  have kt := post_times hm k
  refine ⟨fun A l c t w' => t = (l : Int) ∧ LAcc C w s1 tItem 1 n 91 A l c w', fun _ l _ _ _ => n - l, ⟨rfl, LAcc.start h.n h7 e7⟩, ?_⟩
  rintro A l c _ _ w13 ⟨rfl, c13⟩
  have hln := c13.an
  refine sel_dec (fun hlt => ?_) (fun hge => ?_)
  rotate_left
  · obtain rfl : l = n := by omega
    exact c13.done_ hn hm k
  refine when_intro (by kernel_rfl) (c13.step ok (t := 51) (ty := 51) (z := .agg ⟨[.string ByteArray.empty, .int .i64 0]⟩) (bytes := 24) (by kernel_rfl) (by kernel_rfl) (by kernel_rfl) (by omega) (by omega) hn (by omega) (rdItem_c ok) kt (fun w' ch h => .inr ⟨_, rfl, h⟩) fun r vs w' htr hrr hk => ?_)
  obtain ⟨s0, r0, u0, rfl, rfl, z0, htr, hrr⟩ := inv_str htr hrr
  obtain ⟨s1, r1, u1, rfl, rfl, z1, htr, hrr⟩ := inv_int htr hrr
  obtain ⟨rfl, rfl⟩ := inv_nil htr hrr
  refine .inl ⟨_, _, rfl, fun w18 h18 => ?_⟩
  obtain ⟨A', c', w2, hr2, h2⟩ := hk rfl (by simp [Value.oneCell']) w18 h18
  rw [up64 l (by omega)]
  exact ⟨A', _, c', w2, hr2, ⟨rfl, h2⟩, by show n - (l + 1) < n - l; omega⟩
set_option maxRecDepth 8000 in
theorem rdTaint_c : Rds C 123 tTaint := by
  intro s w R h k
  apply image_reader_taint_nf
  intro w2 h2
  obtain ⟨b0, x0, z0⟩ := box_new (cs := [.string ByteArray.empty, .string ByteArray.empty, .string ByteArray.empty]) h2
  have c := (Acc.start h tTaint).more ok (X' := [w.heap.size]) x0 (by simp; omega) (by simp)
  refine c.text ok k (fun w' ch h => .inr ⟨_, rfl, h⟩) fun t0 s' w' c' e' => .inl ⟨_, rfl, ?_⟩
  replace b0 := b0.ext e' (c.nF ok (by simp))
  replace c := c'
  clear e' c'
  refine c.text ok k (fun w' ch h => .inr ⟨_, rfl, h⟩) fun t1 s' w' c' e' => .inl ⟨_, rfl, ?_⟩
  replace b0 := b0.ext e' (c.nF ok (by simp))
  replace c := c'
  clear e' c'
  refine c.text ok k (fun w' ch h => .inr ⟨_, rfl, h⟩) fun t2 s' w' c' e' => .inl ⟨_, rfl, ?_⟩
  replace b0 := b0.ext e' (c.nF ok (by simp))
  replace c := c'
  clear e' c'
  obtain ⟨w9, hr9, b9, x9⟩ := storeW (P := Tryz.prog) (t := 89) (n := 3) iTaint b0 (vs := [.string t0, .string t1, .string t2]) (by rfl) rfl (by simp [Value.oneCell'])
  exact ⟨w9, hr9, _, _, _, cadd0 b9, (c.box ok (by simp) x9).done_ k⟩
set_option maxRecDepth 8000 in
theorem rlTaint_c : LRds C 122 123 tTaint := by
  intro s w R h k
  apply image_readList_api_Taint__nf
  refine many_c ok h ?_
  cases hm : manyS s with
  | err e p =>
    simp only [readT, hm, Res.bind] at k
    exact fun w' fa e hfa hb => .inr ⟨_, rfl, k w' fa e hfa hb⟩
  | ok n s1 =>
  intro w7 h7 e7 hn
  refine .inl ⟨_, rfl, ?_⟩
  have kt := post_times hm k
  refine ⟨fun A l c t w' => t = (l : Int) ∧ LAcc C w s1 tTaint 2 n 89 A l c w', fun _ l _ _ _ => n - l, ⟨rfl, LAcc.start h.n h7 e7⟩, ?_⟩
  rintro A l c _ _ w13 ⟨rfl, c13⟩
  have hln := c13.an
  refine sel_dec (fun hlt => ?_) (fun hge => ?_)
  rotate_left
  · obtain rfl : l = n := by omega
    exact c13.done_ hn hm k
  refine when_intro (by kernel_rfl) (c13.step ok (t := 50) (ty := 50) (z := .agg ⟨[.string ByteArray.empty, .string ByteArray.empty, .string ByteArray.empty]⟩) (bytes := 48) (by kernel_rfl) (by kernel_rfl) (by kernel_rfl) (by omega) (by omega) hn (by omega) (rdTaint_c ok) kt (fun w' ch h => .inr ⟨_, rfl, h⟩) fun r vs w' htr hrr hk => ?_)
  obtain ⟨s0, r0, u0, rfl, rfl, z0, htr, hrr⟩ := inv_str htr hrr
  obtain ⟨s1, r1, u1, rfl, rfl, z1, htr, hrr⟩ := inv_str htr hrr
  obtain ⟨s2, r2, u2, rfl, rfl, z2, htr, hrr⟩ := inv_str htr hrr
  obtain ⟨rfl, rfl⟩ := inv_nil htr hrr
  refine .inl ⟨_, _, _, rfl, fun w18 h18 => ?_⟩
  obtain ⟨A', c', w2, hr2, h2⟩ := hk rfl (by simp [Value.oneCell']) w18 h18
  rw [up64 l (by omega)]
  exact ⟨A', _, c', w2, hr2, ⟨rfl, h2⟩, by show n - (l + 1) < n - l; omega⟩
set_option maxRecDepth 8000 in
theorem rdToleration_c : Rds C 140 tTol := by
  intro s w R h k
  apply image_reader_toleration_nf
  intro w2 h2
  obtain ⟨b0, x0, z0⟩ := box_new (cs := [.string ByteArray.empty, .string ByteArray.empty, .string ByteArray.empty, .string ByteArray.empty]) h2
  have c := (Acc.start h tTol).more ok (X' := [w.heap.size]) x0 (by simp; omega) (by simp)
  refine c.text ok k (fun w' ch h => .inr ⟨_, rfl, h⟩) fun t0 s' w' c' e' => .inl ⟨_, rfl, ?_⟩
  replace b0 := b0.ext e' (c.nF ok (by simp))
  replace c := c'
  clear e' c'
  refine c.text ok k (fun w' ch h => .inr ⟨_, rfl, h⟩) fun t1 s' w' c' e' => .inl ⟨_, rfl, ?_⟩
  replace b0 := b0.ext e' (c.nF ok (by simp))
  replace c := c'
  clear e' c'
  refine c.text ok k (fun w' ch h => .inr ⟨_, rfl, h⟩) fun t2 s' w' c' e' => .inl ⟨_, rfl, ?_⟩
  replace b0 := b0.ext e' (c.nF ok (by simp))
  replace c := c'
  clear e' c'
  refine c.text ok k (fun w' ch h => .inr ⟨_, rfl, h⟩) fun t3 s' w' c' e' => .inl ⟨_, rfl, ?_⟩
  replace b0 := b0.ext e' (c.nF ok (by simp))
  replace c := c'
  clear e' c'
  obtain ⟨w9, hr9, b9, x9⟩ := storeW (P := Tryz.prog) (t := 123) (n := 4) iToleration b0 (vs := [.string t0, .string t1, .string t2, .string t3]) (by rfl) rfl (by simp [Value.oneCell'])
  exact ⟨w9, hr9, _, _, _, _, cadd0 b9, (c.box ok (by simp) x9).done_ k⟩
set_option maxRecDepth 8000 in
theorem rlToleration_c : LRds C 139 140 tTol := by
  intro s w R h k
  apply image_readList_api_Toleration__nf
  refine many_c ok h ?_
  cases hm : manyS s with
  | err e p =>
    simp only [readT, hm, Res.bind] at k
    exact fun w' fa e hfa hb => .inr ⟨_, rfl, k w' fa e hfa hb⟩
  | ok n s1 =>
  intro w7 h7 e7 hn
  refine .inl ⟨_, rfl, ?_⟩
  have kt := post_times hm k
  refine ⟨fun A l c t w' => t = (l : Int) ∧ LAcc C w s1 tTol 3 n 123 A l c w', fun _ l _ _ _ => n - l, ⟨rfl, LAcc.start h.n h7 e7⟩, ?_⟩
  rintro A l c _ _ w13 ⟨rfl, c13⟩
  have hln := c13.an
  refine sel_dec (fun hlt => ?_) (fun hge => ?_)
  rotate_left
  · obtain rfl : l = n := by omega
    exact c13.done_ hn hm k
  refine when_intro (by kernel_rfl) (c13.step ok (t := 64) (ty := 64) (z := .agg ⟨[.string ByteArray.empty, .string ByteArray.empty, .string ByteArray.empty, .string ByteArray.empty]⟩) (bytes := 64) (by kernel_rfl) (by kernel_rfl) (by kernel_rfl) (by omega) (by omega) hn (by omega) (rdToleration_c ok) kt (fun w' ch h => .inr ⟨_, rfl, h⟩) fun r vs w' htr hrr hk => ?_)
  obtain ⟨s0, r0, u0, rfl, rfl, z0, htr, hrr⟩ := inv_str htr hrr
  obtain ⟨s1, r1, u1, rfl, rfl, z1, htr, hrr⟩ := inv_str htr hrr
  obtain ⟨s2, r2, u2, rfl, rfl, z2, htr, hrr⟩ := inv_str htr hrr
  obtain ⟨s3, r3, u3, rfl, rfl, z3, htr, hrr⟩ := inv_str htr hrr
  obtain ⟨rfl, rfl⟩ := inv_nil htr hrr
  refine .inl ⟨_, _, _, _, rfl, fun w18 h18 => ?_⟩
  obtain ⟨A', c', w2, hr2, h2⟩ := hk rfl (by simp [Value.oneCell']) w18 h18
  rw [up64 l (by omega)]
  exact ⟨A', _, c', w2, hr2, ⟨rfl, h2⟩, by show n - (l + 1) < n - l; omega⟩
set_option maxRecDepth 8000 in
theorem rdApart_c : Rds C 142 tApart := by
  intro s w R h k
  apply image_reader_apart_nf
  intro w2 h2
  obtain ⟨b0, x0, z0⟩ := box_new (cs := [.string ByteArray.empty, .string ByteArray.empty]) h2
  have c := (Acc.start h tApart).more ok (X' := [w.heap.size]) x0 (by simp; omega) (by simp)
  refine c.text ok k (fun w' ch h => .inr ⟨_, rfl, h⟩) fun t0 s' w' c' e' => .inl ⟨_, rfl, ?_⟩
  replace b0 := b0.ext e' (c.nF ok (by simp))
  replace c := c'
  clear e' c'
  refine c.text ok k (fun w' ch h => .inr ⟨_, rfl, h⟩) fun t1 s' w' c' e' => .inl ⟨_, rfl, ?_⟩
  replace b0 := b0.ext e' (c.nF ok (by simp))
  replace c := c'
  clear e' c'
  obtain ⟨w9, hr9, b9, x9⟩ := storeW (P := Tryz.prog) (t := 125) (n := 2) iApart b0 (vs := [.string t0, .string t1]) (by rfl) rfl (by simp [Value.oneCell'])
  exact ⟨w9, hr9, _, _, cadd0 b9, (c.box ok (by simp) x9).done_ k⟩
set_option maxRecDepth 8000 in
theorem rlApart_c : LRds C 141 142 tApart := by
  intro s w R h k
  apply image_readList_api_Apart__nf
  refine many_c ok h ?_
  cases hm : manyS s with
  | err e p =>
    simp only [readT, hm, Res.bind] at k
    exact fun w' fa e hfa hb => .inr ⟨_, rfl, k w' fa e hfa hb⟩
  | ok n s1 =>
  intro w7 h7 e7 hn
  refine .inl ⟨_, rfl, ?_⟩
  have kt := post_times hm k
  refine ⟨fun A l c t w' => t = (l : Int) ∧ LAcc C w s1 tApart 1 n 125 A l c w', fun _ l _ _ _ => n - l, ⟨rfl, LAcc.start h.n h7 e7⟩, ?_⟩
  rintro A l c _ _ w13 ⟨rfl, c13⟩
  have hln := c13.an
  refine sel_dec (fun hlt => ?_) (fun hge => ?_)
  rotate_left
  · obtain rfl : l = n := by omega
    exact c13.done_ hn hm k
  refine when_intro (by kernel_rfl) (c13.step ok (t := 65) (ty := 65) (z := .agg ⟨[.string ByteArray.empty, .string ByteArray.empty]⟩) (bytes := 32) (by kernel_rfl) (by kernel_rfl) (by kernel_rfl) (by omega) (by omega) hn (by omega) (rdApart_c ok) kt (fun w' ch h => .inr ⟨_, rfl, h⟩) fun r vs w' htr hrr hk => ?_)
  obtain ⟨s0, r0, u0, rfl, rfl, z0, htr, hrr⟩ := inv_str htr hrr
  obtain ⟨s1, r1, u1, rfl, rfl, z1, htr, hrr⟩ := inv_str htr hrr
  obtain ⟨rfl, rfl⟩ := inv_nil htr hrr
  refine .inl ⟨_, _, rfl, fun w18 h18 => ?_⟩
  obtain ⟨A', c', w2, hr2, h2⟩ := hk rfl (by simp [Value.oneCell']) w18 h18
  rw [up64 l (by omega)]
  exact ⟨A', _, c', w2, hr2, ⟨rfl, h2⟩, by show n - (l + 1) < n - l; omega⟩
set_option maxRecDepth 8000 in
theorem rdPrefer_c : Rds C 144 tPrefer := by
  intro s w R h k
  apply image_reader_prefer_nf
  intro w2 h2
  obtain ⟨b0, x0, z0⟩ := box_new (cs := [.int .i64 0, .string ByteArray.empty]) h2
  have c := (Acc.start h tPrefer).more ok (X' := [w.heap.size]) x0 (by simp; omega) (by simp)
  refine c.num ok k (fun w' ch h => .inr ⟨_, rfl, h⟩) fun t0 s' w' c' e' => .inl ⟨_, rfl, ?_⟩
  replace b0 := b0.ext e' (c.nF ok (by simp))
  replace c := c'
  clear e' c'
  refine c.text ok k (fun w' ch h => .inr ⟨_, rfl, h⟩) fun t1 s' w' c' e' => .inl ⟨_, rfl, ?_⟩
  replace b0 := b0.ext e' (c.nF ok (by simp))
  replace c := c'
  clear e' c'
  obtain ⟨w9, hr9, b9, x9⟩ := storeW (P := Tryz.prog) (t := 127) (n := 2) iPrefer b0 (vs := [.int .i64 t0, .string t1]) (by rfl) rfl (by simp [Value.oneCell'])
  exact ⟨w9, hr9, _, _, cadd0 b9, (c.box ok (by simp) x9).done_ k⟩
set_option maxRecDepth 8000 in
theorem rlPrefer_c : LRds C 143 144 tPrefer := by
  intro s w R h k
  apply image_readList_api_Prefer__nf
  refine many_c ok h ?_
  cases hm : manyS s with
  | err e p =>
    simp only [readT, hm, Res.bind] at k
    exact fun w' fa e hfa hb => .inr ⟨_, rfl, k w' fa e hfa hb⟩
  | ok n s1 =>
  intro w7 h7 e7 hn
  refine .inl ⟨_, rfl, ?_⟩
  have kt := post_times hm k
  refine ⟨fun A l c t w' => t = (l : Int) ∧ LAcc C w s1 tPrefer 1 n 127 A l c w', fun _ l _ _ _ => n - l, ⟨rfl, LAcc.start h.n h7 e7⟩, ?_⟩
  rintro A l c _ _ w13 ⟨rfl, c13⟩
  have hln := c13.an
  refine sel_dec (fun hlt => ?_) (fun hge => ?_)
  rotate_left
  · obtain rfl : l = n := by omega
    exact c13.done_ hn hm k
  refine when_intro (by kernel_rfl) (c13.step ok (t := 66) (ty := 66) (z := .agg ⟨[.int .i64 0, .string ByteArray.empty]⟩) (bytes := 24) (by kernel_rfl) (by kernel_rfl) (by kernel_rfl) (by omega) (by omega) hn (by omega) (rdPrefer_c ok) kt (fun w' ch h => .inr ⟨_, rfl, h⟩) fun r vs w' htr hrr hk => ?_)
  obtain ⟨s0, r0, u0, rfl, rfl, z0, htr, hrr⟩ := inv_int htr hrr
  obtain ⟨s1, r1, u1, rfl, rfl, z1, htr, hrr⟩ := inv_str htr hrr
  obtain ⟨rfl, rfl⟩ := inv_nil htr hrr
  refine .inl ⟨_, _, rfl, fun w18 h18 => ?_⟩
  obtain ⟨A', c', w2, hr2, h2⟩ := hk rfl (by simp [Value.oneCell']) w18 h18
  rw [up64 l (by omega)]
  exact ⟨A', _, c', w2, hr2, ⟨rfl, h2⟩, by show n - (l + 1) < n - l; omega⟩
set_option maxRecDepth 8000 in
theorem rdNode_c : Rds C 90 tNode := by
  intro s w R h k
  apply image_reader_node_nf
  intro w2 h2
  obtain ⟨b0, x0, z0⟩ := box_new (cs := [.string ByteArray.empty, .slice none 0 0, .slice none 0 0, .slice none 0 0, .bool false]) h2
  intro w3 h3
  obtain ⟨b1, x1, z1⟩ := box_new (cs := [.string ByteArray.empty, .slice none 0 0, .slice none 0 0, .slice none 0 0, .bool false]) h3
  have hne : w.heap.size ≠ w2.heap.size := by omega
  have c := (Acc.start h tNode).more ok (X' := [w.heap.size, w2.heap.size]) (x0.trans x1) (by simp; omega) (by simp)
  replace b0 := b0.ext x1 (by simp)
  refine c.text ok k (fun w' ch h => .inr ⟨_, rfl, h⟩) fun t0 s' w' c' e' => .inl ⟨_, rfl, ?_⟩
  replace b0 := b0.ext e' (c.nF ok (by simp))
  replace b1 := b1.ext e' (c.nF ok (by simp))
  replace c := c'
  clear e' c'
  obtain ⟨w4, hr4, b4, x4⟩ := store1a (P := Tryz.prog) (t := 9) (i := 0) (v := .string t0) (by kernel_rfl) b1 (by simp) rfl rfl
  refine ⟨w4, hr4, ?_⟩
  replace b0 := b0.ext x4 (by simpa using hne)
  replace b1 := b4
  replace c := c.box ok (by simp) x4
  clear b4 x4 hr4
  refine c.list ok k (fun w' ch h => .inr ⟨_, rfl, h⟩) (rlLabel_c ok) fun d1 A1 n1 k1 s' w' c' e' => .inl ⟨_, _, _, rfl, ?_⟩
  replace b0 := b0.ext e' (c.nF ok (by simp))
  replace b1 := b1.ext e' (c.nF ok (by simp))
  replace c := c'
  clear e' c'
  obtain ⟨w4, hr4, b4, x4⟩ := store1a (P := Tryz.prog) (t := 49) (i := 1) (v := .slice A1 n1 k1) (by kernel_rfl) b1 (by simp) rfl rfl
  refine ⟨w4, hr4, ?_⟩
  replace b0 := b0.ext x4 (by simpa using hne)
  replace b1 := b4
  replace c := c.box ok (by simp) x4
  clear b4 x4 hr4
  refine c.list ok k (fun w' ch h => .inr ⟨_, rfl, h⟩) (rlTaint_c ok) fun d2 A2 n2 k2 s' w' c' e' => .inl ⟨_, _, _, rfl, ?_⟩
  replace b0 := b0.ext e' (c.nF ok (by simp))
  replace b1 := b1.ext e' (c.nF ok (by simp))
  replace c := c'
  clear e' c'
  obtain ⟨w4, hr4, b4, x4⟩ := store1a (P := Tryz.prog) (t := 50) (i := 2) (v := .slice A2 n2 k2) (by kernel_rfl) b1 (by simp) rfl rfl
  refine ⟨w4, hr4, ?_⟩
  replace b0 := b0.ext x4 (by simpa using hne)
  replace b1 := b4
  replace c := c.box ok (by simp) x4
  clear b4 x4 hr4
  refine c.list ok k (fun w' ch h => .inr ⟨_, rfl, h⟩) (rlItem_c ok) fun d3 A3 n3 k3 s' w' c' e' => .inl ⟨_, _, _, rfl, ?_⟩
  replace b0 := b0.ext e' (c.nF ok (by simp))
  replace b1 := b1.ext e' (c.nF ok (by simp))
  replace c := c'
  clear e' c'
  obtain ⟨w4, hr4, b4, x4⟩ := store1a (P := Tryz.prog) (t := 51) (i := 3) (v := .slice A3 n3 k3) (by kernel_rfl) b1 (by simp) rfl rfl
  refine ⟨w4, hr4, ?_⟩
  replace b0 := b0.ext x4 (by simpa using hne)
  replace b1 := b4
  replace c := c.box ok (by simp) x4
  clear b4 x4 hr4
  refine c.truth ok k (fun w' ch h => .inr ⟨_, rfl, h⟩) fun t4 s' w' c' e' => .inl ⟨_, rfl, ?_⟩
  replace b0 := b0.ext e' (c.nF ok (by simp))
  replace b1 := b1.ext e' (c.nF ok (by simp))
  replace c := c'
  clear e' c'
  obtain ⟨w4, hr4, b4, x4⟩ := store1a (P := Tryz.prog) (t := 4) (i := 4) (v := .bool t4) (by kernel_rfl) b1 (by simp) rfl rfl
  refine ⟨w4, hr4, ?_⟩
  replace b0 := b0.ext x4 (by simpa using hne)
  replace b1 := b4
  replace c := c.box ok (by simp) x4
  clear b4 x4 hr4
  obtain ⟨w9, hr9, b9, x9⟩ := storeW (P := Tryz.prog) (t := 53) (n := 5) iNode b0 (vs := [.string t0, .slice A1 n1 k1, .slice A2 n2 k2, .slice A3 n3 k3, .bool t4]) (by rfl) rfl (by simp [Value.oneCell'])
  exact ⟨_, _, _, _, _, _, _, _, _, _, _, cadd0 b1, w9, hr9, _, _, _, _, _, _, _, _, _, _, _, cadd0 b9, (c.box ok (by simp) x9).done_ k⟩
set_option maxRecDepth 8000 in
theorem rlNode_c : LRds C 89 90 tNode := by
  intro s w R h k
  apply image_readList_api_Node__nf
  refine many_c ok h ?_
  cases hm : manyS s with
  | err e p =>
    simp only [readT, hm, Res.bind] at k
    exact fun w' fa e hfa hb => .inr ⟨_, rfl, k w' fa e hfa hb⟩
  | ok n s1 =>
  intro w7 h7 e7 hn
  refine .inl ⟨_, rfl, ?_⟩
  have kt := post_times hm k
  refine ⟨fun A l c t w' => t = (l : Int) ∧ LAcc C w s1 tNode 4 n 53 A l c w', fun _ l _ _ _ => n - l, ⟨rfl, LAcc.start h.n h7 e7⟩, ?_⟩
  rintro A l c _ _ w13 ⟨rfl, c13⟩
  have hln := c13.an
  refine sel_dec (fun hlt => ?_) (fun hge => ?_)
  rotate_left
  · obtain rfl : l = n := by omega
    exact c13.done_ hn hm k
  refine when_intro (by kernel_rfl) (c13.step ok (t := 22) (ty := 22) (z := .agg ⟨[.string ByteArray.empty, .slice none 0 0, .slice none 0 0, .slice none 0 0, .bool false]⟩) (bytes := 96) (by kernel_rfl) (by kernel_rfl) (by kernel_rfl) (by omega) (by omega) hn (by omega) (rdNode_c ok) kt (fun w' ch h => .inr ⟨_, rfl, h⟩) fun r vs w' htr hrr hk => ?_)
  obtain ⟨s0, r0, u0, rfl, rfl, z0, htr, hrr⟩ := inv_str htr hrr
  obtain ⟨s1, A1, n1, c1, m1, xs1, r1, u1, rfl, rfl, z1, htr, hrr⟩ := inv_list htr hrr
  obtain ⟨s2, A2, n2, c2, m2, xs2, r2, u2, rfl, rfl, z2, htr, hrr⟩ := inv_list htr hrr
  obtain ⟨s3, A3, n3, c3, m3, xs3, r3, u3, rfl, rfl, z3, htr, hrr⟩ := inv_list htr hrr
  obtain ⟨s4, r4, u4, rfl, rfl, htr, hrr⟩ := inv_bool htr hrr
  obtain ⟨rfl, rfl⟩ := inv_nil htr hrr
  refine .inl ⟨_, _, _, _, _, _, _, _, _, _, _, rfl, fun w18 h18 => ?_⟩
  obtain ⟨A', c', w2, hr2, h2⟩ := hk rfl (by simp [Value.oneCell']) w18 h18
  rw [up64 l (by omega)]
  exact ⟨A', _, c', w2, hr2, ⟨rfl, h2⟩, by show n - (l + 1) < n - l; omega⟩
set_option maxRecDepth 8000 in
theorem rdPod_c : Rds C 127 tPod := by
  intro s w R h k
  apply image_reader_pod_nf
  intro w2 h2
  obtain ⟨b0, x0, z0⟩ := box_new (cs := [.string ByteArray.empty, .slice none 0 0, .slice none 0 0, .slice none 0 0, .string ByteArray.empty, .slice none 0 0, .slice none 0 0, .int .i64 0]) h2
  intro w3 h3
  obtain ⟨b1, x1, z1⟩ := box_new (cs := [.string ByteArray.empty, .slice none 0 0, .slice none 0 0, .slice none 0 0, .string ByteArray.empty, .slice none 0 0, .slice none 0 0, .int .i64 0]) h3
  have hne : w.heap.size ≠ w2.heap.size := by omega
  have c := (Acc.start h tPod).more ok (X' := [w.heap.size, w2.heap.size]) (x0.trans x1) (by simp; omega) (by simp)
  replace b0 := b0.ext x1 (by simp)
  refine c.text ok k (fun w' ch h => .inr ⟨_, rfl, h⟩) fun t0 s' w' c' e' => .inl ⟨_, rfl, ?_⟩
  replace b0 := b0.ext e' (c.nF ok (by simp))
  replace b1 := b1.ext e' (c.nF ok (by simp))
  replace c := c'
  clear e' c'
  obtain ⟨w4, hr4, b4, x4⟩ := store1a (P := Tryz.prog) (t := 9) (i := 0) (v := .string t0) (by kernel_rfl) b1 (by simp) rfl rfl
  refine ⟨w4, hr4, ?_⟩
  replace b0 := b0.ext x4 (by simpa using hne)
  replace b1 := b4
  replace c := c.box ok (by simp) x4
  clear b4 x4 hr4
  refine c.list ok k (fun w' ch h => .inr ⟨_, rfl, h⟩) (rlLabel_c ok) fun d1 A1 n1 k1 s' w' c' e' => .inl ⟨_, _, _, rfl, ?_⟩
  replace b0 := b0.ext e' (c.nF ok (by simp))
  replace b1 := b1.ext e' (c.nF ok (by simp))
  replace c := c'
  clear e' c'
  obtain ⟨w4, hr4, b4, x4⟩ := store1a (P := Tryz.prog) (t := 49) (i := 1) (v := .slice A1 n1 k1) (by kernel_rfl) b1 (by simp) rfl rfl
  refine ⟨w4, hr4, ?_⟩
  replace b0 := b0.ext x4 (by simpa using hne)
  replace b1 := b4
  replace c := c.box ok (by simp) x4
  clear b4 x4 hr4
  refine c.list ok k (fun w' ch h => .inr ⟨_, rfl, h⟩) (rlItem_c ok) fun d2 A2 n2 k2 s' w' c' e' => .inl ⟨_, _, _, rfl, ?_⟩
  replace b0 := b0.ext e' (c.nF ok (by simp))
  replace b1 := b1.ext e' (c.nF ok (by simp))
  replace c := c'
  clear e' c'
  obtain ⟨w4, hr4, b4, x4⟩ := store1a (P := Tryz.prog) (t := 51) (i := 2) (v := .slice A2 n2 k2) (by kernel_rfl) b1 (by simp) rfl rfl
  refine ⟨w4, hr4, ?_⟩
  replace b0 := b0.ext x4 (by simpa using hne)
  replace b1 := b4
  replace c := c.box ok (by simp) x4
  clear b4 x4 hr4
  refine c.list ok k (fun w' ch h => .inr ⟨_, rfl, h⟩) (rlToleration_c ok) fun d3 A3 n3 k3 s' w' c' e' => .inl ⟨_, _, _, rfl, ?_⟩
  replace b0 := b0.ext e' (c.nF ok (by simp))
  replace b1 := b1.ext e' (c.nF ok (by simp))
  replace c := c'
  clear e' c'
  obtain ⟨w4, hr4, b4, x4⟩ := store1a (P := Tryz.prog) (t := 64) (i := 3) (v := .slice A3 n3 k3) (by kernel_rfl) b1 (by simp) rfl rfl
  refine ⟨w4, hr4, ?_⟩
  replace b0 := b0.ext x4 (by simpa using hne)
  replace b1 := b4
  replace c := c.box ok (by simp) x4
  clear b4 x4 hr4
  refine c.text ok k (fun w' ch h => .inr ⟨_, rfl, h⟩) fun t4 s' w' c' e' => .inl ⟨_, rfl, ?_⟩
  replace b0 := b0.ext e' (c.nF ok (by simp))
  replace b1 := b1.ext e' (c.nF ok (by simp))
  replace c := c'
  clear e' c'
  obtain ⟨w4, hr4, b4, x4⟩ := store1a (P := Tryz.prog) (t := 9) (i := 4) (v := .string t4) (by kernel_rfl) b1 (by simp) rfl rfl
  refine ⟨w4, hr4, ?_⟩
  replace b0 := b0.ext x4 (by simpa using hne)
  replace b1 := b4
  replace c := c.box ok (by simp) x4
  clear b4 x4 hr4
  refine c.list ok k (fun w' ch h => .inr ⟨_, rfl, h⟩) (rlApart_c ok) fun d5 A5 n5 k5 s' w' c' e' => .inl ⟨_, _, _, rfl, ?_⟩
  replace b0 := b0.ext e' (c.nF ok (by simp))
  replace b1 := b1.ext e' (c.nF ok (by simp))
  replace c := c'
  clear e' c'
  obtain ⟨w4, hr4, b4, x4⟩ := store1a (P := Tryz.prog) (t := 65) (i := 5) (v := .slice A5 n5 k5) (by kernel_rfl) b1 (by simp) rfl rfl
  refine ⟨w4, hr4, ?_⟩
  replace b0 := b0.ext x4 (by simpa using hne)
  replace b1 := b4
  replace c := c.box ok (by simp) x4
  clear b4 x4 hr4
  refine c.list ok k (fun w' ch h => .inr ⟨_, rfl, h⟩) (rlPrefer_c ok) fun d6 A6 n6 k6 s' w' c' e' => .inl ⟨_, _, _, rfl, ?_⟩
  replace b0 := b0.ext e' (c.nF ok (by simp))
  replace b1 := b1.ext e' (c.nF ok (by simp))
  replace c := c'
  clear e' c'
  obtain ⟨w4, hr4, b4, x4⟩ := store1a (P := Tryz.prog) (t := 66) (i := 6) (v := .slice A6 n6 k6) (by kernel_rfl) b1 (by simp) rfl rfl
  refine ⟨w4, hr4, ?_⟩
  replace b0 := b0.ext x4 (by simpa using hne)
  replace b1 := b4
  replace c := c.box ok (by simp) x4
  clear b4 x4 hr4
  refine c.num ok k (fun w' ch h => .inr ⟨_, rfl, h⟩) fun t7 s' w' c' e' => .inl ⟨_, rfl, ?_⟩
  replace b0 := b0.ext e' (c.nF ok (by simp))
  replace b1 := b1.ext e' (c.nF ok (by simp))
  replace c := c'
  clear e' c'
  obtain ⟨w4, hr4, b4, x4⟩ := store1a (P := Tryz.prog) (t := 3) (i := 7) (v := .int .i64 t7) (by kernel_rfl) b1 (by simp) rfl rfl
  refine ⟨w4, hr4, ?_⟩
  replace b0 := b0.ext x4 (by simpa using hne)
  replace b1 := b4
  replace c := c.box ok (by simp) x4
  clear b4 x4 hr4
  obtain ⟨w9, hr9, b9, x9⟩ := storeW (P := Tryz.prog) (t := 68) (n := 8) iPod b0 (vs := [.string t0, .slice A1 n1 k1, .slice A2 n2 k2, .slice A3 n3 k3, .string t4, .slice A5 n5 k5, .slice A6 n6 k6, .int .i64 t7]) (by rfl) rfl (by simp [Value.oneCell'])
  exact ⟨_, _, _, _, _, _, _, _, _, _, _, _, _, _, _, _, _, _, cadd0 b1, w9, hr9, _, _, _, _, _, _, _, _, _, _, _, _, _, _, _, _, _, _, cadd0 b9, (c.box ok (by simp) x9).done_ k⟩
set_option maxRecDepth 8000 in
theorem rdBound_c : Rds C 92 tBound := by
  intro s w R h k
  apply image_reader_bound_nf
  intro w2 h2
  obtain ⟨b0, x0, z0⟩ := box_new (cs := [.string ByteArray.empty, .slice none 0 0, .slice none 0 0, .slice none 0 0, .string ByteArray.empty, .slice none 0 0, .slice none 0 0, .int .i64 0, .string ByteArray.empty]) h2
  have c := (Acc.start h tBound).more ok (X' := [w.heap.size]) x0 (by simp; omega) (by simp)
  refine c.rows ok k (fun w' ch h => .inr ⟨_, rfl, h⟩) (xs := tPod) (us := [.str]) (rdPod_c ok) fun r rv s1 w1 hrd hrr c' e' => ?_
  replace hrr := hrr.any
  have htr := rd_ty ok c.rd hrd
  obtain ⟨s0, r0, u0, rfl, rfl, z0, htr, hrr⟩ := inv_str htr hrr
  obtain ⟨s1, A1, n1, c1, m1, xs1, r1, u1, rfl, rfl, z1, htr, hrr⟩ := inv_list htr hrr
  obtain ⟨s2, A2, n2, c2, m2, xs2, r2, u2, rfl, rfl, z2, htr, hrr⟩ := inv_list htr hrr
  obtain ⟨s3, A3, n3, c3, m3, xs3, r3, u3, rfl, rfl, z3, htr, hrr⟩ := inv_list htr hrr
  obtain ⟨s4, r4, u4, rfl, rfl, z4, htr, hrr⟩ := inv_str htr hrr
  obtain ⟨s5, A5, n5, c5, m5, xs5, r5, u5, rfl, rfl, z5, htr, hrr⟩ := inv_list htr hrr
  obtain ⟨s6, A6, n6, c6, m6, xs6, r6, u6, rfl, rfl, z6, htr, hrr⟩ := inv_list htr hrr
  obtain ⟨s7, r7, u7, rfl, rfl, z7, htr, hrr⟩ := inv_int htr hrr
  obtain ⟨rfl, rfl⟩ := inv_nil htr hrr
  refine .inl ⟨_, _, _, _, _, _, _, _, _, _, _, _, _, _, _, _, _, _, rfl, fun w13 h13 => ?_⟩
  replace b0 := b0.ext e' (c.nF ok (by simp))
  replace c := c'
  clear e' c'
  have hlt1 : w.heap.size < w1.heap.size := b0.lt
  obtain ⟨b1, x1, z1⟩ := box_new (cs := [.string ByteArray.empty, .slice none 0 0, .slice none 0 0, .slice none 0 0, .string ByteArray.empty, .slice none 0 0, .slice none 0 0, .int .i64 0]) h13
  replace c := c.more ok (X' := [w1.heap.size, w.heap.size]) x1 (by simp; omega) (by simp)
  replace b0 := b0.ext x1 (by simp)
  obtain ⟨w14, hr14, b14, x14⟩ := storeW (P := Tryz.prog) (t := 68) (n := 8) iPod b1 (vs := [.string s0, .slice A1 n1 c1, .slice A2 n2 c2, .slice A3 n3 c3, .string s4, .slice A5 n5 c5, .slice A6 n6 c6, .int .i64 s7]) (by rfl) rfl (by simp [Value.oneCell'])
  have hne : w.heap.size ∉ [w1.heap.size] := by have := hlt1; simp; omega
  replace c := c.box ok (by simp) x14
  replace b0 := b0.ext x14 hne
  have d14 : Ext [] w14 w14.drew := (Ext.refl _ _).drew
  replace c := c.more ok (X' := [w1.heap.size, w.heap.size]) d14 (fun x hx => .inl hx) (fun x hx => hx)
  replace b0 := b0.ext d14 (by simp)
  replace b14 := b14.ext d14 (by simp)
  refine ⟨w14, hr14, fun w' => BlkT w' w1.heap.size _ 68, b14, _, _, _, _, _, _, _, _, _, _, _, _, _, _, _, _, _, _, cellsC_S (fun w' hw' => cadd0 hw'), ?_⟩
  refine c.text ok k (fun w' ch h => .inr ⟨_, rfl, h⟩) fun t8 s' w' c' e' => .inl ⟨_, rfl, b14.ext e' (c.nF ok (by simp)), ?_⟩
  replace b0 := b0.ext e' (c.nF ok (by simp))
  replace c := c'
  clear e' c'
  obtain ⟨w9, hr9, b9, x9⟩ := storeW (P := Tryz.prog) (t := 71) (n := 9) iBound b0 (vs := [.string s0, .slice A1 n1 c1, .slice A2 n2 c2, .slice A3 n3 c3, .string s4, .slice A5 n5 c5, .slice A6 n6 c6, .int .i64 s7, .string t8]) (by rfl) rfl (by simp [Value.oneCell'])
  exact ⟨w9, hr9, _, _, _, _, _, _, _, _, _, _, _, _, _, _, _, _, _, _, _, cadd0 b9, (c.box ok (by simp) x9).done_ k⟩
set_option maxRecDepth 8000 in
theorem rlBound_c : LRds C 91 92 tBound := by
  intro s w R h k
  apply image_readList_api_Bound__nf
  refine many_c ok h ?_
  cases hm : manyS s with
  | err e p =>
    simp only [readT, hm, Res.bind] at k
    exact fun w' fa e hfa hb => .inr ⟨_, rfl, k w' fa e hfa hb⟩
  | ok n s1 =>
  intro w7 h7 e7 hn
  refine .inl ⟨_, rfl, ?_⟩
  have kt := post_times hm k
  refine ⟨fun A l c t w' => t = (l : Int) ∧ LAcc C w s1 tBound 8 n 71 A l c w', fun _ l _ _ _ => n - l, ⟨rfl, LAcc.start h.n h7 e7⟩, ?_⟩
  rintro A l c _ _ w13 ⟨rfl, c13⟩
  have hln := c13.an
  refine sel_dec (fun hlt => ?_) (fun hge => ?_)
  rotate_left
  · obtain rfl : l = n := by omega
    exact c13.done_ hn hm k
  refine when_intro (by kernel_rfl) (c13.step ok (t := 23) (ty := 23) (z := .agg ⟨[.string ByteArray.empty, .slice none 0 0, .slice none 0 0, .slice none 0 0, .string ByteArray.empty, .slice none 0 0, .slice none 0 0, .int .i64 0, .string ByteArray.empty]⟩) (bytes := 176) (by kernel_rfl) (by kernel_rfl) (by kernel_rfl) (by omega) (by omega) hn (by omega) (rdBound_c ok) kt (fun w' ch h => .inr ⟨_, rfl, h⟩) fun r vs w' htr hrr hk => ?_)
  obtain ⟨s0, r0, u0, rfl, rfl, z0, htr, hrr⟩ := inv_str htr hrr
  obtain ⟨s1, A1, n1, c1, m1, xs1, r1, u1, rfl, rfl, z1, htr, hrr⟩ := inv_list htr hrr
  obtain ⟨s2, A2, n2, c2, m2, xs2, r2, u2, rfl, rfl, z2, htr, hrr⟩ := inv_list htr hrr
  obtain ⟨s3, A3, n3, c3, m3, xs3, r3, u3, rfl, rfl, z3, htr, hrr⟩ := inv_list htr hrr
  obtain ⟨s4, r4, u4, rfl, rfl, z4, htr, hrr⟩ := inv_str htr hrr
  obtain ⟨s5, A5, n5, c5, m5, xs5, r5, u5, rfl, rfl, z5, htr, hrr⟩ := inv_list htr hrr
  obtain ⟨s6, A6, n6, c6, m6, xs6, r6, u6, rfl, rfl, z6, htr, hrr⟩ := inv_list htr hrr
  obtain ⟨s7, r7, u7, rfl, rfl, z7, htr, hrr⟩ := inv_int htr hrr
  obtain ⟨s8, r8, u8, rfl, rfl, z8, htr, hrr⟩ := inv_str htr hrr
  obtain ⟨rfl, rfl⟩ := inv_nil htr hrr
  refine .inl ⟨_, _, _, _, _, _, _, _, _, _, _, _, _, _, _, _, _, _, _, rfl, fun w18 h18 => ?_⟩
  obtain ⟨A', c', w2, hr2, h2⟩ := hk rfl (by simp [Value.oneCell']) w18 h18
  rw [up64 l (by omega)]
  exact ⟨A', _, c', w2, hr2, ⟨rfl, h2⟩, by show n - (l + 1) < n - l; omega⟩
set_option maxRecDepth 8000 in
theorem rdPending_c : Rds C 94 tPending := by
  intro s w R h k
  apply image_reader_pending_nf
  intro w2 h2
  obtain ⟨b0, x0, z0⟩ := box_new (cs := [.string ByteArray.empty, .slice none 0 0, .slice none 0 0, .slice none 0 0, .string ByteArray.empty, .slice none 0 0, .slice none 0 0, .int .i64 0, .int .i64 0, .int .i64 0, .int .i64 0, .bool false]) h2
  intro w3 h3
  obtain ⟨b1, x1, z1⟩ := box_new (cs := [.string ByteArray.empty, .slice none 0 0, .slice none 0 0, .slice none 0 0, .string ByteArray.empty, .slice none 0 0, .slice none 0 0, .int .i64 0, .int .i64 0, .int .i64 0, .int .i64 0, .bool false]) h3
  have hne : w.heap.size ≠ w2.heap.size := by omega
  have c := (Acc.start h tPending).more ok (X' := [w.heap.size, w2.heap.size]) (x0.trans x1) (by simp; omega) (by simp)
  replace b0 := b0.ext x1 (by simp)
  refine c.rows ok k (fun w' ch h => .inr ⟨_, rfl, h⟩) (xs := tPod) (us := [.int, .int, .int, .bool]) (rdPod_c ok) fun r rv s1 w1 hrd hrr c' e' => ?_
  replace hrr := hrr.any
  have htr := rd_ty ok c.rd hrd
  obtain ⟨s0, r0, u0, rfl, rfl, z0, htr, hrr⟩ := inv_str htr hrr
  obtain ⟨s1, A1, n1, c1, m1, xs1, r1, u1, rfl, rfl, z1, htr, hrr⟩ := inv_list htr hrr
  obtain ⟨s2, A2, n2, c2, m2, xs2, r2, u2, rfl, rfl, z2, htr, hrr⟩ := inv_list htr hrr
  obtain ⟨s3, A3, n3, c3, m3, xs3, r3, u3, rfl, rfl, z3, htr, hrr⟩ := inv_list htr hrr
  obtain ⟨s4, r4, u4, rfl, rfl, z4, htr, hrr⟩ := inv_str htr hrr
  obtain ⟨s5, A5, n5, c5, m5, xs5, r5, u5, rfl, rfl, z5, htr, hrr⟩ := inv_list htr hrr
  obtain ⟨s6, A6, n6, c6, m6, xs6, r6, u6, rfl, rfl, z6, htr, hrr⟩ := inv_list htr hrr
  obtain ⟨s7, r7, u7, rfl, rfl, z7, htr, hrr⟩ := inv_int htr hrr
  obtain ⟨rfl, rfl⟩ := inv_nil htr hrr
  refine .inl ⟨_, _, _, _, _, _, _, _, _, _, _, _, _, _, _, _, _, _, rfl, ?_⟩
  replace b0 := b0.ext e' (c.nF ok (by simp))
  replace b1 := b1.ext e' (c.nF ok (by simp))
  replace c := c'
  clear e' c'
  obtain ⟨w4, hr4, b4, x4⟩ := storeN (P := Tryz.prog) (t := 68) (n := 8) iPod b1 (o := 0) (vs := [.string s0, .slice A1 n1 c1, .slice A2 n2 c2, .slice A3 n3 c3, .string s4, .slice A5 n5 c5, .slice A6 n6 c6, .int .i64 s7]) (by rfl) (by simp) (by simp [Value.oneCell'])
  refine ⟨w4, hr4, ?_⟩
  replace b0 := b0.ext x4 (by simpa using hne)
  replace b1 := b4
  replace c := c.box ok (by simp) x4
  clear b4 x4 hr4
  refine c.num ok k (fun w' ch h => .inr ⟨_, rfl, h⟩) fun t8 s' w' c' e' => .inl ⟨_, rfl, ?_⟩
  replace b0 := b0.ext e' (c.nF ok (by simp))
  replace b1 := b1.ext e' (c.nF ok (by simp))
  replace c := c'
  clear e' c'
  obtain ⟨w4, hr4, b4, x4⟩ := store1a (P := Tryz.prog) (t := 3) (i := 8) (v := .int .i64 t8) (by kernel_rfl) b1 (by simp) rfl rfl
  refine ⟨w4, hr4, ?_⟩
  replace b0 := b0.ext x4 (by simpa using hne)
  replace b1 := b4
  replace c := c.box ok (by simp) x4
  clear b4 x4 hr4
  refine c.num ok k (fun w' ch h => .inr ⟨_, rfl, h⟩) fun t9 s' w' c' e' => .inl ⟨_, rfl, ?_⟩
  replace b0 := b0.ext e' (c.nF ok (by simp))
  replace b1 := b1.ext e' (c.nF ok (by simp))
  replace c := c'
  clear e' c'
  obtain ⟨w4, hr4, b4, x4⟩ := store1a (P := Tryz.prog) (t := 3) (i := 9) (v := .int .i64 t9) (by kernel_rfl) b1 (by simp) rfl rfl
  refine ⟨w4, hr4, ?_⟩
  replace b0 := b0.ext x4 (by simpa using hne)
  replace b1 := b4
  replace c := c.box ok (by simp) x4
  clear b4 x4 hr4
  refine c.num ok k (fun w' ch h => .inr ⟨_, rfl, h⟩) fun t10 s' w' c' e' => .inl ⟨_, rfl, ?_⟩
  replace b0 := b0.ext e' (c.nF ok (by simp))
  replace b1 := b1.ext e' (c.nF ok (by simp))
  replace c := c'
  clear e' c'
  obtain ⟨w4, hr4, b4, x4⟩ := store1a (P := Tryz.prog) (t := 3) (i := 10) (v := .int .i64 t10) (by kernel_rfl) b1 (by simp) rfl rfl
  refine ⟨w4, hr4, ?_⟩
  replace b0 := b0.ext x4 (by simpa using hne)
  replace b1 := b4
  replace c := c.box ok (by simp) x4
  clear b4 x4 hr4
  refine c.truth ok k (fun w' ch h => .inr ⟨_, rfl, h⟩) fun t11 s' w' c' e' => .inl ⟨_, rfl, ?_⟩
  replace b0 := b0.ext e' (c.nF ok (by simp))
  replace b1 := b1.ext e' (c.nF ok (by simp))
  replace c := c'
  clear e' c'
  obtain ⟨w4, hr4, b4, x4⟩ := store1a (P := Tryz.prog) (t := 4) (i := 11) (v := .bool t11) (by kernel_rfl) b1 (by simp) rfl rfl
  refine ⟨w4, hr4, ?_⟩
  replace b0 := b0.ext x4 (by simpa using hne)
  replace b1 := b4
  replace c := c.box ok (by simp) x4
  clear b4 x4 hr4
  obtain ⟨w9, hr9, b9, x9⟩ := storeW (P := Tryz.prog) (t := 73) (n := 12) iPending b0 (vs := [.string s0, .slice A1 n1 c1, .slice A2 n2 c2, .slice A3 n3 c3, .string s4, .slice A5 n5 c5, .slice A6 n6 c6, .int .i64 s7, .int .i64 t8, .int .i64 t9, .int .i64 t10, .bool t11]) (by rfl) rfl (by simp [Value.oneCell'])
  exact ⟨_, _, _, _, _, _, _, _, _, _, _, _, _, _, _, _, _, _, _, _, _, _, cadd0 b1, w9, hr9, _, _, _, _, _, _, _, _, _, _, _, _, _, _, _, _, _, _, _, _, _, _, cadd0 b9, (c.box ok (by simp) x9).done_ k⟩
set_option maxRecDepth 8000 in
theorem rlPending_c : LRds C 93 94 tPending := by
  intro s w R h k
  apply image_readList_api_Pending__nf
  refine many_c ok h ?_
  cases hm : manyS s with
  | err e p =>
    simp only [readT, hm, Res.bind] at k
    exact fun w' fa e hfa hb => .inr ⟨_, rfl, k w' fa e hfa hb⟩
  | ok n s1 =>
  intro w7 h7 e7 hn
  refine .inl ⟨_, rfl, ?_⟩
  have kt := post_times hm k
  refine ⟨fun A l c t w' => t = (l : Int) ∧ LAcc C w s1 tPending 11 n 73 A l c w', fun _ l _ _ _ => n - l, ⟨rfl, LAcc.start h.n h7 e7⟩, ?_⟩
  rintro A l c _ _ w13 ⟨rfl, c13⟩
  have hln := c13.an
  refine sel_dec (fun hlt => ?_) (fun hge => ?_)
  rotate_left
  · obtain rfl : l = n := by omega
    exact c13.done_ hn hm k
  refine when_intro (by kernel_rfl) (c13.step ok (t := 24) (ty := 24) (z := .agg ⟨[.string ByteArray.empty, .slice none 0 0, .slice none 0 0, .slice none 0 0, .string ByteArray.empty, .slice none 0 0, .slice none 0 0, .int .i64 0, .int .i64 0, .int .i64 0, .int .i64 0, .bool false]⟩) (bytes := 192) (by kernel_rfl) (by kernel_rfl) (by kernel_rfl) (by omega) (by omega) hn (by omega) (rdPending_c ok) kt (fun w' ch h => .inr ⟨_, rfl, h⟩) fun r vs w' htr hrr hk => ?_)
  obtain ⟨s0, r0, u0, rfl, rfl, z0, htr, hrr⟩ := inv_str htr hrr
  obtain ⟨s1, A1, n1, c1, m1, xs1, r1, u1, rfl, rfl, z1, htr, hrr⟩ := inv_list htr hrr
  obtain ⟨s2, A2, n2, c2, m2, xs2, r2, u2, rfl, rfl, z2, htr, hrr⟩ := inv_list htr hrr
  obtain ⟨s3, A3, n3, c3, m3, xs3, r3, u3, rfl, rfl, z3, htr, hrr⟩ := inv_list htr hrr
  obtain ⟨s4, r4, u4, rfl, rfl, z4, htr, hrr⟩ := inv_str htr hrr
  obtain ⟨s5, A5, n5, c5, m5, xs5, r5, u5, rfl, rfl, z5, htr, hrr⟩ := inv_list htr hrr
  obtain ⟨s6, A6, n6, c6, m6, xs6, r6, u6, rfl, rfl, z6, htr, hrr⟩ := inv_list htr hrr
  obtain ⟨s7, r7, u7, rfl, rfl, z7, htr, hrr⟩ := inv_int htr hrr
  obtain ⟨s8, r8, u8, rfl, rfl, z8, htr, hrr⟩ := inv_int htr hrr
  obtain ⟨s9, r9, u9, rfl, rfl, z9, htr, hrr⟩ := inv_int htr hrr
  obtain ⟨s10, r10, u10, rfl, rfl, z10, htr, hrr⟩ := inv_int htr hrr
  obtain ⟨s11, r11, u11, rfl, rfl, htr, hrr⟩ := inv_bool htr hrr
  obtain ⟨rfl, rfl⟩ := inv_nil htr hrr
  refine .inl ⟨_, _, _, _, _, _, _, _, _, _, _, _, _, _, _, _, _, _, _, _, _, _, rfl, fun w18 h18 => ?_⟩
  obtain ⟨A', c', w2, hr2, h2⟩ := hk rfl (by simp [Value.oneCell']) w18 h18
  rw [up64 l (by omega)]
  exact ⟨A', _, c', w2, hr2, ⟨rfl, h2⟩, by show n - (l + 1) < n - l; omega⟩
set_option maxRecDepth 8000 in
theorem rdState_c : Rds C 61 tState := by
  intro s w R h k
  apply image_reader_state_nf
  intro w2 h2
  obtain ⟨b0, x0, z0⟩ := box_new (cs := [.int .i64 0, .int .i64 0, .slice none 0 0, .slice none 0 0, .slice none 0 0]) h2
  intro w3 h3
  obtain ⟨b1, x1, z1⟩ := box_new (cs := [.int .i64 0, .int .i64 0, .slice none 0 0, .slice none 0 0, .slice none 0 0]) h3
  have hne : w.heap.size ≠ w2.heap.size := by omega
  have c := (Acc.start h tState).more ok (X' := [w.heap.size, w2.heap.size]) (x0.trans x1) (by simp; omega) (by simp)
  replace b0 := b0.ext x1 (by simp)
  refine c.num ok k (fun w' ch h => .inr ⟨_, rfl, h⟩) fun t0 s' w' c' e' => .inl ⟨_, rfl, ?_⟩
  replace b0 := b0.ext e' (c.nF ok (by simp))
  replace b1 := b1.ext e' (c.nF ok (by simp))
  replace c := c'
  clear e' c'
  obtain ⟨w4, hr4, b4, x4⟩ := store1a (P := Tryz.prog) (t := 3) (i := 0) (v := .int .i64 t0) (by kernel_rfl) b1 (by simp) rfl rfl
  refine ⟨w4, hr4, ?_⟩
  replace b0 := b0.ext x4 (by simpa using hne)
  replace b1 := b4
  replace c := c.box ok (by simp) x4
  clear b4 x4 hr4
  refine c.num ok k (fun w' ch h => .inr ⟨_, rfl, h⟩) fun t1 s' w' c' e' => .inl ⟨_, rfl, ?_⟩
  replace b0 := b0.ext e' (c.nF ok (by simp))
  replace b1 := b1.ext e' (c.nF ok (by simp))
  replace c := c'
  clear e' c'
  obtain ⟨w4, hr4, b4, x4⟩ := store1a (P := Tryz.prog) (t := 3) (i := 1) (v := .int .i64 t1) (by kernel_rfl) b1 (by simp) rfl rfl
  refine ⟨w4, hr4, ?_⟩
  replace b0 := b0.ext x4 (by simpa using hne)
  replace b1 := b4
  replace c := c.box ok (by simp) x4
  clear b4 x4 hr4
  refine c.list ok k (fun w' ch h => .inr ⟨_, rfl, h⟩) (rlNode_c ok) fun d2 A2 n2 k2 s' w' c' e' => .inl ⟨_, _, _, rfl, ?_⟩
  replace b0 := b0.ext e' (c.nF ok (by simp))
  replace b1 := b1.ext e' (c.nF ok (by simp))
  replace c := c'
  clear e' c'
  obtain ⟨w4, hr4, b4, x4⟩ := store1a (P := Tryz.prog) (t := 22) (i := 2) (v := .slice A2 n2 k2) (by kernel_rfl) b1 (by simp) rfl rfl
  refine ⟨w4, hr4, ?_⟩
  replace b0 := b0.ext x4 (by simpa using hne)
  replace b1 := b4
  replace c := c.box ok (by simp) x4
  clear b4 x4 hr4
  refine c.list ok k (fun w' ch h => .inr ⟨_, rfl, h⟩) (rlBound_c ok) fun d3 A3 n3 k3 s' w' c' e' => .inl ⟨_, _, _, rfl, ?_⟩
  replace b0 := b0.ext e' (c.nF ok (by simp))
  replace b1 := b1.ext e' (c.nF ok (by simp))
  replace c := c'
  clear e' c'
  obtain ⟨w4, hr4, b4, x4⟩ := store1a (P := Tryz.prog) (t := 23) (i := 3) (v := .slice A3 n3 k3) (by kernel_rfl) b1 (by simp) rfl rfl
  refine ⟨w4, hr4, ?_⟩
  replace b0 := b0.ext x4 (by simpa using hne)
  replace b1 := b4
  replace c := c.box ok (by simp) x4
  clear b4 x4 hr4
  refine c.list ok k (fun w' ch h => .inr ⟨_, rfl, h⟩) (rlPending_c ok) fun d4 A4 n4 k4 s' w' c' e' => .inl ⟨_, _, _, rfl, ?_⟩
  replace b0 := b0.ext e' (c.nF ok (by simp))
  replace b1 := b1.ext e' (c.nF ok (by simp))
  replace c := c'
  clear e' c'
  obtain ⟨w4, hr4, b4, x4⟩ := store1a (P := Tryz.prog) (t := 24) (i := 4) (v := .slice A4 n4 k4) (by kernel_rfl) b1 (by simp) rfl rfl
  refine ⟨w4, hr4, ?_⟩
  replace b0 := b0.ext x4 (by simpa using hne)
  replace b1 := b4
  replace c := c.box ok (by simp) x4
  clear b4 x4 hr4
  obtain ⟨w9, hr9, b9, x9⟩ := storeW (P := Tryz.prog) (t := 26) (n := 5) iState b0 (vs := [.int .i64 t0, .int .i64 t1, .slice A2 n2 k2, .slice A3 n3 k3, .slice A4 n4 k4]) (by rfl) rfl (by simp [Value.oneCell'])
  exact ⟨_, _, _, _, _, _, _, _, _, _, _, cadd0 b1, w9, hr9, _, _, _, _, _, _, _, _, _, _, _, cadd0 b9, (c.box ok (by simp) x9).done_ k⟩
end Go.Proofs.YtoaeefjcjdhlkaaGreat
