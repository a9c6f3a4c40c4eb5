/- Image: how a state lies in memory. -/
import Derived.Test.YtoaeefjcjdhlkaaGreatI3
import Derived.Test.YtoaeefjcjdhlkaaGreatG1
import Derived.Test.YtoaeefjcjdhlkaaGreatNA
import Derived.Test.YtoaeefjcjdhlkaaGreatOg
set_option linter.unusedVariables false
set_option linter.unusedSimpArgs false
namespace Go.B
open Go.V

/-- A row of one-cell values. -/
structure Row (k : Nat) where
  vs : List Value
  len : vs.length = k
  one : ∀ v ∈ vs, v.oneCell' = true
def RL (m : Nat) : Lay (Row (m + 1)) := ⟨Row.vs, m + 1, fun x => x.len, fun x => x.one, by omega⟩
mutual
/-- The value v is the thing d; its lists lie in blocks of which P holds. -/
def RepP (P : Nat → Prop) (w : World) : D → Value → Prop
  | .int n, v => v = .int .i64 n
  | .str s, v => v = .string s ∧ s.size ≤ 16777216
  | .bool b, v => v = .bool b
  | .list l, v => ∃ (A : Option Addr) (n c m : Nat) (xs : List (Row (m + 1))), v = .slice A n c ∧ Cells w A ((RL m).flat xs) ∧ xs.length = n ∧ n ≤ 16777216 ∧ (∀ b ∈ ownF A, P b) ∧ RepPL P w l (xs.map Row.vs)
def RepPR (P : Nat → Prop) (w : World) : List D → List Value → Prop
  | [], vs => vs = []
  | d :: r, vs => ∃ v vs', vs = v :: vs' ∧ RepP P w d v ∧ RepPR P w r vs'
def RepPL (P : Nat → Prop) (w : World) : List (List D) → List (List Value) → Prop
  | [], vss => vss = []
  | r :: l, vss => ∃ vs vss', vss = vs :: vss' ∧ RepPR P w r vs ∧ RepPL P w l vss'
end
mutual
theorem RepP.ext {P Q : Nat → Prop} {F : List Nat} {w w' : World} (e : Ext F w w') (hF : ∀ b, P b → b ∉ F) (hPQ : ∀ b, P b → Q b) : ∀ {d : D} {v : Value}, RepP P w d v → RepP Q w' d v
  | .int n, v, h => h
  | .str s, v, h => h
  | .bool b, v, h => h
  | .list l, v, h => by
    simp only [RepP] at h ⊢
    obtain ⟨A, n, c, m, xs, h1, h2, h3, h4, h5, h6⟩ := h
    exact ⟨A, n, c, m, xs, h1, h2.ext e (fun b hb => hF b (h5 b hb)), h3, h4, fun b hb => hPQ b (h5 b hb), RepPL.ext e hF hPQ h6⟩
theorem RepPR.ext {P Q : Nat → Prop} {F : List Nat} {w w' : World} (e : Ext F w w') (hF : ∀ b, P b → b ∉ F) (hPQ : ∀ b, P b → Q b) : ∀ {r : List D} {vs : List Value}, RepPR P w r vs → RepPR Q w' r vs
  | [], vs, h => h
  | d :: r, vs, h => by
    simp only [RepPR] at h ⊢
    obtain ⟨v, vs', h1, h2, h3⟩ := h
    exact ⟨v, vs', h1, RepP.ext e hF hPQ h2, RepPR.ext e hF hPQ h3⟩
theorem RepPL.ext {P Q : Nat → Prop} {F : List Nat} {w w' : World} (e : Ext F w w') (hF : ∀ b, P b → b ∉ F) (hPQ : ∀ b, P b → Q b) : ∀ {l : List (List D)} {vss : List (List Value)}, RepPL P w l vss → RepPL Q w' l vss
  | [], vss, h => h
  | r :: l, vss, h => by
    simp only [RepPL] at h ⊢
    obtain ⟨vs, vss', h1, h2, h3⟩ := h
    exact ⟨vs, vss', h1, RepPR.ext e hF hPQ h2, RepPL.ext e hF hPQ h3⟩
end
/-- Of all blocks. -/
abbrev Any : Nat → Prop := fun _ => True
abbrev Rep (w : World) := RepP Any w
abbrev RepR (w : World) := RepPR Any w
abbrev RepL (w : World) := RepPL Any w
theorem Rep.ext0 {w w' : World} (e : Ext [] w w') {d : D} {v : Value} (h : Rep w d v) : Rep w' d v := RepP.ext e (by simp) (fun _ h => h) h
theorem RepR.ext0 {w w' : World} (e : Ext [] w w') {r : List D} {vs : List Value} (h : RepR w r vs) : RepR w' r vs := RepPR.ext e (by simp) (fun _ h => h) h
theorem RepL.ext0 {w w' : World} (e : Ext [] w w') {l : List (List D)} {vss : List (List Value)} (h : RepL w l vss) : RepL w' l vss := RepPL.ext e (by simp) (fun _ h => h) h
theorem RepPR.any {P : Nat → Prop} {w : World} {r : List D} {vs : List Value} (h : RepPR P w r vs) : RepR w r vs := RepPR.ext (Ext.refl [] w) (by simp) (fun _ _ => trivial) h
theorem RepPR.mono {P Q : Nat → Prop} {w : World} {r : List D} {vs : List Value} (hPQ : ∀ b, P b → Q b) (h : RepPR P w r vs) : RepPR Q w r vs := RepPR.ext (Ext.refl [] w) (by simp) hPQ h
theorem RepL.len {w : World} : ∀ {l : List (List D)} {vss : List (List Value)}, RepL w l vss → vss.length = l.length
  | [], vss, h => by simp only [RepPL] at h; subst h; rfl
  | r :: l, vss, h => by
    simp only [RepPL] at h
    obtain ⟨vs, vss', rfl, _, h3⟩ := h
    simp [RepL.len h3]
theorem repL_at {w : World} : ∀ {l : List (List D)} {vss : List (List Value)} {a : Nat} {vs : List Value}, RepL w l vss → vss[a]? = some vs → ∃ r, l[a]? = some r ∧ RepR w r vs
  | [], vss, a, vs, h, ha => by simp only [RepPL] at h; subst h; simp at ha
  | r :: l, vss, a, vs, h, ha => by
    simp only [RepPL] at h
    obtain ⟨vs0, vss', rfl, h2, h3⟩ := h
    cases a with
    | zero => simp at ha; subst ha; exact ⟨r, rfl, h2⟩
    | succ a =>
      have ih := repL_at (a := a) h3 (by simpa using ha)
      simpa using ih
theorem tyL_at {ts : List Ty} : ∀ {l : List (List D)} {a : Nat} {r : List D}, tyL ts l → l[a]? = some r → tyR ts r
  | [], a, r, h, ha => by simp at ha
  | x :: l, a, r, h, ha => by
    simp only [tyL] at h
    cases a with
    | zero => simp at ha; subst ha; exact h.1
    | succ a => exact tyL_at h.2 (by simpa using ha)

/-! ### taking rows apart -/
theorem inv_nil {w : World} {r : List D} {vs : List Value} (ht : tyR [] r) (h : RepR w r vs) : r = [] ∧ vs = [] := by
  cases r with
  | nil => exact ⟨rfl, h⟩
  | cons d r => exact ht.elim
theorem inv_int {w : World} {ts : List Ty} {r : List D} {vs : List Value} (ht : tyR (.int :: ts) r) (h : RepR w r vs) :
    ∃ n r' vs', r = .int n :: r' ∧ vs = .int .i64 n :: vs' ∧ (-9223372036854775808 ≤ n ∧ n < 9223372036854775808) ∧ tyR ts r' ∧ RepR w r' vs' := by
  cases r with
  | nil => exact ht.elim
  | cons d r =>
    simp only [tyR] at ht
    simp only [RepPR] at h
    obtain ⟨v, vs', rfl, h2, h3⟩ := h
    cases d <;> simp only [tyD, false_and, and_false] at ht <;> try exact ht.elim
    rename_i n
    simp only [RepP] at h2
    subst h2
    exact ⟨n, r, vs', rfl, rfl, ht.1, ht.2, h3⟩
theorem inv_str {w : World} {ts : List Ty} {r : List D} {vs : List Value} (ht : tyR (.str :: ts) r) (h : RepR w r vs) :
    ∃ s r' vs', r = .str s :: r' ∧ vs = .string s :: vs' ∧ s.size ≤ 16777216 ∧ tyR ts r' ∧ RepR w r' vs' := by
  cases r with
  | nil => exact ht.elim
  | cons d r =>
    simp only [tyR] at ht
    simp only [RepPR] at h
    obtain ⟨v, vs', rfl, h2, h3⟩ := h
    cases d <;> simp only [tyD, false_and, and_false] at ht <;> try exact ht.elim
    rename_i n
    simp only [RepP] at h2
    obtain ⟨rfl, h2⟩ := h2
    exact ⟨n, r, vs', rfl, rfl, h2, ht.2, h3⟩
theorem inv_bool {w : World} {ts : List Ty} {r : List D} {vs : List Value} (ht : tyR (.bool :: ts) r) (h : RepR w r vs) :
    ∃ b r' vs', r = .bool b :: r' ∧ vs = .bool b :: vs' ∧ tyR ts r' ∧ RepR w r' vs' := by
  cases r with
  | nil => exact ht.elim
  | cons d r =>
    simp only [tyR] at ht
    simp only [RepPR] at h
    obtain ⟨v, vs', rfl, h2, h3⟩ := h
    cases d <;> simp only [tyD, false_and, and_false] at ht <;> try exact ht.elim
    rename_i n
    simp only [RepP] at h2
    subst h2
    exact ⟨n, r, vs', rfl, rfl, ht.2, h3⟩
/-- A list in memory. -/
structure LRep (w : World) (ts : List Ty) (l : List (List D)) (A : Option Addr) (n : Nat) (m : Nat) (xs : List (Row (m + 1))) : Prop where
  ty : tyL ts l
  c : Cells w A ((RL m).flat xs)
  len : xs.length = n
  le : n ≤ 16777216
  rep : RepL w l (xs.map Row.vs)
theorem LRep.ext0 {w w' : World} {ts : List Ty} {l : List (List D)} {A : Option Addr} {n m : Nat} {xs : List (Row (m + 1))} (h : LRep w ts l A n m xs) (e : Ext [] w w') : LRep w' ts l A n m xs := ⟨h.ty, h.c.ext0 e, h.len, h.le, RepL.ext0 e h.rep⟩
theorem LRep.ll {w : World} {ts : List Ty} {l : List (List D)} {A : Option Addr} {n m : Nat} {xs : List (Row (m + 1))} (h : LRep w ts l A n m xs) : l.length = n := by
  have := h.rep.len
  rw [List.length_map, h.len] at this
  exact this.symm
theorem inv_list {w : World} {ts ts' : List Ty} {r : List D} {vs : List Value} (ht : tyR (.list ts' :: ts) r) (h : RepR w r vs) :
    ∃ l A n c m xs r' vs', r = .list l :: r' ∧ vs = .slice A n c :: vs' ∧ LRep w ts' l A n m xs ∧ tyR ts r' ∧ RepR w r' vs' := by
  cases r with
  | nil => exact ht.elim
  | cons d r =>
    simp only [tyR] at ht
    simp only [RepPR] at h
    obtain ⟨v, vs', rfl, h2, h3⟩ := h
    cases d <;> simp only [tyD, false_and, and_false] at ht <;> try exact ht.elim
    rename_i l
    simp only [RepP] at h2
    obtain ⟨A, n, c, m, xs, rfl, h4, h5, h6, -, h7⟩ := h2
    exact ⟨l, A, n, c, m, xs, r, vs', rfl, rfl, ⟨ht.1.2, h4, h5, h6, h7⟩, ht.2, h3⟩
theorem RepR.len {w : World} : ∀ {r : List D} {vs : List Value}, RepR w r vs → vs.length = r.length
  | [], vs, h => by simp only [RepPR] at h; subst h; rfl
  | d :: r, vs, h => by
    simp only [RepPR] at h
    obtain ⟨v, vs', rfl, _, h3⟩ := h
    simp [RepR.len h3]
theorem tyR_len : ∀ {ts : List Ty} {r : List D}, tyR ts r → r.length = ts.length
  | [], [], h => rfl
  | [], d :: r, h => h.elim
  | t :: ts, [], h => h.elim
  | t :: ts, d :: r, h => by simp only [tyR] at h; simp [tyR_len h.2]
/-- One row of a list. -/
theorem LRep.row {w : World} {ts : List Ty} {l : List (List D)} {A : Option Addr} {n m : Nat} {xs : List (Row (m + 1))} (h : LRep w ts l A n m xs) {a : Nat} (ha : a < n) :
    ∃ r vs ad, l[a]? = some r ∧ tyR ts r ∧ RepR w r vs ∧ A = some ad ∧ ts.length = m + 1 ∧ cellsC (fun a v => w.cell? a = some v) (ad.add (Int.toNat (a : Int) * (m + 1))) vs ∧ ∀ v ∈ vs, v.oneCell' = true := by
  obtain ⟨x, ad, hx, rfl, rd⟩ := Cells.row (L := RL m) h.c h.len ha
  obtain ⟨r, hr, hrep⟩ := repL_at h.rep (a := a) (vs := x.vs) (by rw [List.getElem?_map, hx]; rfl)
  have ht := tyL_at h.ty hr
  refine ⟨r, x.vs, ad, hr, ht, hrep, rfl, ?_, rd, x.one⟩
  rw [← tyR_len ht, ← hrep.len, x.len]

/-! ### the types of a state -/
def tLabel : List Ty := [.str, .str]
def tItem : List Ty := [.str, .int]
def tTaint : List Ty := [.str, .str, .str]
def tTol : List Ty := [.str, .str, .str, .str]
def tApart : List Ty := [.str, .str]
def tPrefer : List Ty := [.int, .str]
def tNode : List Ty := [.str, .list tLabel, .list tTaint, .list tItem, .bool]
def tPod : List Ty := [.str, .list tLabel, .list tItem, .list tTol, .str, .list tApart, .list tPrefer, .int]
def tBound : List Ty := tPod ++ [.str]
def tPending : List Ty := tPod ++ [.int, .int, .int, .bool]
def tState : List Ty := [.int, .int, .list tNode, .list tBound, .list tPending]
theorem good_state : goodTs tState := by simp [tState, tNode, tBound, tPending, tPod, tLabel, tItem, tTaint, tTol, tApart, tPrefer, goodTs, goodT]
/-- A state that lies in memory. -/
def StAt (w : World) (r : List D) (vs : List Value) : Prop := tyR tState r ∧ RepR w r vs
end Go.B
