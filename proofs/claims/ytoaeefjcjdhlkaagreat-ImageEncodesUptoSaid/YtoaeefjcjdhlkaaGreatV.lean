/- A verification-condition evaluator over the machine's code, and its soundness. -/
import Derived.WalkKit
import Derived.OrdersHeld
import Derived.Deep.Draws
import Derived.Scope
import Derived.KernelRfl
import Derived.WalkSpells
import Derived.Laws.StructEq
set_option linter.unusedVariables false
set_option linter.unusedSimpArgs false
namespace Go.V

/-! ### frames as lists -/
def nth : List Value → Nat → Value
  | [], _ => undef
  | v :: _, 0 => v
  | _ :: vs, n + 1 => nth vs n
def put : List Value → Nat → Value → List Value
  | [], _, _ => []
  | _ :: vs, 0, x => x :: vs
  | v :: vs, n + 1, x => v :: put vs n x
def putO (fr : List Value) : Option Tmp → Value → List Value
  | some d, v => put fr d v
  | none, _ => fr
def ev (fr : List Value) : Operand → Value
  | .tmp t => nth fr t
  | .const v => v
  | .global g => .pointer (some ⟨g, 0, none⟩)
  | .func f => .func (.func f) #[] #[]
def force : List Value → (List Value → Prop) → Prop
  | [], K => K []
  | v :: vs, K => force vs fun vs' => K (v :: vs')
abbrev act (fr : List Value) : Act := ⟨⟨fr⟩, []⟩

theorem nth_eq : ∀ (l : List Value) (n : Nat), nth l n = l.getD n undef
  | [], n => by simp [nth]
  | v :: vs, 0 => by simp [nth]
  | v :: vs, n + 1 => by simp [nth, nth_eq vs n]
theorem put_eq : ∀ (l : List Value) (n : Nat) (x : Value), put l n x = l.set n x
  | [], n, x => by simp [put]
  | v :: vs, 0, x => by simp [put]
  | v :: vs, n + 1, x => by simp [put, put_eq vs n x]
theorem force_eq : ∀ (l : List Value) (K : List Value → Prop), force l K = K l
  | [], K => rfl
  | v :: vs, K => by simp [force, force_eq vs]
theorem act_eval (fr : List Value) : (act fr).eval = ev fr := by
  funext x
  cases x <;> simp [Act.eval, ev, nth_eq]
theorem act_put (fr : List Value) (d : Option Tmp) (v : Value) : (act fr).put d v = act (putO fr d v) := by
  cases d <;> simp [Act.put, putO, put_eq]

/-! ### small logical words -/
def when : Bool → Prop → Prop
  | true, p => p
  | false, _ => False
def sel : Bool → Prop → Prop → Prop
  | true, p, _ => p
  | false, _, q => q
def ptr : Option Addr → (Addr → Prop) → Prop
  | some a, K => K a
  | none, _ => False
/-- A number under a name. -/
def lt (x : Int) (K : Int → Prop) : Prop := K x
theorem lt_eq {x y : Int} {K : Int → Prop} (h : x = y) (k : K y) : lt x K := by subst h; exact k
theorem when_intro {b : Bool} {p : Prop} (h : b = true) (k : p) : when b p := by subst h; exact k
theorem when_dec {c : Prop} [Decidable c] {p : Prop} (h : c) (k : p) : when (decide c) p := when_intro (decide_eq_true h) k
theorem sel_intro {b : Bool} {p q : Prop} (h : b = true → p) (k : b = false → q) : sel b p q := by
  cases b
  · exact k rfl
  · exact h rfl
theorem sel_dec {c : Prop} [Decidable c] {p q : Prop} (h : c → p) (k : ¬c → q) : sel (decide c) p q :=
  sel_intro (fun e => h (of_decide_eq_true e)) (fun e => k (of_decide_eq_false e))
theorem sel_true {b : Bool} {p q : Prop} (e : b = true) (h : p) : sel b p q := by subst e; exact h
theorem sel_false {b : Bool} {p q : Prop} (e : b = false) (h : q) : sel b p q := by subst e; exact h
theorem when_cases {b : Bool} {p : Prop} (h : when b p) : b = true ∧ p := by
  cases b
  · exact h.elim
  · exact ⟨rfl, h⟩
theorem sel_cases {b : Bool} {p q : Prop} (h : sel b p q) : (b = true ∧ p) ∨ (b = false ∧ q) := by
  cases b
  · exact .inr ⟨rfl, h⟩
  · exact .inl ⟨rfl, h⟩
theorem ptr_cases {p : Option Addr} {K : Addr → Prop} (h : ptr p K) : ∃ a, p = some a ∧ K a := by
  cases p
  · exact h.elim
  · exact ⟨_, rfl, h⟩

/-! ### kinds and shapes -/
inductive Kind where
  | bool | int (k : IntKind) | str | ptr | slice | map | fn | any
inductive Sh where
  | one (k : Kind)
  | agg (ks : List Kind)
inductive RSh where
  | val (s : Sh)
  | tup (ss : List Sh)
def kindOf : Value → Kind
  | .bool _ => .bool
  | .int k _ => .int k
  | .string _ => .str
  | .pointer _ => .ptr
  | .slice .. => .slice
  | .map _ => .map
  | .nilFunc => .fn
  | _ => .any
def exK : Kind → (Value → Prop) → Prop
  | .bool, K => ∃ b, K (.bool b)
  | .int k, K => ∃ n, K (.int k n)
  | .str, K => ∃ s, K (.string s)
  | .ptr, K => ∃ p, K (.pointer p)
  | .slice, K => ∃ A n c, K (.slice A n c)
  | .map, K => ∃ r, K (.map r)
  | .fn, K => ∃ (n : FuncId) (a c : Array Value), K (.func (.func n) a c)
  | .any, K => ∃ v, K v
def exKs : List Kind → (List Value → Prop) → Prop
  | [], K => K []
  | k :: ks, K => exK k fun v => exKs ks fun vs => K (v :: vs)
def exSh : Sh → (Value → Prop) → Prop
  | .one k, K => exK k K
  | .agg ks, K => exKs ks fun vs => K (.agg ⟨vs⟩)
def exShs : List Sh → (List Value → Prop) → Prop
  | [], K => K []
  | s :: ss, K => exSh s fun v => exShs ss fun vs => K (v :: vs)
def exR : RSh → (Value → Prop) → Prop
  | .val s, K => exSh s K
  | .tup ss, K => exShs ss fun vs => K (.tuple ⟨vs⟩)
def shOf (P : Program) (t : TypeId) : Sh :=
  match P.info? t with
  | some i => match i.zero with
    | some (.agg cs) => .agg (cs.toList.map kindOf)
    | some .nilFunc => .one .fn
    | some v => .one (kindOf v)
    | none => .one .any
  | none => .one .any
def rshOf (P : Program) (t : TypeId) : RSh :=
  match P.underlying t with
  | some (.tuple ts) => .tup (ts.toList.map (shOf P))
  | _ => .val (shOf P t)

theorem exK_out : ∀ {k : Kind} {K : Value → Prop}, exK k K → ∃ v, K v
  | .bool, _, ⟨b, h⟩ => ⟨_, h⟩
  | .int k, _, ⟨b, h⟩ => ⟨_, h⟩
  | .str, _, ⟨b, h⟩ => ⟨_, h⟩
  | .ptr, _, ⟨b, h⟩ => ⟨_, h⟩
  | .slice, _, ⟨_, _, _, h⟩ => ⟨_, h⟩
  | .map, _, ⟨b, h⟩ => ⟨_, h⟩
  | .fn, _, ⟨_, _, _, h⟩ => ⟨_, h⟩
  | .any, _, ⟨b, h⟩ => ⟨_, h⟩
theorem exKs_out : ∀ {ks : List Kind} {K : List Value → Prop}, exKs ks K → ∃ vs, vs.length = ks.length ∧ K vs
  | [], _, h => ⟨[], rfl, h⟩
  | k :: ks, _, h => by
    obtain ⟨v, h⟩ := exK_out h
    obtain ⟨vs, hl, h⟩ := exKs_out h
    exact ⟨v :: vs, by simp [hl], h⟩
theorem exSh_out : ∀ {s : Sh} {K : Value → Prop}, exSh s K → ∃ v, K v
  | .one k, _, h => exK_out h
  | .agg ks, _, h => let ⟨vs, _, h⟩ := exKs_out h; ⟨_, h⟩
theorem exShs_out : ∀ {s : List Sh} {K : List Value → Prop}, exShs s K → ∃ v, K v
  | [], _, h => ⟨_, h⟩
  | s :: ss, _, h => let ⟨v, h⟩ := exSh_out h; let ⟨vs, h⟩ := exShs_out h; ⟨_, h⟩
theorem exR_out : ∀ {s : RSh} {K : Value → Prop}, exR s K → ∃ v, K v
  | .val s, _, h => exSh_out h
  | .tup ss, _, h => let ⟨vs, h⟩ := exShs_out h; ⟨_, h⟩
theorem exK_mono {k : Kind} {K K' : Value → Prop} (hk : ∀ v, K v → K' v) (h : exK k K) : exK k K' := by
  cases k <;> simp only [exK] at h ⊢
  case slice => obtain ⟨a, b, c, h⟩ := h; exact ⟨a, b, c, hk _ h⟩
  case fn => obtain ⟨a, b, c, h⟩ := h; exact ⟨a, b, c, hk _ h⟩
  all_goals (obtain ⟨a, h⟩ := h; exact ⟨a, hk _ h⟩)
theorem exKs_mono : ∀ {ks : List Kind} {K K' : List Value → Prop}, (∀ v, K v → K' v) → exKs ks K → exKs ks K'
  | [], _, _, hk, h => hk _ h
  | k :: ks, _, _, hk, h => exK_mono (fun v h => exKs_mono (fun vs => hk (v :: vs)) h) h
theorem exSh_mono : ∀ {s : Sh} {K K' : Value → Prop}, (∀ v, K v → K' v) → exSh s K → exSh s K'
  | .one k, _, _, hk, h => exK_mono hk h
  | .agg ks, _, _, hk, h => exKs_mono (fun _ => hk _) h
theorem exShs_mono : ∀ {ks : List Sh} {K K' : List Value → Prop}, (∀ v, K v → K' v) → exShs ks K → exShs ks K'
  | [], _, _, hk, h => hk _ h
  | k :: ks, _, _, hk, h => exSh_mono (fun v h => exShs_mono (fun vs => hk (v :: vs)) h) h
theorem exR_mono : ∀ {s : RSh} {K K' : Value → Prop}, (∀ v, K v → K' v) → exR s K → exR s K'
  | .val k, _, _, hk, h => exSh_mono hk h
  | .tup ks, _, _, hk, h => exShs_mono (fun _ => hk _) h

/-! ### runs of the model's actions -/
def oneC : Value → Bool
  | .agg _ => false
  | .tuple _ => false
  | _ => true
/-- An action that neither reads nor writes the world. -/
def pureS {α : Type} (P : Program) : Sem α → (α → Prop) → Prop
  | .pure a, K => K a
  | .program k, K => pureS P (k P) K
  | _, _ => False
theorem pureS_run {α : Type} {P : Program} {s : Sem α} {K : α → Prop} (h : pureS P s K) : ∃ a, K a ∧ ∀ w, s.run P w = .ok a w := by
  induction s with
  | pure a => exact ⟨a, h, fun w => rfl⟩
  | program k ih => obtain ⟨a, ha, hr⟩ := ih P h; exact ⟨a, ha, fun w => by simp only [Sem.run]; exact hr w⟩
  | _ => exact h.elim
theorem pureS_mono {α : Type} {P : Program} {s : Sem α} {K K' : α → Prop} (hk : ∀ a, K a → K' a) (h : pureS P s K) : pureS P s K' := by
  induction s with
  | pure a => exact hk _ h
  | program k ih => exact ih P h
  | _ => exact h.elim

/-- An action that reads, writes or makes memory. -/
def semV {α : Type} (P : Program) : Sem α → World → (α → World → Prop) → Prop
  | .pure a, w, K => K a w
  | .program k, w, K => semV P (k P) w K
  | .load _ a k, w, K => ∃ v, w.cell? a = some v ∧ semV P (k v) w K
  | .store _ a v k, w, K => (∃ u, w.cell? a = some u) ∧ w.frozen? a = false ∧ when (oneC v) (semV P k (w.setCell a v) K)
  | .new o k, w, K => semV P (k w.heap.size) (w.alloc o) K
  | .mark _ k, w, K => semV P k w K
  | _, _, _ => False
theorem semV_run {α : Type} {P : Program} {s : Sem α} : ∀ {w : World} {K : α → World → Prop}, semV P s w K → ∃ a w', s.run P w = .ok a w' ∧ K a w' := by
  induction s with
  | pure a => intro w K h; exact ⟨a, w, rfl, h⟩
  | program k ih => intro w K h; obtain ⟨a, w', hr, hk⟩ := ih P h; exact ⟨a, w', hr, hk⟩
  | load m ad k ih =>
    intro w K h
    obtain ⟨v, hv, h⟩ := h
    obtain ⟨a, w', hr, hk⟩ := ih v h
    exact ⟨a, w', by simp only [Sem.run, hv]; exact hr, hk⟩
  | store m ad v k ih =>
    intro w K h
    obtain ⟨⟨u, hu⟩, hf, h⟩ := h
    obtain ⟨hv, h⟩ := when_cases h
    obtain ⟨a, w', hr, hk⟩ := ih h
    refine ⟨a, w', ?_, hk⟩
    cases v <;> simp [oneC] at hv <;> simp [Sem.run, hu, hf, hr]
  | new o k ih => intro w K h; obtain ⟨a, w', hr, hk⟩ := ih _ h; exact ⟨a, w', hr, hk⟩
  | mark m k ih => intro w K h; obtain ⟨a, w', hr, hk⟩ := ih h; exact ⟨a, w', hr, hk⟩
  | _ => intro w K h; exact h.elim
theorem semV_mono {α : Type} {P : Program} {s : Sem α} : ∀ {w : World} {K K' : α → World → Prop}, (∀ a w, K a w → K' a w) → semV P s w K → semV P s w K' := by
  induction s with
  | pure a => intro w K K' hk h; exact hk _ _ h
  | program k ih => intro w K K' hk h; exact ih P hk h
  | load m ad k ih => intro w K K' hk h; obtain ⟨v, hv, h⟩ := h; exact ⟨v, hv, ih v hk h⟩
  | store m ad v k ih =>
    intro w K K' hk h
    obtain ⟨hu, hf, h⟩ := h
    obtain ⟨hv, h⟩ := when_cases h
    exact ⟨hu, hf, when_intro hv (ih hk h)⟩
  | new o k ih => intro w K K' hk h; exact ih _ hk h
  | mark m k ih => intro w K K' hk h; exact ih hk h
  | _ => intro w K K' hk h; exact h.elim
/-! ### operations that touch no world -/
def isBoolT : Option TypeDesc → Bool
  | some .bool => true
  | _ => false
def isPtrT : Option TypeDesc → Bool
  | some (.pointer _) => true
  | _ => false
def isSliceT : Option TypeDesc → Bool
  | some (.slice _) => true
  | _ => false
def isMapT : Option TypeDesc → Bool
  | some (.map _ _) => true
  | _ => false
theorem isBoolT_out {u : Option TypeDesc} (h : isBoolT u = true) : u = some .bool := by
  unfold isBoolT at h; split at h <;> simp_all
theorem isPtrT_out {u : Option TypeDesc} (h : isPtrT u = true) : ∃ e, u = some (.pointer e) := by
  unfold isPtrT at h; split at h <;> simp_all
theorem isSliceT_out {u : Option TypeDesc} (h : isSliceT u = true) : ∃ e, u = some (.slice e) := by
  unfold isSliceT at h; split at h <;> simp_all
theorem isMapT_out {u : Option TypeDesc} (h : isMapT u = true) : ∃ k e, u = some (.map k e) := by
  unfold isMapT at h; split at h <;> simp_all
def nthO {α : Type} : List α → Nat → Option α
  | [], _ => none
  | x :: _, 0 => some x
  | _ :: xs, n + 1 => nthO xs n
theorem nthO_eq {α : Type} : ∀ (l : List α) (n : Nat), nthO l n = l[n]?
  | [], n => by simp [nthO]
  | v :: vs, 0 => by simp [nthO]
  | v :: vs, n + 1 => by simp [nthO, nthO_eq vs n]

def isFuncT : Option TypeDesc → Bool
  | some (.func _ _ _) => true
  | _ => false
theorem isFuncT_out {u : Option TypeDesc} (h : isFuncT u = true) : ∃ a b c, u = some (.func a b c) := by
  unfold isFuncT at h; split at h <;> simp_all
/-! ### structs held against one another -/
def partO (P : Program) (t : TypeId) (cs : List Value) (off : Nat) : Option Value :=
  match P.underlying t, P.info? t with
  | some (.struct _), some i => some (.agg ⟨(cs.drop off).take i.size⟩)
  | some (.array _ _), some i => some (.agg ⟨(cs.drop off).take i.size⟩)
  | some _, some _ => nthO cs off
  | _, _ => none
def eqFs (P : Program) (E : TypeId → Value → Value → Option Bool) (xs ys : List Value) : List Field → Option Bool
  | [] => some true
  | f :: fs => (match decide (f.name = "_") with
    | true => eqFs P E xs ys fs
    | false => (match partO P f.type xs f.offset, partO P f.type ys f.offset with
      | some a, some b => (match E f.type a b, eqFs P E xs ys fs with
        | some r, some s => some (r && s)
        | _, _ => none)
      | _, _ => none))
def eqV (P : Program) : Nat → TypeId → Value → Value → Option Bool
  | 0, _, _, _ => none
  | d + 1, t, x, y => (match P.underlying t, x, y with
    | some .bool, .bool a, .bool b => some (a == b)
    | some (.int _), .int k a, .int k' b => (match decide (k = k') with | true => some (a == b) | false => none)
    | some .string, .string a, .string b => some (ByteArray.toList a == ByteArray.toList b)
    | some (.struct fs), .agg xs, .agg ys => (match P.stoodInHeld t with
      | true => none
      | false => eqFs P (eqV P d) xs.toList ys.toList fs.toList)
    | _, _, _ => none)
def eqW (P : Program) (t : TypeId) (x y : Value) (K : Bool → Prop) : Prop :=
  match P.eqGuardType P.depth t, eqV P 8 t x y with
  | false, some b => K b
  | _, _ => False
theorem partO_run {P : Program} {t : TypeId} {cs : Array Value} {off : Nat} {v : Value} (h : partO P t cs.toList off = some v) (w : World) : (part t cs off).run P w = .ok v w := by
  unfold partO at h
  split at h
  · rename_i fs i ht hi
    cases h
    have : cs.extract off (off + i.size) = ⟨(cs.toList.drop off).take i.size⟩ := by
      apply Array.ext'
      simp [List.extract]
    simp [part, isAgg, underlying, ht, sizeOf, typeInfo, hi, this]
  · rename_i n e i ht hi
    cases h
    have : cs.extract off (off + i.size) = ⟨(cs.toList.drop off).take i.size⟩ := by
      apply Array.ext'
      simp [List.extract]
    simp [part, isAgg, underlying, ht, sizeOf, typeInfo, hi, this]
  · rename_i d i hn1 hn2 ht hi
    rw [nthO_eq, Array.getElem?_toList] at h
    have : (isAgg t).run P w = .ok false w := by
      cases d <;> first | (exact (hn1 _ rfl).elim) | (exact (hn2 _ _ rfl).elim) | (simp [isAgg, underlying, ht])
    simp [part, this, h]
  · cases h
theorem eqFs_run {P : Program} {d D : Nat} (ih : ∀ t x y b, eqV P d t x y = some b → ∀ w, (Op.equalIn D t x y).run P w = .ok b w) {xs ys : Array Value} : ∀ (fs : List Field) (b : Bool), eqFs P (eqV P d) xs.toList ys.toList fs = some b → ∀ w, (Op.eqFields D xs ys fs).run P w = .ok b w
  | [], b, h, w => by cases h; simp [Op.eqFields]
  | f :: fs, b, h, w => by
    unfold eqFs at h
    split at h
    · rename_i hd
      have hd : f.name = "_" := of_decide_eq_true hd
      simp only [Op.eqFields, hd, ne_eq, not_true, if_false]
      exact eqFs_run ih fs b h w
    · rename_i hd
      have hd : f.name ≠ "_" := of_decide_eq_false hd
      split at h
      · rename_i u v hu hv
        split at h
        · rename_i r s hr hs
          cases h
          simp only [Op.eqFields, if_pos hd, Sem.run_bind, partO_run hu, partO_run hv, Result.andThen_ok, ih _ _ _ _ hr]
          have := eqFs_run ih fs s hs w
          cases r
          · simp
          · simp [this]
        · cases h
      · cases h
theorem eqV_run {P : Program} : ∀ (d : Nat) (t : TypeId) (x y : Value) (b : Bool), eqV P d t x y = some b → ∀ D, d ≤ D → ∀ w, (Op.equalIn D t x y).run P w = .ok b w
  | 0, t, x, y, b, h, D, hD, w => by cases h
  | d + 1, t, x, y, b, h, 0, hD, w => by omega
  | d + 1, t, x, y, b, h, D + 1, hD, w => by
    unfold eqV at h
    split at h
    · rename_i ht; cases h; exact run_equalIn_bool w D t _ _ ht
    · rename_i k0 k u k' v ht
      split at h
      · rename_i hk; cases of_decide_eq_true hk; cases h; exact run_equalIn_int w D t _ _ _ _ ht
      · cases h
    · rename_i ht; cases h; exact run_equalIn_string w D t _ _ ht
    · rename_i fs xs ys ht
      split at h
      · cases h
      · rename_i hp
        have e : P.fieldsOf t = fs := by simp [Program.fieldsOf, ht]
        rw [run_equalIn_struct w D t xs ys (by rw [e]; exact ht) hp, e]
        exact eqFs_run (fun t x y b h w => eqV_run d t x y b h D (by omega) w) fs.toList b h w
    · cases h
theorem eqW_run {P : Program} {t : TypeId} {xs ys : Array Value} {K : Bool → Prop} (h : eqW P t (.agg xs) (.agg ys) K) : ∃ b, K b ∧ P.eqGuardType P.depth t = false ∧ ∀ w, (Op.equalIn 10000 t (.agg xs) (.agg ys)).run P w = .ok b w := by
  unfold eqW at h
  split at h
  · rename_i b hg hb
    exact ⟨b, h, hg, fun w => eqV_run 8 t _ _ b hb 10000 (by omega) w⟩
  · exact h.elim
theorem eqW_mono {P : Program} {t : TypeId} {x y : Value} {K K' : Bool → Prop} (hk : ∀ b, K b → K' b) (h : eqW P t x y K) : eqW P t x y K' := by
  unfold eqW at h ⊢
  split at h
  · exact hk _ h
  · exact h.elim
theorem run_equalIn_func_nil {P : Program} (w : World) (d : Nat) (t : TypeId) (f : Fn) (a c : Array Value) {x : Array TypeId} {y : Array TypeId} {z : Bool} (h : P.underlying t = some (.func x y z)) : (Op.equalIn (d + 1) t (.func f a c) .nilFunc).run P w = .ok false w := by
  simp only [Op.equalIn, Sem.run_bind, run_underlying h, Result.andThen_ok, Sem.run_pure]
theorem run_equalIn_nil_nil {P : Program} (w : World) (d : Nat) (t : TypeId) {x : Array TypeId} {y : Array TypeId} {z : Bool} (h : P.underlying t = some (.func x y z)) : (Op.equalIn (d + 1) t .nilFunc .nilFunc).run P w = .ok true w := by
  simp only [Op.equalIn, Sem.run_bind, run_underlying h, Result.andThen_ok, Sem.run_pure]
def binW (P : Program) (op : BinOp) (t : TypeId) (xo yo : Operand) (x y : Value) (K : Value → Prop) : Prop :=
  match op, x, y with
  | .quo, .int k a, .int k' b => when (decide (k = k')) (when (decide (b ≠ 0)) (K (.int k (k.wrap (a.tdiv b)))))
  | .rem, .int k a, .int k' b => when (decide (k = k')) (when (decide (b ≠ 0)) (K (.int k (a.tmod b))))
  | .shl, .int k a, .int _ b => when (decide (0 ≤ b)) (K (.int k (k.wrap (a * 2 ^ (min b.toNat k.bits)))))
  | .shr, .int k a, .int _ b => when (decide (0 ≤ b)) (K (.int k (a.fdiv (2 ^ (min b.toNat k.bits)))))
  | .add, .string a, .string b => when (decide (a.size + b.size ≤ 9223372036854775807)) (K (.string (a ++ b)))
  | .eql, .bool a, .bool b => when (isBoolT (P.underlying t)) (K (.bool (a == b)))
  | .neq, .bool a, .bool b => when (isBoolT (P.underlying t)) (K (.bool (!(a == b))))
  | .eql, .pointer p, .pointer none => when (isPtrT (P.underlying t)) (K (.bool p.isNone))
  | .neq, .pointer p, .pointer none => when (isPtrT (P.underlying t)) (K (.bool (!p.isNone)))
  | .eql, .slice A n c, .slice none 0 0 => when (isSliceT (P.underlying t)) (K (.bool A.isNone))
  | .neq, .slice A n c, .slice none 0 0 => when (isSliceT (P.underlying t)) (K (.bool (!A.isNone)))
  | .eql, .map r, .map none => when (isMapT (P.underlying t)) (K (.bool r.isNone))
  | .neq, .map r, .map none => when (isMapT (P.underlying t)) (K (.bool (!r.isNone)))
  | .eql, .func f a c, .nilFunc => when (isFuncT (P.underlying t)) (K (.bool false))
  | .neq, .func f a c, .nilFunc => when (isFuncT (P.underlying t)) (K (.bool true))
  | .eql, .nilFunc, .nilFunc => when (isFuncT (P.underlying t)) (K (.bool true))
  | .neq, .nilFunc, .nilFunc => when (isFuncT (P.underlying t)) (K (.bool false))
  | .eql, .agg xs, .agg ys => eqW P t (.agg xs) (.agg ys) (fun b => K (.bool b))
  | .neq, .agg xs, .agg ys => eqW P t (.agg xs) (.agg ys) (fun b => K (.bool (!b)))
  | op, x, y => pureS P (do eqGuard op t xo yo x y; binOp op t x y) K

theorem binW_run {P : Program} {op : BinOp} {t : TypeId} {xo yo : Operand} {x y : Value} {K : Value → Prop} (h : binW P op t xo yo x y K) :
    ∃ v, K v ∧ ∀ w, ((do eqGuard op t xo yo x y; binOp op t x y : Sem Value)).run P w = .ok v w := by
  unfold binW at h
  split at h
  · obtain ⟨h1, h3⟩ := when_cases h
    obtain ⟨h2, h4⟩ := when_cases h3
    have h2 := of_decide_eq_true h2
    cases of_decide_eq_true h1
    exact ⟨_, h4, fun w => by simp [go_sem, h2]⟩
  · obtain ⟨h1, h3⟩ := when_cases h
    obtain ⟨h2, h4⟩ := when_cases h3
    have h2 := of_decide_eq_true h2
    cases of_decide_eq_true h1
    exact ⟨_, h4, fun w => by simp [go_sem, h2]⟩
  · obtain ⟨h2, h4⟩ := when_cases h
    have h2 := of_decide_eq_true h2
    exact ⟨_, h4, fun w => by simp only [eqGuard_at_int, binOp_shl, Op.shift, Sem.run_bind, Sem.run_pure, Result.andThen_ok, if_neg (Int.not_lt.2 h2)]⟩
  · obtain ⟨h2, h4⟩ := when_cases h
    have h2 := of_decide_eq_true h2
    exact ⟨_, h4, fun w => by simp only [eqGuard_at_int, binOp_shr, Op.shift, Sem.run_bind, Sem.run_pure, Result.andThen_ok, if_neg (Int.not_lt.2 h2)]⟩
  · rename_i a b
    obtain ⟨h2, h4⟩ := when_cases h
    have h2 := of_decide_eq_true h2
    refine ⟨_, h4, fun w => ?_⟩
    have : ¬ (((a.size + b.size : Nat) : Int) > IntKind.i64.max) := by rw [IntKind.max_i64]; omega
    simp only [eqGuard_at_string, binOp, Op.stringOp, Sem.run_bind, Sem.run_pure, Result.andThen_ok, if_neg this]
  · obtain ⟨h1, h2⟩ := when_cases h
    have ht := isBoolT_out h1
    refine ⟨_, h2, fun w => ?_⟩
    rw [eqGuard_at_bool]
    exact run_eql_bool w t _ _ ht
  · obtain ⟨h1, h2⟩ := when_cases h
    have ht := isBoolT_out h1
    refine ⟨_, h2, fun w => ?_⟩
    rw [eqGuard_at_bool]
    exact run_neq_bool w t _ _ ht
  · obtain ⟨h1, h2⟩ := when_cases h
    obtain ⟨e, ht⟩ := isPtrT_out h1
    refine ⟨_, h2, fun w => ?_⟩
    rw [eqGuard_at_pointer]
    exact run_eql_pointer_nil w t _ (by simp [Program.pointee, ht])
  · obtain ⟨h1, h2⟩ := when_cases h
    obtain ⟨e, ht⟩ := isPtrT_out h1
    refine ⟨_, h2, fun w => ?_⟩
    rw [eqGuard_at_pointer]
    exact run_neq_pointer_nil w t _ (by simp [Program.pointee, ht])
  · obtain ⟨h1, h2⟩ := when_cases h
    obtain ⟨e, ht⟩ := isSliceT_out h1
    refine ⟨_, h2, fun w => ?_⟩
    rw [eqGuard_at_slice]
    exact Lib.run_eql_slice_nil w t _ _ _ _ _ _ ht
  · obtain ⟨h1, h2⟩ := when_cases h
    obtain ⟨e, ht⟩ := isSliceT_out h1
    refine ⟨_, h2, fun w => ?_⟩
    rw [eqGuard_at_slice]
    exact run_neq_slice_nil_any w t _ _ _ _ _ _ ht
  · obtain ⟨h1, h2⟩ := when_cases h
    obtain ⟨k, e, ht⟩ := isMapT_out h1
    refine ⟨_, h2, fun w => ?_⟩
    rw [eqGuard_at_map]
    exact run_eql_map_nil w t _ _ _ ht
  · obtain ⟨h1, h2⟩ := when_cases h
    obtain ⟨k, e, ht⟩ := isMapT_out h1
    refine ⟨_, h2, fun w => ?_⟩
    rw [eqGuard_at_map]
    exact run_neq_map_nil w t _ _ _ ht
  · rename_i f a c
    obtain ⟨h1, h2⟩ := when_cases h
    obtain ⟨_, _, _, ht⟩ := isFuncT_out h1
    refine ⟨_, h2, fun w => ?_⟩
    rw [eqGuard_at_func]
    simp only [binOp]
    simp [Op.equal, Op.maxDepth, run_equalIn_func_nil w 9999 t f a c ht]
  · rename_i f a c
    obtain ⟨h1, h2⟩ := when_cases h
    obtain ⟨_, _, _, ht⟩ := isFuncT_out h1
    refine ⟨_, h2, fun w => ?_⟩
    rw [eqGuard_at_func]
    simp only [binOp]
    simp [Op.equal, Op.maxDepth, run_equalIn_func_nil w 9999 t f a c ht]
  · obtain ⟨h1, h2⟩ := when_cases h
    obtain ⟨_, _, _, ht⟩ := isFuncT_out h1
    refine ⟨_, h2, fun w => ?_⟩
    rw [eqGuard_at_nilFunc]
    simp only [binOp]
    simp [Op.equal, Op.maxDepth, run_equalIn_nil_nil w 9999 t ht]
  · obtain ⟨h1, h2⟩ := when_cases h
    obtain ⟨_, _, _, ht⟩ := isFuncT_out h1
    refine ⟨_, h2, fun w => ?_⟩
    rw [eqGuard_at_nilFunc]
    simp only [binOp]
    simp [Op.equal, Op.maxDepth, run_equalIn_nil_nil w 9999 t ht]
  · obtain ⟨b, hb, hg, hr⟩ := eqW_run h
    exact ⟨_, hb, fun w => by simp only [Sem.run_bind, run_eqGuard_agg w _ t xo yo _ _ hg, Result.andThen_ok, run_eql_struct, hr]⟩
  · obtain ⟨b, hb, hg, hr⟩ := eqW_run h
    exact ⟨_, hb, fun w => by simp only [Sem.run_bind, run_eqGuard_agg w _ t xo yo _ _ hg, Result.andThen_ok, run_neq_struct, hr]⟩
  · exact pureS_run h
theorem binW_mono {P : Program} {op : BinOp} {t : TypeId} {xo yo : Operand} {x y : Value} {K K' : Value → Prop} (hk : ∀ v, K v → K' v) (h : binW P op t xo yo x y K) : binW P op t xo yo x y K' := by
  unfold binW at h ⊢
  split at h
  all_goals first
    | (obtain ⟨h1, h3⟩ := when_cases h; obtain ⟨h2, h4⟩ := when_cases h3; exact when_intro h1 (when_intro h2 (hk _ h4)))
    | (obtain ⟨h1, h3⟩ := when_cases h; exact when_intro h1 (hk _ h3))
    | exact eqW_mono (fun b => hk _) h
    | exact pureS_mono hk h

def bnd (x : Option Value) (y d : Nat) (K : Nat → Prop) : Prop :=
  match x with
  | none => K d
  | some (.int _ i) => when (decide (0 ≤ i ∧ i ≤ (y : Int))) (K i.toNat)
  | _ => False
def cut (A : Option Addr) (c l size : Nat) : Option Addr := if c = l then A else A.map (·.add (l * size))
def sliceW (P : Program) (t : TypeId) (x : Value) (lo hi : Option Value) (K : Value → Prop) : Prop :=
  match P.underlying t, x with
  | some .string, .string s => bnd hi s.size s.size fun h => bnd lo h 0 fun l => K (.string (s.extract l h))
  | some (.slice e), .slice A n c => (match P.info? e with
    | some i => bnd hi c n fun h => bnd lo h 0 fun l => K (.slice (cut A c l i.size) (h - l) (c - l))
    | none => False)
  | _, _ => False
def slice3W (P : Program) (t : TypeId) (x : Value) (lo : Option Value) (hi mx : Value) (K : Value → Prop) : Prop :=
  match P.underlying t, x with
  | some (.slice e), .slice A n c => (match P.info? e with
    | some i => bnd (some mx) c c fun m => bnd (some hi) m m fun h => bnd lo h 0 fun l => K (.slice (cut A m l i.size) (h - l) (m - l))
    | none => False)
  | _, _ => False
def partW (P : Program) (t : TypeId) (cs : List Value) (off : Nat) (K : Value → Prop) : Prop :=
  match P.underlying t, P.info? t with
  | some (.struct _), some i => K (.agg ⟨(cs.drop off).take i.size⟩)
  | some (.array _ _), some i => K (.agg ⟨(cs.drop off).take i.size⟩)
  | some _, some _ => (match nthO cs off with | some v => K v | none => False)
  | _, _ => False
def fieldW (P : Program) (t : TypeId) (x : Value) (f : Nat) (K : Value → Prop) : Prop :=
  match P.underlying t, x with
  | some (.struct fs), .agg cs => (match nthO fs.toList f with | some fd => partW P fd.type cs.toList fd.offset K | none => False)
  | _, _ => False
def byteAt (s : ByteArray) (i : Int) : Int := ((s.data.toList.getD i.toNat 0).toNat : Int)
def indexAddrW (P : Program) (t : TypeId) (x ix : Value) (K : Value → Prop) : Prop :=
  match ix, P.underlying t, x with
  | .int _ i, some (.slice e), .slice A n c => (match P.info? e with
    | some inf => when (decide (0 ≤ i ∧ i < (n : Int))) (ptr A fun a => K (.pointer (some (a.add (i.toNat * inf.size)))))
    | none => False)
  | .int _ i, some (.array n e), .pointer p => (match P.info? e with
    | some inf => ptr p fun a => when (decide (0 ≤ i ∧ i < (n : Int))) (K (.pointer (some (a.add (i.toNat * inf.size)))))
    | none => False)
  | _, _, _ => False
def indexW (P : Program) (t : TypeId) (x ix : Value) (K : Value → Prop) : Prop :=
  match ix, P.underlying t, x with
  | .int _ i, some .string, .string s => when (decide (0 ≤ i ∧ i < (s.size : Int))) (K (.int .u8 (byteAt s i)))
  | .int _ i, some (.array n e), .agg cs => (match P.info? e with
    | some inf => when (decide (0 ≤ i ∧ i < (n : Int))) (partW P e cs.toList (i.toNat * inf.size) K)
    | none => False)
  | _, _, _ => False
def putAll : List Value → Nat → List Value → List Value
  | cs, _, [] => cs
  | cs, off, v :: vs => putAll (put cs off v) (off + 1) vs
def fillW (place : Nat → Option (Nat × Nat)) : List Value → List (Nat × Value) → (List Value → Prop) → Prop
  | cells, [], K => K cells
  | cells, (i, v) :: r, K => (match place i with
    | some (off, size) => when (decide (v.cells.toList.length = size ∧ off + size ≤ cells.length)) (force (putAll cells off v.cells.toList) fun cells => fillW place cells r K)
    | none => False)
def places (P : Program) : List Field → Option (List (Nat × Nat))
  | [] => some []
  | f :: fs => match P.info? f.type, places P fs with
    | some i, some l => some ((f.offset, i.size) :: l)
    | _, _ => none
def buildW (P : Program) (t : TypeId) (parts : List (Nat × Value)) (K : Value → Prop) : Prop :=
  match P.underlying t, P.info? t with
  | some (.struct fs), some i => (match i.zero, places P fs.toList with
    | some z, some pl => fillW (nthO pl) z.cells.toList parts fun cs => K (.agg ⟨cs⟩)
    | _, _ => False)
  | some (.array _ e), some i => (match i.zero, P.info? e with
    | some z, some j => fillW (fun k => some (k * j.size, j.size)) z.cells.toList parts fun cs => K (.agg ⟨cs⟩)
    | _, _ => False)
  | _, _ => False

def opW (P : Program) (fr : List Value) (o : Oper) (K : Value → Prop) : Prop :=
  match o.op with
  | .move x => K (ev fr x)
  | .assign x => K (ev fr x)
  | .pick c a b => (match ev fr c with | .bool t => sel t (K (ev fr a)) (K (ev fr b)) | _ => False)
  | .nilCheck x => (match ev fr x with
    | .pointer p => ptr p fun a => K (.pointer (some a))
    | .func (.func f) first cap => K (.func (.func f) first cap)
    | .func (.yield l) first cap => K (.func (.yield l) first cap)
    | _ => False)
  | .binOp op t x y _ => binW P op t x y (ev fr x) (ev fr y) K
  | .unOp op _ x => pureS P (Op.unary op (ev fr x)) K
  | .convert s d x => pureS P (convert s d (ev fr x)) K
  | .makeFunc fn first cap => K (.func fn ⟨first.toList.map (ev fr)⟩ ⟨cap.toList.map (ev fr)⟩)
  | .slice t x lo hi none => sliceW P t (ev fr x) (lo.map (ev fr)) (hi.map (ev fr)) K
  | .slice t x lo (some hi) (some mx) => slice3W P t (ev fr x) (lo.map (ev fr)) (ev fr hi) (ev fr mx) K
  | .fieldAddr s x f => (match ev fr x with | .pointer p => ptr p fun a => pureS P (Instr.fieldAt s (.pointer (some a)) f) K | _ => False)
  | .field t x f => fieldW P t (ev fr x) f K
  | .indexAddr t x ix => indexAddrW P t (ev fr x) (ev fr ix) K
  | .index t x ix => indexW P t (ev fr x) (ev fr ix) K
  | .extract t i => (match ev fr t with | .tuple vs => (match nthO vs.toList i with | some v => K v | none => False) | _ => False)
  | .build t ps => buildW P t (ps.toList.map fun p => (p.1, ev fr p.2)) K
  | .makeInterface t x => pureS P (Instr.makeInterface t (ev fr x)) K
  | .call c => (match c.callee with
    | .builtin .len => pureS P (Builtin.len_ c.argTypes o.type ⟨c.args.toList.map (ev fr)⟩) K
    | .builtin .cap => pureS P (Builtin.cap_ c.argTypes o.type ⟨c.args.toList.map (ev fr)⟩) K
    | .builtin .min => pureS P (Builtin.min_ c.argTypes o.type ⟨c.args.toList.map (ev fr)⟩) K
    | .builtin .max => pureS P (Builtin.max_ c.argTypes o.type ⟨c.args.toList.map (ev fr)⟩) K
    | _ => False)
  | _ => False

theorem bnd_cases {x : Option Value} {y d : Nat} {K : Nat → Prop} (h : bnd x y d K) :
    (x = none ∧ K d) ∨ ∃ k i, x = some (.int k i) ∧ 0 ≤ i ∧ i ≤ (y : Int) ∧ K i.toNat := by
  unfold bnd at h
  split at h
  · exact .inl ⟨rfl, h⟩
  · obtain ⟨h1, h⟩ := when_cases h
    have h1 := of_decide_eq_true h1
    exact .inr ⟨_, _, rfl, h1.1, h1.2, h⟩
  · exact h.elim
theorem run_typeInfo {P : Program} {t : TypeId} {i : TypeInfo} (h : P.info? t = some i) (w : World) : (typeInfo t).run P w = .ok i w := by
  simp [typeInfo, h]
theorem run_sizeOf {P : Program} {t : TypeId} {i : TypeInfo} (h : P.info? t = some i) (w : World) : (sizeOf t).run P w = .ok i.size w := by
  simp [sizeOf, run_typeInfo h]
theorem run_underlying' {P : Program} {t : TypeId} {d : TypeDesc} (h : P.underlying t = some d) (w : World) : (underlying t).run P w = .ok d w := by
  simp [underlying, h]
theorem run_sliceBound {P : Program} {k : IntKind} {i : Int} {y : Nat} {c : BoundsCode} (h0 : 0 ≤ i) (h1 : i ≤ (y : Int)) (w : World) : (Instr.sliceBound (.int k i) y c).run P w = .ok i.toNat w := by
  simp [Instr.sliceBound, asIntOf, h0, h1]
theorem bnd_run {P : Program} {x : Option Value} {y d : Nat} {K : Nat → Prop} (h : bnd x y d K) (c : BoundsCode) :
    ∃ n, K n ∧ ∀ w, ((match x with | some v => Instr.sliceBound v y c | none => pure d : Sem Nat)).run P w = .ok n w := by
  rcases bnd_cases h with ⟨rfl, g⟩ | ⟨k, i, rfl, h0, h1, g⟩
  · exact ⟨_, g, fun w => rfl⟩
  · exact ⟨_, g, fun w => run_sliceBound h0 h1 w⟩
theorem sliceW_run {P : Program} {t : TypeId} {x : Value} {lo hi : Option Value} {K : Value → Prop} (h : sliceW P t x lo hi K) :
    ∃ v, K v ∧ ∀ w, (Instr.sliceAt t x lo hi none).run P w = .ok v w := by
  unfold sliceW at h
  split at h
  · rename_i s ht
    obtain ⟨n, h2, r2⟩ := bnd_run (P := P) h .sliceAlen
    obtain ⟨l, h3, r3⟩ := bnd_run (P := P) h2 .sliceB
    refine ⟨_, h3, fun w => ?_⟩
    have r2 := r2 w
    have r3 := r3 w
    cases lo <;> cases hi <;> simp only [Sem.run_pure, Result.ok.injEq, and_true] at r2 r3 <;> (try subst r2) <;> (try subst r3) <;>
      simp [Instr.sliceAt, Instr.slice, Instr.sliceBounds, run_underlying' ht, *]
  · rename_i e A n c ht
    split at h
    · rename_i inf hi'
      obtain ⟨n, h2, r2⟩ := bnd_run (P := P) h .sliceAcap
      obtain ⟨l, h3, r3⟩ := bnd_run (P := P) h2 .sliceB
      refine ⟨_, h3, fun w => ?_⟩
      have r2 := r2 w
      have r3 := r3 w
      cases lo <;> cases hi <;> simp only [Sem.run_pure, Result.ok.injEq, and_true] at r2 r3 <;> (try subst r2) <;> (try subst r3) <;>
        simp [Instr.sliceAt, Instr.slice, Instr.sliceBounds, run_underlying' ht, run_sizeOf hi', cut, *]
    · exact h.elim
  · exact h.elim
theorem bnd1_run {P : Program} {v : Value} {y d : Nat} {K : Nat → Prop} (h : bnd (some v) y d K) (c : BoundsCode) : ∃ n, K n ∧ ∀ w, (Instr.sliceBound v y c).run P w = .ok n w := by
  rcases bnd_cases h with ⟨h0, g⟩ | ⟨k, i, h0, h1, h2, g⟩
  · cases h0
  · cases h0; exact ⟨_, g, fun w => run_sliceBound h1 h2 w⟩
theorem slice3W_run {P : Program} {t : TypeId} {x : Value} {lo : Option Value} {hi mx : Value} {K : Value → Prop} (h : slice3W P t x lo hi mx K) :
    ∃ v, K v ∧ ∀ w, (Instr.sliceAt t x lo (some hi) (some mx)).run P w = .ok v w := by
  unfold slice3W at h
  split at h
  · rename_i e A n c ht
    split at h
    · rename_i inf hi'
      obtain ⟨m, h1, r1⟩ := bnd1_run (P := P) h .slice3Acap
      obtain ⟨hh, h2, r2⟩ := bnd1_run (P := P) h1 .slice3B
      obtain ⟨l, h3, r3⟩ := bnd_run (P := P) h2 .slice3C
      refine ⟨_, h3, fun w => ?_⟩
      have r1 := r1 w
      have r2 := r2 w
      have r3 := r3 w
      cases lo <;> simp only [Sem.run_pure, Result.ok.injEq, and_true] at r3 <;> (try subst r3) <;>
        simp [Instr.sliceAt, Instr.slice, Instr.sliceBounds, run_underlying' ht, run_sizeOf hi', cut, *]
    · exact h.elim
  · exact h.elim
theorem partW_run {P : Program} {t : TypeId} {cs : Array Value} {off : Nat} {K : Value → Prop} (h : partW P t cs.toList off K) :
    ∃ v, K v ∧ ∀ w, (part t cs off).run P w = .ok v w := by
  unfold partW at h
  split at h
  · rename_i fs i ht hi
    refine ⟨_, h, fun w => ?_⟩
    have : cs.extract off (off + i.size) = ⟨(cs.toList.drop off).take i.size⟩ := by
      apply Array.ext'
      simp [List.extract]
    simp [part, isAgg, run_underlying' ht, run_sizeOf hi, this]
  · rename_i n e i ht hi
    refine ⟨_, h, fun w => ?_⟩
    have : cs.extract off (off + i.size) = ⟨(cs.toList.drop off).take i.size⟩ := by
      apply Array.ext'
      simp [List.extract]
    simp [part, isAgg, run_underlying' ht, run_sizeOf hi, this]
  · rename_i d i hn1 hn2 ht hi
    split at h
    · rename_i v hv
      rw [nthO_eq, Array.getElem?_toList] at hv
      refine ⟨_, h, fun w => ?_⟩
      have : (isAgg t).run P w = .ok false w := by
        cases d <;> first | (exact (hn1 _ rfl).elim) | (exact (hn2 _ _ rfl).elim) | (simp [isAgg, run_underlying' ht])
      simp [part, this, hv]
    · exact h.elim
  · exact h.elim
theorem fieldW_run {P : Program} {t : TypeId} {x : Value} {f : Nat} {K : Value → Prop} (h : fieldW P t x f K) :
    ∃ v, K v ∧ ∀ w, (Instr.field t x f).run P w = .ok v w := by
  unfold fieldW at h
  split at h
  · rename_i fs cs ht
    split at h
    · rename_i fd hf
      rw [nthO_eq, Array.getElem?_toList] at hf
      obtain ⟨v, hv, hr⟩ := partW_run h
      exact ⟨v, hv, fun w => by simp [Instr.field, run_underlying' ht, hf, asAgg, hr]⟩
    · exact h.elim
  · exact h.elim
theorem indexAddrW_run {P : Program} {t : TypeId} {x ix : Value} {K : Value → Prop} (h : indexAddrW P t x ix K) :
    ∃ v, K v ∧ ∀ w, (Instr.indexAt t x ix).run P w = .ok v w := by
  unfold indexAddrW at h
  split at h
  · rename_i k i e A n c ht
    split at h
    · rename_i inf hi
      obtain ⟨h1, h⟩ := when_cases h
      have h1 := of_decide_eq_true h1
      obtain ⟨a, rfl, h⟩ := ptr_cases h
      exact ⟨_, h, fun w => by simp [Instr.indexAt, asIntOf, run_underlying' ht, run_sizeOf hi, h1.1, h1.2]⟩
    · exact h.elim
  · rename_i k i n e p ht
    split at h
    · rename_i inf hi
      obtain ⟨a, rfl, h⟩ := ptr_cases h
      obtain ⟨h1, h⟩ := when_cases h
      have h1 := of_decide_eq_true h1
      exact ⟨_, h, fun w => by simp [Instr.indexAt, Instr.sureAddr, asIntOf, run_underlying' ht, run_sizeOf hi, h1.1, h1.2]⟩
    · exact h.elim
  · exact h.elim
theorem indexW_run {P : Program} {t : TypeId} {x ix : Value} {K : Value → Prop} (h : indexW P t x ix K) :
    ∃ v, K v ∧ ∀ w, (Instr.index t x ix).run P w = .ok v w := by
  unfold indexW at h
  split at h
  · rename_i k i s ht
    obtain ⟨h1, h⟩ := when_cases h
    have h1 := of_decide_eq_true h1
    refine ⟨_, h, fun w => ?_⟩
    have hlt : i.toNat < s.size := by omega
    have e : s[i.toNat]? = some s[i.toNat] := by simp [hlt]
    have e2 : byteAt s i = (s[i.toNat].toNat : Int) := by
      have hl : i.toNat < s.data.toList.length := by rw [Array.length_toList]; exact hlt
      simp only [byteAt, List.getD_eq_getElem?_getD, List.getElem?_eq_getElem hl, Option.getD_some]
      rfl
    simp [Instr.index, asIntOf, run_underlying' ht, h1.1, e, e2]
  · rename_i k i n e cs ht
    split at h
    · rename_i inf hi
      obtain ⟨h1, h⟩ := when_cases h
      have h1 := of_decide_eq_true h1
      obtain ⟨v, hv, hr⟩ := partW_run h
      exact ⟨v, hv, fun w => by simp [Instr.index, asIntOf, run_underlying' ht, run_sizeOf hi, h1.1, h1.2, hr]⟩
    · exact h.elim
  · exact h.elim

theorem putAll_eq : ∀ (l : List Value) (off k : Nat) (cells : Array Value),
    (l.zipIdx k).foldl (fun cs (x : Value × Nat) => cs.setIfInBounds (off + x.2) x.1) cells = ⟨putAll cells.toList (off + k) l⟩
  | [], off, k, cells => by simp [putAll]
  | v :: vs, off, k, cells => by
    simp only [List.zipIdx_cons, List.foldl_cons, putAll]
    rw [putAll_eq vs off (k + 1)]
    simp [put_eq, Nat.add_assoc]
theorem putAll_length : ∀ (l cs : List Value) (off : Nat), (putAll cs off l).length = cs.length
  | [], cs, off => rfl
  | v :: vs, cs, off => by simp [putAll, putAll_length vs, put_eq]
theorem fillW_run {place : Nat → Option (Nat × Nat)} : ∀ {parts : List (Nat × Value)} {cells : List Value} {K : List Value → Prop}, fillW place cells parts K →
    ∃ cs, K cs ∧ Instr.fill place ⟨cells⟩ parts = some ⟨cs⟩
  | [], cells, K, h => ⟨cells, h, rfl⟩
  | (i, v) :: r, cells, K, h => by
    unfold fillW at h
    split at h
    · rename_i off size hp
      obtain ⟨h1, h⟩ := when_cases h
      have h1 := of_decide_eq_true h1
      rw [force_eq] at h
      obtain ⟨cs, hk, hf⟩ := fillW_run h
      refine ⟨cs, hk, ?_⟩
      simp only [Instr.fill, hp]
      have e1 : v.cells.size = size := by rw [← Array.length_toList]; exact h1.1
      rw [if_neg (by simp [e1]; have := h1.2; omega)]
      rw [← hf]
      congr 1
      rw [← Array.foldl_toList, Array.toList_zipIdx]
      exact putAll_eq v.cells.toList off 0 ⟨cells⟩
    · exact h.elim
theorem places_run {P : Program} : ∀ {fs : List Field} {pl : List (Nat × Nat)}, places P fs = some pl → ∀ w,
    (fs.mapM fun f => (do pure (f.offset, ← sizeOf f.type) : Sem (Nat × Nat))).run P w = .ok pl w
  | [], pl, h, w => by simp [places] at h; subst h; rfl
  | f :: fs, pl, h, w => by
    unfold places at h
    split at h
    · rename_i i l hi hl
      cases h
      have ih := places_run hl w
      rw [List.mapM_cons]
      simp only [Sem.run_bind, run_sizeOf hi, Result.andThen_ok, Sem.run_pure] at ih ⊢
      rw [ih]; rfl
    · cases h
theorem buildW_run {P : Program} {t : TypeId} {parts : List (Nat × Value)} {K : Value → Prop} (h : buildW P t parts K) :
    ∃ v, K v ∧ ∀ w, (Instr.build t ⟨parts⟩).run P w = .ok v w := by
  unfold buildW at h
  split at h
  · rename_i fs i ht hi
    split at h
    · rename_i z pl hz hpl
      obtain ⟨cs, hk, hf⟩ := fillW_run h
      refine ⟨_, hk, fun w => ?_⟩
      have hp := places_run hpl w
      have e : (nthO pl) = fun i => (⟨pl⟩ : Array (Nat × Nat))[i]? := by funext i; rw [nthO_eq]; simp
      rw [e] at hf
      simp only [Instr.build, zeroValue, Sem.run_bind, run_typeInfo hi, Result.andThen_ok, hz, Sem.run_pure, run_underlying' ht]
      rw [Array.mapM_eq_mapM_toList]
      simp only [Sem.run_map, Sem.run_bind] at hp ⊢
      rw [hp]
      simp only [Result.andThen_ok, List.toArray]
      rw [hf]
      rfl
    · exact h.elim
  · rename_i n e i ht hi
    split at h
    · rename_i z j hz hj
      obtain ⟨cs, hk, hf⟩ := fillW_run h
      refine ⟨_, hk, fun w => ?_⟩
      simp only [Instr.build, zeroValue, Sem.run_bind, run_typeInfo hi, Result.andThen_ok, hz, Sem.run_pure, run_underlying' ht, run_sizeOf hj]
      rw [hf]
      rfl
    · exact h.elim
  · exact h.elim

theorem opW_run {P : Program} {fr : List Value} {o : Oper} {K : Value → Prop} (h : opW P fr o K) :
    ∃ v, K v ∧ ∀ w, (execOp (ev fr) o).run P w = .ok (.value v) w := by
  obtain ⟨dst, op, type, pos, after, guard⟩ := o
  have lift : ∀ {s : Sem Value}, (∃ v, K v ∧ ∀ w, s.run P w = .ok v w) → ∃ v, K v ∧ ∀ w, ((do pure (.value (← s)) : Sem Next)).run P w = .ok (.value v) w :=
    fun {s} ⟨v, hk, hr⟩ => ⟨v, hk, fun w => by simp [hr w]⟩
  have margs : ∀ (xs : Array Operand), (⟨xs.toList.map (ev fr)⟩ : Array Value) = xs.map (ev fr) := fun xs => by
    apply Array.ext'; simp
  cases op <;> simp only [opW] at h <;> first | exact h.elim | skip
  case move x => exact ⟨_, h, fun w => rfl⟩
  case assign x => exact ⟨_, h, fun w => rfl⟩
  case pick c a b =>
    split at h
    · rename_i t ht
      rcases sel_cases h with ⟨rfl, h⟩ | ⟨rfl, h⟩
      · exact ⟨_, h, fun w => by simp [execOp, ht, asBool]⟩
      · exact ⟨_, h, fun w => by simp [execOp, ht, asBool]⟩
    · exact h.elim
  case build t ps =>
    have e : (⟨ps.toList.map fun p => (p.1, ev fr p.2)⟩ : Array (Nat × Value)) = ps.map fun (i, x) => (i, ev fr x) := by
      apply Array.ext'; simp
    have := lift (buildW_run h)
    rw [e] at this
    exact this
  case nilCheck x =>
    split at h
    · rename_i p hp
      obtain ⟨a, rfl, h⟩ := ptr_cases h
      exact ⟨_, h, fun w => by simp [execOp, hp]⟩
    · rename_i f first cap hp
      exact ⟨_, h, fun w => by simp [execOp, hp]⟩
    · rename_i f first cap hp
      exact ⟨_, h, fun w => by simp [execOp, hp]⟩
    · exact h.elim
  case binOp op t x y yt => exact lift (binW_run h)
  case unOp op t x => exact lift (pureS_run h)
  case convert s d x => exact lift (pureS_run h)
  case makeInterface t x => exact lift (pureS_run h)
  case makeFunc fn first cap =>
    rw [margs, margs] at h
    exact ⟨_, h, fun w => by simp [execOp, Instr.makeFunc]⟩
  case slice t x lo hi mx =>
    cases mx with
    | none => exact lift (sliceW_run h)
    | some m =>
      cases hi with
      | none => exact h.elim
      | some hi => exact lift (slice3W_run h)
  case fieldAddr s x f =>
    split at h
    · rename_i p hp
      obtain ⟨a, rfl, h⟩ := ptr_cases h
      have := lift (pureS_run h)
      rw [← hp] at this
      exact this
    · exact h.elim
  case field t x f => exact lift (fieldW_run h)
  case indexAddr t x ix => exact lift (indexAddrW_run h)
  case index t x ix => exact lift (indexW_run h)
  case extract t i =>
    split at h
    · rename_i vs hv
      split at h
      · rename_i v hn
        rw [nthO_eq, Array.getElem?_toList] at hn
        exact ⟨_, h, fun w => by simp [execOp, Instr.extract, hv, hn]⟩
      · exact h.elim
    · exact h.elim
  case call c =>
    obtain ⟨callee, args, ats⟩ := c
    simp only at h
    split at h
    all_goals first
      | exact h.elim
      | (rw [margs] at h; obtain ⟨v, hk, hr⟩ := pureS_run h; refine ⟨v, hk, fun w => ?_⟩; simp [execOp, resolve, invoke, builtin, hr w])

/-! ### operations that touch the world -/
def hasB (P : Program) (f : FuncId) : Bool :=
  match P.funcs[f]? with
  | some fn => fn.body.isSome && !(fn.name == "runtime.NumGoroutine")
  | none => false
def callK (P : Program) (f : FuncId) (args : List Value) (w : World) (t : TypeId) (K : Value → World → Prop) : Prop :=
  when (hasB P f) (Calls P f ⟨args⟩ w fun e w' => exR (rshOf P t) fun v => e = .returned v ∧ K v w')
def runK (P : Program) (s : Sem Value) (w : World) (t : TypeId) (K : Value → World → Prop) : Prop :=
  exR (rshOf P t) fun v => ∃ w', s.run P w = .ok v w' ∧ K v w'
def rangeV (P : Program) (s : Sem Value) (w : World) (K : Value → World → Prop) : Prop := ∃ p w', s.run P w = .ok (.pointer p) w' ∧ K (.pointer p) w'
def nextV (P : Program) (s : Sem Value) (w : World) (K : Value → World → Prop) : Prop :=
  (∃ w', s.run P w = .ok (.tuple #[.bool false]) w' ∧ K (.tuple #[.bool false]) w') ∨ (∃ k v w', s.run P w = .ok (.tuple #[.bool true, k, v]) w' ∧ K (.tuple #[.bool true, k, v]) w')
def entryV (P : Program) (s : Sem Value) (w : World) (K : Value → World → Prop) : Prop := ∃ k v w', s.run P w = .ok (.tuple #[.string k, v]) w' ∧ K (.tuple #[.string k, v]) w'
def runU (P : Program) (s : Sem Unit) (w : World) (K : World → Prop) : Prop := ∃ w', s.run P w = .ok () w' ∧ K w'
def loadCellsG (C : Addr → Value → Prop) (a : Addr) : Nat → List Kind → (List Value → Prop) → Prop
  | _, [], K => K []
  | i, k :: ks, K => exK k fun x => C (a.add i) x ∧ loadCellsG C a (i + 1) ks fun vs => K (x :: vs)
def loadAgg (C : Addr → Value → Prop) (a : Addr) (i : TypeInfo) (K : Value → Prop) : Prop :=
  match i.zero with
  | some (.agg cs) => when (decide (cs.toList.length = i.size)) (loadCellsG C a 0 (cs.toList.map kindOf) fun vs => K (.agg ⟨vs⟩))
  | _ => False
def loadG (P : Program) (C : Addr → Value → Prop) (t : TypeId) (v : Value) (K : Value → Prop) : Prop :=
  match v with
  | .pointer p => ptr p fun a => (match P.underlying t, P.info? t with
    | some (.struct _), some i => loadAgg C a i K
    | some (.array _ _), some i => loadAgg C a i K
    | some _, some i => (match i.zero with
      | some z => exK (kindOf z) fun x => C a x ∧ K x
      | none => False)
    | _, _ => False)
  | _ => False
def rep (n : Nat) : List Value → List Value
  | [z] => List.replicate n z
  | zs => (List.replicate n zs).flatten
def makeV (P : Program) (t : TypeId) (l c : Value) (w : World) (K : Value → World → Prop) : Prop :=
  match P.underlying t, l, c with
  | some (.slice e), .int _ a, .int _ b => (match P.info? e with
    | some i => (match i.zero with
      | some z => when (decide (z.cells.toList.length = i.size)) (when (decide (0 ≤ a ∧ a ≤ b ∧ b ≤ 281474976710656 ∧ (i.bytes : Int) * b ≤ 281474976710656))
          (K (.slice (some ⟨w.heap.size, 0, none⟩) a.toNat b.toNat) (w.alloc (.cells ⟨rep b.toNat z.cells.toList⟩ e))))
      | none => False)
    | none => False)
  | _, _, _ => False
def buildSliceV (P : Program) (t : TypeId) (len : Nat) (parts : List (Nat × Value)) (w : World) (K : Value → World → Prop) : Prop :=
  match P.underlying t with
  | some (.slice e) => (match P.info? e with
    | some i => (match i.zero with
      | some z => when (decide (z.cells.toList.length = i.size ∧ len * i.size ≤ 16777216))
          (fillW (fun k => some (k * i.size, i.size)) (rep len z.cells.toList) parts fun cs =>
            K (.slice (some ⟨w.heap.size, 0, none⟩) len len) (w.alloc (.cells ⟨cs⟩ e)))
      | none => False)
    | none => False)
  | _ => False
def opV (P : Program) (fr : List Value) (w : World) (o : Oper) (K : Value → World → Prop) : Prop :=
  match o.op with
  | .alloc e => semV P (Instr.alloc e true (.tuple #[])) w K
  | .box e x => semV P (Instr.box e (ev fr x)) w K
  | .buildSlice t n ps => buildSliceV P t n (ps.toList.map fun p => (p.1, ev fr p.2)) w K
  | .load t a => loadG P (fun a x => w.cell? a = some x) t (ev fr a) (fun v => K v w)
  | .store t a x => (match ev fr a with | .pointer p => ptr p fun ad => semV P (Instr.storeAt t (.pointer (some ad)) (ev fr x)) w (fun _ w' => K undef w') | _ => False)
  | .makeMap t r => semV P (Instr.makeMap t (r.map (ev fr))) w K
  | .makeSlice t l c => makeV P t (ev fr l) (ev fr c) w K
  | .lookup t m k ok => runK P (Instr.lookup t (ev fr m) (ev fr k) ok) w o.type K
  | .mapUpdate t m k x => runU P (Instr.mapUpdate t (ev fr m) (ev fr k) (ev fr x)) w (K undef)
  | .insert t m k x => runU P (Instr.mapUpdate t (ev fr m) (ev fr k) (ev fr x)) w (K undef)
  | .mapEntry t m k => runK P (Instr.mapEntry t (ev fr m) (ev fr k)) w o.type K
  | .entryStore t m s x => runU P (Instr.entryStore t (ev fr m) (ev fr s) (ev fr x)) w (K undef)
  | .range t x => rangeV P (Instr.range t (ev fr x)) w K
  | .next it b => nextV P (Instr.next (ev fr it) b o.type) w K
  | .entry it => entryV P (Instr.entry (ev fr it)) w K
  | .convert s d x => (match ev fr x with
    | .slice A n c => runK P (convert s d (.slice A n c)) w o.type K
    | _ => opW P fr o (fun v => K v w))
  | .call c => (match c.callee with
    | .value f => (match ev fr f with
      | .func (.func n) first cap => callK P n (first.toList ++ c.args.toList.map (ev fr) ++ cap.toList) w o.type K
      | _ => False)
    | .builtin .append => runK P (Builtin.append_ c.argTypes o.type ⟨c.args.toList.map (ev fr)⟩) w o.type K
    | .builtin .copy => runK P (Builtin.copy_ c.argTypes o.type ⟨c.args.toList.map (ev fr)⟩) w o.type K
    | .builtin .delete => runK P (Builtin.delete_ c.argTypes o.type ⟨c.args.toList.map (ev fr)⟩) w o.type K
    | .builtin .clear => runK P (Builtin.clear_ c.argTypes o.type ⟨c.args.toList.map (ev fr)⟩) w o.type K
    | .builtin .len => (match c.args.toList.map (ev fr) with
      | [.map r] => runK P (Builtin.len_ c.argTypes o.type #[.map r]) w o.type K
      | _ => opW P fr o (fun v => K v w))
    | _ => opW P fr o (fun v => K v w))
  | _ => opW P fr o (fun v => K v w)

theorem loadCellsG_run {P : Program} {w : World} {C : Addr → Value → Prop} {a : Addr} : ∀ {ks : List Kind} {i : Nat} {acc : Array Value} {K : List Value → Prop}, (∀ a x, C a x → w.cell? a = some x) → loadCellsG C a i ks K →
    ∃ vs, vs.length = ks.length ∧ K vs ∧ (∀ w, (∀ a x, C a x → w.cell? a = some x) → (loadCellsFrom a i ks.length acc).run P w = .ok (acc ++ ⟨vs⟩) w)
  | [], i, acc, K, hC, h => ⟨[], rfl, h, fun w _ => by simp [loadCellsFrom]⟩
  | k :: ks, i, acc, K, hC, h => by
    obtain ⟨x, hx, h⟩ := exK_out h
    obtain ⟨vs, hl, hk, hr⟩ := loadCellsG_run (P := P) (acc := acc.push x) hC h
    refine ⟨x :: vs, by simp [hl], hk, fun w hw => ?_⟩
    simp only [List.length_cons, loadCellsFrom, Sem.run_bind, run_load, hw _ _ hx, Result.andThen_ok]
    rw [hr w hw]
    congr 1
    apply Array.ext'
    simp
theorem loadAgg_run {P : Program} {w : World} {C : Addr → Value → Prop} {a : Addr} {i : TypeInfo} {t : TypeId} {K : Value → Prop} (hC : ∀ a x, C a x → w.cell? a = some x) (hi : P.info? t = some i)
    (hagg : ∀ w, (isAgg t).run P w = .ok true w) (h : loadAgg C a i K) : ∃ v, K v ∧ ∀ w, (∀ a x, C a x → w.cell? a = some x) → (loadVar t a).run P w = .ok v w := by
  unfold loadAgg at h
  split at h
  · rename_i cs hz
    obtain ⟨h1, h⟩ := when_cases h
    have h1 := of_decide_eq_true h1
    obtain ⟨vs, hl, hk, hr⟩ := loadCellsG_run (P := P) (acc := #[]) hC h
    refine ⟨_, hk, fun w hw => ?_⟩
    have := hr w hw
    simp only [List.length_map, h1] at this
    simp [loadVar, hagg, run_sizeOf hi, loadCells, this]
  · exact h.elim
theorem loadG_run {P : Program} {w : World} {C : Addr → Value → Prop} {t : TypeId} {v : Value} {K : Value → Prop} (hC : ∀ a x, C a x → w.cell? a = some x) (h : loadG P C t v K) :
    ∃ u, K u ∧ ∀ w, (∀ a x, C a x → w.cell? a = some x) → (Instr.loadAt t v).run P w = .ok u w := by
  unfold loadG at h
  split at h
  · obtain ⟨a, rfl, h⟩ := ptr_cases h
    split at h
    · rename_i fs i ht hi
      obtain ⟨u, hk, hr⟩ := loadAgg_run hC hi (fun w => by simp [isAgg, run_underlying' ht]) h
      exact ⟨u, hk, fun w hw => by simp [Instr.loadAt, Instr.sureAddr, hr w hw]⟩
    · rename_i n e i ht hi
      obtain ⟨u, hk, hr⟩ := loadAgg_run hC hi (fun w => by simp [isAgg, run_underlying' ht]) h
      exact ⟨u, hk, fun w hw => by simp [Instr.loadAt, Instr.sureAddr, hr w hw]⟩
    · rename_i d i hn1 hn2 ht hi
      split at h
      · rename_i z hz
        obtain ⟨x, hx, hk⟩ := exK_out h
        refine ⟨x, hk, fun w hw => ?_⟩
        have : (isAgg t).run P w = .ok false w := by
          cases d <;> first | (exact (hn1 _ rfl).elim) | (exact (hn2 _ _ rfl).elim) | (simp [isAgg, run_underlying' ht])
        simp [Instr.loadAt, Instr.sureAddr, loadVar, this, hw _ _ hx]
      · exact h.elim
    · exact h.elim
  · exact h.elim
theorem range_mod_eq (zs : List Value) (n : Nat) : (List.range (n * zs.length)).map (fun i => zs.toArray[i % zs.toArray.size]!) = (List.replicate n zs).flatten := by
  induction n with
  | zero => simp
  | succ n ih =>
    rw [Nat.succ_mul, List.range_add, List.map_append, ih, List.replicate_succ', List.flatten_append]
    congr 1
    simp only [List.map_map, List.flatten_cons, List.flatten_nil, List.append_nil]
    apply List.ext_getElem
    · simp
    · intro i h1 h2
      have hi : i < zs.length := h2
      have e : (n * zs.length + i) % zs.length = i := by rw [Nat.add_comm, Nat.add_mul_mod_self_right, Nat.mod_eq_of_lt hi]
      simp [e, hi]
theorem rep_eq (n : Nat) (zs : List Value) : rep n zs = (List.replicate n zs).flatten := by
  unfold rep
  split
  · simp
  · rfl
theorem made_eq (zs : Array Value) (n : Nat) : (Array.range (n * zs.size)).map (fun i => (if n * zs.size = 0 then #[] else zs)[i % (if n * zs.size = 0 then #[] else zs).size]!) = ⟨rep n zs.toList⟩ := by
  have key := range_mod_eq zs.toList n
  simp only [Array.length_toList] at key
  apply Array.ext'
  rw [rep_eq]
  by_cases h : n * zs.size = 0
  · rw [← key]
    simp [h]
  · simp only [if_neg h, Array.toList_map, Array.toList_range]
    rw [← key]
theorem makeV_run {P : Program} {t : TypeId} {l c : Value} {w : World} {K : Value → World → Prop} (h : makeV P t l c w K) :
    ∃ v w', (Instr.makeSlice t l c).run P w = .ok v w' ∧ K v w' := by
  unfold makeV at h
  split at h
  · rename_i e k a k' b ht
    split at h
    · rename_i i hi
      split at h
      · rename_i z hz
        obtain ⟨h1, h3⟩ := when_cases h
        obtain ⟨h2, h4⟩ := when_cases h3
        have h1 := of_decide_eq_true h1
        obtain ⟨b0, b1, b2, b3⟩ := of_decide_eq_true h2
        refine ⟨_, _, ?_, h4⟩
        have wa : IntKind.i64.wrap a = a := Go.IntWalk.i64_in _ (by omega)
        have wb : IntKind.i64.wrap b = b := Go.IntWalk.i64_in _ (by omega)
        have hz1 : z.cells.size = i.size := by rw [← Array.length_toList]; exact h1
        have c1 : ¬ (b < 0) := by omega
        have c2 : ¬ (281474976710656 < (i.bytes : Int) * b) := by omega
        have c3 : ¬ (a < 0) := by omega
        have c4 : ¬ (b < a) := by omega
        have made := made_eq z.cells b.toNat
        rw [hz1] at made
        rw [← made]
        simp only [Instr.makeSlice, Sem.run_bind, run_underlying' ht, Result.andThen_ok, asInt, asIntOf, Sem.run_pure, run_typeInfo hi, wa, wb]
        simp [c1, c2, c3, c4, run_sizeOf hi]
        by_cases h0 : b.toNat * i.size = 0
        · simp [h0, newRow]
        · simp [h0, newRow, zeroValue, run_typeInfo hi, hz]
      · exact h.elim
    · exact h.elim
  · exact h.elim
theorem buildSliceV_run {P : Program} {t : TypeId} {len : Nat} {parts : List (Nat × Value)} {w : World} {K : Value → World → Prop} (h : buildSliceV P t len parts w K) :
    ∃ v w', (Instr.buildSlice t len ⟨parts⟩).run P w = .ok v w' ∧ K v w' := by
  unfold buildSliceV at h
  split at h
  · rename_i e ht
    split at h
    · rename_i i hi
      split at h
      · rename_i z hz
        obtain ⟨h1, h3⟩ := when_cases h
        obtain ⟨b1, b2⟩ := of_decide_eq_true h1
        obtain ⟨cs, hk, hf⟩ := fillW_run h3
        refine ⟨_, _, ?_, hk⟩
        have hz1 : z.cells.size = i.size := by rw [← Array.length_toList]; exact b1
        have made := made_eq z.cells len
        rw [hz1] at made
        rw [← made] at hf
        have c : ¬ (len * i.size > 2 ^ 24) := by omega
        simp only [Instr.buildSlice, Sem.run_bind, run_underlying' ht, Result.andThen_ok, Sem.run_pure, run_sizeOf hi, if_neg c]
        by_cases h0 : len * i.size = 0
        · simp only [h0, if_true] at hf ⊢
          simp only [Sem.run_bind, Sem.run_pure, Result.andThen_ok]
          rw [hf]
          simp [newRow]
        · simp only [h0, if_false] at hf ⊢
          simp only [zeroValue, Sem.run_bind, run_typeInfo hi, Result.andThen_ok, hz, Sem.run_pure]
          rw [hf]
          simp [newRow]
      · exact h.elim
    · exact h.elim
  · exact h.elim

theorem run_callFunc {P : Program} {f : FuncId} (h : hasB P f = true) (args : Array Value) (w : World) : (callFunc f args).run P w = .ok (.enter f args) w := by
  unfold hasB at h
  split at h
  · rename_i fn hf
    simp only [Bool.and_eq_true, Bool.not_eq_true'] at h
    have h1 : fn.name ≠ "runtime.NumGoroutine" := by simpa using h.2
    have h2 : fn.body.isNone = false := by cases hb : fn.body <;> simp_all
    have h3 : fn.body ≠ none := by intro e; simp [e] at h2
    simp [callFunc, hf, h1, h3]
  · cases h

/-- What an operation comes to. -/
def outc (P : Program) (K : Value → World → Prop) : Result Next → Prop
  | .ok (.value v) w' => K v w'
  | .ok .skip w' => K undef w'
  | .ok (.enter f args) w' => Calls P f args w' fun e w'' => ∃ v, e = .returned v ∧ K v w''
  | _ => False
theorem opV_out {P : Program} {fr : List Value} {w : World} {o : Oper} {K : Value → World → Prop}
    (h : opV P fr w o K) : outc P K ((execOp (ev fr) o).run P w) := by
  have margs : ∀ (xs : Array Operand), (⟨xs.toList.map (ev fr)⟩ : Array Value) = xs.map (ev fr) := fun xs => by
    apply Array.ext'; simp
  have val : ∀ {v w'}, (execOp (ev fr) o).run P w = .ok (.value v) w' → K v w' → outc P K ((execOp (ev fr) o).run P w) := fun {v w'} hr hv => by
    rw [hr]
    exact hv
  have skp : ∀ {w'}, (execOp (ev fr) o).run P w = .ok .skip w' → K undef w' → outc P K ((execOp (ev fr) o).run P w) := fun {w'} hr hv => by
    rw [hr]
    exact hv
  have pur : opW P fr o (fun v => K v w) → outc P K ((execOp (ev fr) o).run P w) := fun h => by
    obtain ⟨v, hv, hr⟩ := opW_run h
    exact val (hr w) hv
  have rk : ∀ {s : Sem Value} {t : TypeId}, (∀ v w', s.run P w = .ok v w' → (execOp (ev fr) o).run P w = .ok (.value v) w') → runK P s w t K → outc P K ((execOp (ev fr) o).run P w) := fun hs h => by
    obtain ⟨v, w', hr, hv⟩ := exR_out h
    exact val (hs _ _ hr) hv
  obtain ⟨dst, op, type, pos, after, guard⟩ := o
  have lift : ∀ {s : Sem Value} {v : Value} {w' : World}, s.run P w = .ok v w' → ((do pure (.value (← s)) : Sem Next)).run P w = .ok (.value v) w' := fun hr => by simp [hr]
  have liftU : ∀ {s : Sem Unit} {w' : World}, s.run P w = .ok () w' → ((do s; pure .skip : Sem Next)).run P w = .ok .skip w' := fun hr => by simp [hr]
  cases op <;> simp only [opV] at h <;> first | exact pur h | skip
  case alloc e => obtain ⟨v, w', hr, hv⟩ := semV_run h; exact val (lift hr) hv
  case box e x => obtain ⟨v, w', hr, hv⟩ := semV_run h; exact val (lift hr) hv
  case makeMap t r => obtain ⟨v, w', hr, hv⟩ := semV_run h; exact val (lift hr) hv
  case makeSlice t l c => obtain ⟨v, w', hr, hv⟩ := makeV_run h; exact val (lift hr) hv
  case buildSlice t n ps =>
    obtain ⟨v, w', hr, hv⟩ := buildSliceV_run h
    have e : (⟨ps.toList.map fun p => (p.1, ev fr p.2)⟩ : Array (Nat × Value)) = ps.map fun (i, x) => (i, ev fr x) := by
      apply Array.ext'; simp
    rw [e] at hr
    exact val (lift hr) hv
  case load t a =>
    obtain ⟨v, hv, hr⟩ := loadG_run (w := w) (fun _ _ h => h) h
    exact val (lift (hr w (fun _ _ h => h))) hv
  case store t a x =>
    split at h
    · rename_i p hp
      obtain ⟨ad, rfl, h⟩ := ptr_cases h
      obtain ⟨v, w', hr, hv⟩ := semV_run h
      rw [← hp] at hr
      exact skp (liftU hr) hv
    · exact h.elim
  case lookup t m k ok => exact rk (fun v w' hr => lift hr) h
  case mapEntry t m k => exact rk (fun v w' hr => lift hr) h
  case range t x => obtain ⟨p, w', hr, hv⟩ := h; exact val (lift hr) hv
  case next it b =>
    rcases h with ⟨w', hr, hv⟩ | ⟨k, v, w', hr, hv⟩
    · exact val (lift hr) hv
    · exact val (lift hr) hv
  case entry it => obtain ⟨k, v, w', hr, hv⟩ := h; exact val (lift hr) hv
  case convert sT dT x =>
    split at h
    · rename_i A n c hx
      exact rk (fun v w' hr => by rw [← hx] at hr; exact lift hr) h
    · exact pur h
  case mapUpdate t m k x => obtain ⟨w', hr, hv⟩ := h; exact skp (liftU hr) hv
  case insert t m k x => obtain ⟨w', hr, hv⟩ := h; exact skp (liftU hr) hv
  case entryStore t m k x => obtain ⟨w', hr, hv⟩ := h; exact skp (liftU hr) hv
  case call c =>
    obtain ⟨callee, args, ats⟩ := c
    simp only at h
    split at h
    · rename_i f
      split at h
      · rename_i n first cap hv
        obtain ⟨h1, h⟩ := when_cases h
        have e : (execOp (ev fr) ⟨dst, .call ⟨.value f, args, ats⟩, type, pos, after, guard⟩).run P w = .ok (.enter n ((⟨first.toList ++ args.toList.map (ev fr) ++ cap.toList⟩ : Array Value))) w := by
          have e2 : (⟨first.toList ++ args.toList.map (ev fr) ++ cap.toList⟩ : Array Value) = first ++ args.map (ev fr) ++ cap := by
            apply Array.ext'; simp
          rw [e2]
          simp [execOp, resolve, invoke, hv, Deferred.ofValue, run_callFunc h1]
        rw [e]
        refine Calls.mono h fun e w' he => ?_
        obtain ⟨v, rfl, hv⟩ := exR_out he
        exact ⟨v, rfl, hv⟩
      · exact h.elim
    · rw [margs] at h; exact rk (fun v w' hr => by simp [execOp, resolve, invoke, builtin, hr]) h
    · rw [margs] at h; exact rk (fun v w' hr => by simp [execOp, resolve, invoke, builtin, hr]) h
    · rw [margs] at h; exact rk (fun v w' hr => by simp [execOp, resolve, invoke, builtin, hr]) h
    · rw [margs] at h; exact rk (fun v w' hr => by simp [execOp, resolve, invoke, builtin, hr]) h
    · split at h
      · rename_i r hr'
        have hr' : (⟨args.toList.map (ev fr)⟩ : Array Value) = #[.map r] := by rw [hr']
        rw [← hr', margs] at h
        exact rk (fun v w' hr => by simp [execOp, resolve, invoke, builtin, hr]) h
      · exact pur h
    · exact pur h
theorem opV_wp {P : Program} {fr : List Value} {w : World} {o : Oper} {K : Value → World → Prop} {next : Act → World → Prop} {Q : Exit → Act → World → Prop}
    (h : opV P fr w o K) (hk : ∀ v w', K v w' → next (act (putO fr o.dst v)) w') : o.wp P (act fr) w next Q := by
  have h := opV_out h
  unfold Oper.wp
  rw [act_eval]
  generalize (execOp (ev fr) o).run P w = r at h
  cases r with
  | ok n w' =>
    cases n <;> simp only [outc] at h
    case value v => rw [Oper.upon_value, act_put]; exact hk _ _ h
    case skip => rw [Oper.upon_skip, act_put]; exact hk _ _ h
    case enter f args =>
      rw [Oper.upon_enter]
      refine Calls.mono h fun e w' he => ?_
      obtain ⟨v, rfl, hv⟩ := he
      show next _ _
      rw [act_put]
      exact hk _ _ hv
  | halt x w' => exact h.elim

/-! ### which slots a piece of code may write -/
def memB : List Nat → Nat → Bool
  | [], _ => false
  | x :: xs, n => Nat.beq x n || memB xs n
def agree (A : List Nat) (fr fr' : List Value) : Prop := fr.length = fr'.length ∧ ∀ i, memB A i = false → nth fr i = nth fr' i

theorem agree_refl (A : List Nat) (fr : List Value) : agree A fr fr := ⟨rfl, fun _ _ => rfl⟩
theorem agree_trans {A : List Nat} {a b c : List Value} (h : agree A a b) (k : agree A b c) : agree A a c :=
  ⟨h.1.trans k.1, fun i hi => (h.2 i hi).trans (k.2 i hi)⟩
theorem memB_append (A B : List Nat) (i : Nat) : memB (A ++ B) i = (memB A i || memB B i) := by
  induction A with
  | nil => simp [memB]
  | cons x xs ih => simp [memB, ih, Bool.or_assoc]
theorem agree_left {A B : List Nat} {a b : List Value} (h : agree A a b) : agree (A ++ B) a b :=
  ⟨h.1, fun i hi => h.2 i (by rw [memB_append] at hi; cases hA : memB A i <;> simp_all)⟩
theorem agree_right {A B : List Nat} {a b : List Value} (h : agree B a b) : agree (A ++ B) a b :=
  ⟨h.1, fun i hi => h.2 i (by rw [memB_append] at hi; cases hA : memB A i <;> simp_all)⟩
theorem put_length (fr : List Value) (d : Nat) (v : Value) : (put fr d v).length = fr.length := by simp [put_eq]
theorem nth_put_ne {fr : List Value} {d i : Nat} {v : Value} (h : d ≠ i) : nth (put fr d v) i = nth fr i := by
  simp [nth_eq, put_eq, List.getD_eq_getElem?_getD, List.getElem?_set_ne h]
theorem put_nth_self (fr : List Value) (d : Nat) : put fr d (nth fr d) = fr := by
  rw [put_eq, nth_eq]
  apply List.ext_getElem?
  intro i
  by_cases h : d = i
  · subst h
    rcases Nat.lt_or_ge d fr.length with h' | h'
    · simp [h']
    · simp [h']
  · simp [List.getElem?_set_ne h]
def asgO : List Oper → List Nat
  | [] => []
  | o :: os => (match o.dst with | some d => d :: asgO os | none => asgO os)
def asg : Code → List Nat
  | .region _ ops _ => asgO ops.toList
  | .seq a b => asg a ++ asg b
  | .cond _ a b => asg a ++ asg b
  | .block _ c => asg c
  | .loop c => asg c
  | .scope c => asg c
  | _ => []
theorem memB_asgO {o : Oper} {d : Nat} (hd : o.dst = some d) : ∀ {ops : List Oper}, o ∈ ops → memB (asgO ops) d = true
  | x :: xs, ho => by
    rcases List.mem_cons.1 ho with rfl | ho
    · simp [asgO, hd, memB]
    · have := memB_asgO hd ho
      cases hx : x.dst <;> simp [asgO, hx, memB, this]
theorem agree_putO {ops : List Oper} {o : Oper} (ho : o ∈ ops) (fr : List Value) (v : Value) : agree (asgO ops) fr (putO fr o.dst v) := by
  cases hd : o.dst with
  | none => exact agree_refl _ _
  | some d =>
    refine ⟨(put_length fr d v).symm, fun i hi => ?_⟩
    have : d ≠ i := fun e => by
      subst e
      rw [memB_asgO hd ho] at hi
      cases hi
    exact (nth_put_ne this).symm

/-! ### regions -/
def gd (ops : Array Oper) (o : Oper) (fr : List Value) (A B : Prop) : Prop :=
  match o.guard with
  | none => A
  | some (j, want) => (match nthO ops.toList j with
    | some oj => (match oj.dst with
      | some d => (match nth fr d with
        | .bool b => (match want with | true => sel b A B | false => sel b B A)
        | _ => B)
      | none => B)
    | none => B)
theorem nth_out {fr : List Value} {d : Nat} : (⟨fr⟩ : Array Value)[d]? = none ∨ (⟨fr⟩ : Array Value)[d]? = some (nth fr d) := by
  rw [nth_eq]
  cases h : fr[d]? with
  | none => left; simpa using h
  | some v => right; simp [List.getD_eq_getElem?_getD, h]
theorem nth_in {fr : List Value} {d : Nat} {b : Bool} (h : nth fr d = .bool b) : (⟨fr⟩ : Array Value)[d]? = some (.bool b) := by
  rcases nth_out (fr := fr) (d := d) with e | e
  · rw [nth_eq] at h
    have : fr[d]? = none := by simpa using e
    simp [List.getD_eq_getElem?_getD, this, undef] at h
  · rw [e, h]
theorem gd_cases {ops : Array Oper} {o : Oper} {fr : List Value} {A B : Prop} (h : gd ops o fr A B) :
    (Region.wanted o (yielded ops (act fr).tmps) = true ∧ A) ∨ (Region.wanted o (yielded ops (act fr).tmps) = false ∧ B) := by
  unfold gd at h
  unfold Region.wanted
  split at h
  · rename_i hg; exact .inl ⟨by simp [hg], h⟩
  · rename_i j want hg
    simp only [hg]
    split at h
    · rename_i oj hj
      rw [nthO_eq, Array.getElem?_toList] at hj
      split at h
      · rename_i d hd
        split at h
        · rename_i b hb
          have hy : yielded ops (act fr).tmps j = some b := by
            simp only [yielded, hj, Option.bind_some, hd]
            rw [nth_in hb]
          rw [hy]
          cases want with
          | true =>
            rcases sel_cases h with ⟨rfl, h'⟩ | ⟨rfl, h'⟩
            · exact .inl ⟨rfl, h'⟩
            · exact .inr ⟨rfl, h'⟩
          | false =>
            rcases sel_cases h with ⟨rfl, h'⟩ | ⟨rfl, h'⟩
            · exact .inr ⟨rfl, h'⟩
            · exact .inl ⟨rfl, h'⟩
        · rename_i hnb
          refine .inr ⟨?_, h⟩
          have hy : yielded ops (act fr).tmps j = none := by
            simp only [yielded, hj, Option.bind_some, hd]
            rcases nth_out (fr := fr) (d := d) with e | e <;> rw [e]
            split
            · rename_i b hb; exact (hnb b (Option.some.inj hb)).elim
            · rfl
          simp [hy]
      · rename_i hd; exact .inr ⟨by simp [yielded, hj, hd], h⟩
    · rename_i hj
      rw [nthO_eq, Array.getElem?_toList] at hj
      exact .inr ⟨by simp [yielded, hj], h⟩

/-- A bool on which a later operation's guard hangs is parted where it comes up. -/
def guardsB (i : Nat) : List Oper → Bool
  | [] => false
  | o :: os => (match o.guard with | some (j, _) => Nat.beq j i | none => false) || guardsB i os
def spl (g : Bool) (v : Value) (k : Value → Prop) : Prop :=
  match g, v with
  | true, .bool b => sel b (k (.bool true)) (k (.bool false))
  | _, v => k v
theorem spl_out {g : Bool} {v : Value} {k : Value → Prop} (h : spl g v k) : k v := by
  unfold spl at h
  split at h
  · rcases sel_cases h with ⟨rfl, h⟩ | ⟨rfl, h⟩ <;> exact h
  · exact h
def opsV (P : Program) (ops : Array Oper) : Nat → List Oper → List Value → World → (List Value → World → Prop) → Prop
  | _, [], fr, w, K => K fr w
  | i, o :: rest, fr, w, K => force fr fun fr =>
      gd ops o fr (opV P fr w o fun v w' => spl (guardsB i rest) v fun v => opsV P ops (i + 1) rest (putO fr o.dst v) w' K) (opsV P ops (i + 1) rest (putO fr o.dst undef) w K)
theorem opsV_wp {P : Program} {ops : Array Oper} {Q : Exit → Act → World → Prop} {A : List Nat} : ∀ {l : List Oper} {i : Nat} {fr : List Value} {w : World} {K : List Value → World → Prop},
    (∀ o ∈ l, ∀ fr v, agree A fr (putO fr o.dst v)) →
    opsV P ops i l fr w K → (∀ fr' w, agree A fr fr' → K fr' w → Q .normal (act fr') w) → wpList P ops Q l (act fr) w
  | [], i, fr, w, K, hl, h, hk => hk _ _ (agree_refl _ _) h
  | o :: rest, i, fr, w, K, hl, h, hk => by
    unfold opsV at h
    rw [force_eq] at h
    unfold wpList
    have hp := hl o (by simp) fr
    have hl' : ∀ o ∈ rest, ∀ fr v, agree A fr (putO fr o.dst v) := fun o ho => hl o (by simp [ho])
    rcases gd_cases h with ⟨hw, h⟩ | ⟨hw, h⟩
    · rw [if_pos hw]
      exact .inl (opV_wp h fun v w' h => opsV_wp hl' (spl_out h) fun fr' w ha => hk fr' w (agree_trans (hp v) ha))
    · rw [if_neg (by simp [hw]), act_put]
      exact opsV_wp hl' h fun fr' w ha => hk fr' w (agree_trans (hp _) ha)

/-! ### regions that draw their order: an order that takes loads and arithmetic first -/
def firstB (o : Oper) : Bool :=
  match o.op with
  | .move _ => true | .assign _ => true | .pick .. => true | .nilCheck _ => true | .binOp .. => true | .unOp .. => true | .convert .. => true
  | .makeFunc .. => true | .slice .. => true | .fieldAddr .. => true | .field .. => true | .indexAddr .. => true | .index .. => true | .extract .. => true
  | .build .. => true | .load .. => true
  | .call c => (match c.callee with | .builtin .len => true | .builtin .cap => true | .builtin .min => true | .builtin .max => true | _ => false)
  | _ => false
def waitsB (ops : Array Oper) (j i : Nat) : Bool :=
  match nthO ops.toList j with
  | some oj => oj.after.toList.any fun e => Region.binds .any e && Nat.beq e.on i
  | none => false
def sinkFrom (ops : Array Oper) (j : Nat) : Nat → List Oper → Bool
  | _, [] => true
  | i, o :: os => (match firstB o with | true => Nat.beq i j || waitsB ops j i | false => true) && sinkFrom ops j (i + 1) os
def sinkB (ops : Array Oper) (j : Nat) : Bool := sinkFrom ops j 0 ops.toList
theorem waitsB_spec {ops : Array Oper} {j i : Nat} (h : waitsB ops j i = true) : ∃ oj, ops[j]? = some oj ∧ ∃ e ∈ oj.after, Region.binds .any e = true ∧ e.on = i := by
  unfold waitsB at h
  split at h
  · rename_i oj hj
    rw [nthO_eq, Array.getElem?_toList] at hj
    obtain ⟨e, he, hb⟩ := List.any_eq_true.1 h
    simp only [Bool.and_eq_true] at hb
    exact ⟨oj, hj, e, Array.mem_toList_iff.1 he, hb.1, Nat.eq_of_beq_eq_true hb.2⟩
  · cases h
theorem sinkFrom_spec {ops : Array Oper} {j : Nat} : ∀ {l : List Oper} {i : Nat}, sinkFrom ops j i l = true → ∀ k o, l[k]? = some o → firstB o = true → i + k ≠ j → waitsB ops j (i + k) = true
  | [], i, h, k, o, hk, hf, hne => by simp at hk
  | o :: os, i, h, k, o', hk, hf, hne => by
    simp only [sinkFrom, Bool.and_eq_true] at h
    cases k with
    | zero =>
      simp at hk; subst hk
      have h1 := h.1
      rw [hf] at h1
      simp only [Bool.or_eq_true] at h1
      rcases h1 with h1 | h1
      · exact absurd (Nat.eq_of_beq_eq_true h1) (by simpa using hne)
      · simpa using h1
    | succ k =>
      have := sinkFrom_spec h.2 k o' (by simpa using hk) hf (by omega)
      rwa [show i + 1 + k = i + (k + 1) by omega] at this
theorem sinkB_spec {ops : Array Oper} {j i : Nat} {oi : Oper} (h : sinkB ops j = true) (hi : ops[i]? = some oi) (hf : firstB oi = true) (hne : i ≠ j) :
    ∃ oj, ops[j]? = some oj ∧ ∃ e ∈ oj.after, Region.binds .any e = true ∧ e.on = i := by
  have := sinkFrom_spec h i oi (by simpa using hi) hf (by omega)
  rw [Nat.zero_add] at this
  exact waitsB_spec this

section
variable {P : Program} {ops : Array Oper} {Q : Exit → Act → World → Prop} {S : World → Prop}
def wpAnyG (P : Program) (ops : Array Oper) (Q : Exit → Act → World → Prop) (S : World → Prop) : Nat → Array Bool → Act → World → Prop
  | 0, listed, a, w => Region.ready .any ops listed = [] ∧ Q .normal a w
  | fuel + 1, listed, a, w =>
    (Region.ready .any ops listed = [] → Q .normal a w) ∧
    ∀ i ∈ Region.ready .any ops listed, wpOp P ops Q i (fun a' w' => (sinkB ops i = false → S w → S w') ∧ wpAnyG P ops Q S fuel (listed.setIfInBounds i true) a' w') a w
theorem wpAny_of_G : ∀ (fuel : Nat) (listed : Array Bool) (a : Act) (w : World), wpAnyG P ops Q S fuel listed a w → wpAny P .any ops Q fuel listed a w
  | 0, _, _, _, h => h
  | fuel + 1, _, _, _, h => ⟨h.1, fun i hi => wpOp_mono (fun a' w' h' => wpAny_of_G fuel _ a' w' h'.2) (h.2 i hi)⟩
theorem wpAnyG_first {i : Nat} {oi : Oper} {v : Value} (hi : ops[i]? = some oi) (hfst : firstB oi = true) (hsel : ∀ (j : Nat) (o : Oper) cs b, ops[j]? = some o → o.op ≠ .select cs b)
    (hQ : ∀ c a w, Q (.panic c) (a.put oi.dst v) w → Q (.panic c) a w) :
    ∀ (fuel : Nat) (listed : Array Bool) (a : Act) (w : World),
      (∀ j oj, ops[j]? = some oj → j ≠ i → listed.getD j true = false → (∀ e ∈ oj.after, Region.binds .any e = true → e.on ≠ i) → oi.apart ops oj = true) →
      i ∈ Region.ready .any ops listed → YieldsIf P ops S oi v a → S w →
      wpAnyG P ops Q S fuel (listed.setIfInBounds i true) (a.put oi.dst v) w → wpAnyG P ops Q S (fuel + 1) listed a w := by
  intro fuel
  induction fuel with
  | zero =>
    intro listed a w _ hr hy hS H
    refine ⟨fun h => (by rw [h] at hr; cases hr), fun j hj => ?_⟩
    by_cases hji : j = i
    · subst hji; exact hy.wpOp hi hS ⟨fun _ h => h, H⟩
    · have := ready_mono hj hji
      rw [H.1] at this
      cases this
  | succ fuel ih =>
    intro listed a w hfree hr hy hS H
    refine ⟨fun h => (by rw [h] at hr; cases hr), fun j hj => ?_⟩
    by_cases hji : j = i
    · subst hji; exact hy.wpOp hi hS ⟨fun _ h => h, H⟩
    · have h1 := H.2 j (ready_mono hj hji)
      obtain ⟨hjun, oj, hoj, hall⟩ := mem_ready.1 hj
      have hnot : ∀ e ∈ oj.after, Region.binds .any e = true → e.on ≠ i := fun e he hb heq => by
        have h1 := hall e he hb
        have h0 := (mem_ready.1 hr).1
        rw [heq] at h1
        rcases Nat.lt_or_ge i listed.size with h' | h'
        · simp [h'] at h0 h1; rw [h0] at h1; cases h1
        · simp [Array.getElem?_eq_none h'] at h1
      have hns : sinkB ops j = false := by
        cases hs : sinkB ops j with
        | false => rfl
        | true =>
          obtain ⟨oj', hoj', e, he, hb, hon⟩ := sinkB_spec hs hi hfst (Ne.symm hji)
          rw [hoj] at hoj'
          cases hoj'
          exact absurd hon (hnot e he hb)
      have h2 := wpOp_putIf hoj (hfree j oj hoj hji hjun hnot) (fun cs b => hsel i oi cs b hi) (fun cs b => hsel j oj cs b hoj) hQ hy h1
      have hfree' : ∀ k ok, ops[k]? = some ok → k ≠ i → (listed.setIfInBounds j true).getD k true = false →
          (∀ e ∈ ok.after, Region.binds .any e = true → e.on ≠ i) → oi.apart ops ok = true := fun k ok hk hki hun hno => by
        refine hfree k ok hk hki ?_ hno
        by_cases hjk : j = k
        · subst hjk; exact hjun
        · rw [getD_set_ne true hjk] at hun; exact hun
      refine wpOp_mono (fun a' w' h3 => ⟨h3.2.1, ih (listed.setIfInBounds j true) a' w' hfree' (ready_mono hr (Ne.symm hji)) h3.1 (h3.2.1 hns hS) ?_⟩) h2
      rw [Array.setIfInBounds_comm _ _ hji]
      exact h3.2.2
end

/-- The order is one that may be gone: each step is one that may be taken first, or the only one that may come up. -/
def orderOK (ops : Array Oper) : List Nat → Array Bool → Bool
  | [], listed => (Region.ready .any ops listed).isEmpty
  | i :: rest, listed => (match nthO ops.toList i with
    | some o => (match firstB o with
      | true => Region.free .any ops listed i && (Region.ready .any ops listed).contains i
      | false => (match Region.ready .any ops listed with | [j] => Nat.beq j i | _ => false))
    | none => false) && orderOK ops rest (listed.setIfInBounds i true)
def planOK (P : Program) (ops : Array Oper) (order : List Nat) : Bool :=
  P.follows .mixedOrders && Region.noSelect ops && Nat.beq order.length ops.size && orderOK ops order (Array.replicate ops.size false)
def allSink (ops : Array Oper) : Nat → List Oper → Bool
  | _, [] => true
  | i, o :: os => (match firstB o with | true => true | false => sinkB ops i) && allSink ops (i + 1) os
def firstV (P : Program) (C : Addr → Value → Prop) (fr : List Value) (o : Oper) (K : Value → Prop) : Prop :=
  match o.op with
  | .load t a => loadG P C t (ev fr a) K
  | _ => opW P fr o K
def heldV (P : Program) (ops : Array Oper) (C : Addr → Value → Prop) (S : World → Prop) : List Nat → List Value → World → (List Value → World → Prop) → Prop
  | [], fr, w, K => K fr w
  | i :: rest, fr, w, K => (match nthO ops.toList i with
    | some o => force fr fun fr => gd ops o fr
        (match firstB o with
          | true => firstV P C fr o fun v => spl (guardsB i ops.toList) v fun v => heldV P ops C S rest (putO fr o.dst v) w K
          | false => opV P fr w o fun v w' => (match sinkB ops i with
            | true => spl (guardsB i ops.toList) v fun v => heldV P ops C S rest (putO fr o.dst v) w' K
            | false => S w' ∧ spl (guardsB i ops.toList) v fun v => heldV P ops C S rest (putO fr o.dst v) w' K))
        (heldV P ops C S rest (putO fr o.dst undef) w K)
    | none => False)
def drawnV (P : Program) (ops : Array Oper) (order : List Nat) (fr : List Value) (w : World) (K : List Value → World → Prop) : Prop :=
  when (planOK P ops order) (match allSink ops 0 ops.toList with
    | true => heldV P ops (fun a x => w.cell? a = some x) (fun _ => False) order fr w.drew K
    | false => ∃ S : World → Prop, S w.drew ∧ heldV P ops (fun a x => ∀ w', S w' → w'.cell? a = some x) S order fr w.drew K)

theorem firstV_run {P : Program} {C : Addr → Value → Prop} {fr : List Value} {o : Oper} {K : Value → Prop} {w0 : World} (h0 : ∀ a x, C a x → w0.cell? a = some x) (h : firstV P C fr o K) :
    ∃ v, K v ∧ ∀ w, (∀ a x, C a x → w.cell? a = some x) → (execOp (ev fr) o).run P w = .ok (.value v) w := by
  unfold firstV at h
  split at h
  · rename_i t a ho
    obtain ⟨v, hv, hr⟩ := loadG_run h0 h
    exact ⟨v, hv, fun w hw => by simp [execOp, ho, hr w hw]⟩
  · obtain ⟨v, hv, hr⟩ := opW_run h
    exact ⟨v, hv, fun w _ => hr w⟩
theorem getD_set_true' {l : Array Bool} {i k : Nat} (h : l.getD k true = true) : (l.setIfInBounds i true).getD k true = true := by
  by_cases e : i = k
  · subst e
    rcases Nat.lt_or_ge i l.size with h' | h'
    · simp [h']
    · simp [Nat.not_lt.2 h']
  · rw [getD_set_ne true e]; exact h
theorem heldV_any {P : Program} {ops : Array Oper} {C : Addr → Value → Prop} {S S' : World → Prop} {Q : Exit → Act → World → Prop}
    (hC : ∀ w, S' w → ∀ a x, C a x → w.cell? a = some x) (hS : ∀ w, S w → S' w) (hsel : Region.noSelect ops = true)
    (hQ : ∀ c a w d v, Q (.panic c) (a.put d v) w → Q (.panic c) a w) {K : List Value → World → Prop} :
    ∀ (order : List Nat) (listed : Array Bool) (fr : List Value) (w : World), orderOK ops order listed = true →
      (S' w ∨ ∀ (i : Nat) (o : Oper), ops[i]? = some o → firstB o = true → listed.getD i true = true) →
      (∀ fr' w, agree (asgO ops.toList) fr fr' → K fr' w → Q .normal (act fr') w) →
      heldV P ops C S order fr w K → wpAnyG P ops Q S' order.length listed (act fr) w := by
  intro order
  induction order with
  | nil =>
    intro listed fr w hok hst hk h
    exact ⟨by simpa [orderOK] using hok, hk _ _ (agree_refl _ _) h⟩
  | cons i rest ih =>
    intro listed fr w hok hst hk h
    simp only [orderOK, Bool.and_eq_true] at hok
    obtain ⟨hok1, hok2⟩ := hok
    simp only [heldV] at h
    split at h
    rotate_left
    · exact h.elim
    rename_i o ho
    simp only [ho] at hok1
    have hoi : ops[i]? = some o := by rw [nthO_eq, Array.getElem?_toList] at ho; exact ho
    have hk' : ∀ v fr' w, agree (asgO ops.toList) (putO fr o.dst v) fr' → K fr' w → Q .normal (act fr') w := fun v fr' w ha =>
      hk fr' w (agree_trans (agree_putO (Array.mem_toList_iff.2 (Array.mem_of_getElem? hoi)) fr v) ha)
    rw [force_eq] at h
    cases hf : firstB o with
    | true =>
      simp only [hf, Bool.and_eq_true] at hok1 h
      have hmem : i ∈ Region.ready .any ops listed := by simpa using hok1.2
      have hw : S' w := by
        rcases hst with hst | hst
        · exact hst
        · have := hst i o hoi hf
          rw [(mem_ready.1 hmem).1] at this
          cases this
      have next : ∀ v, YieldsIf P ops S' o v (act fr) → heldV P ops C S rest (putO fr o.dst v) w K → wpAnyG P ops Q S' (rest.length + 1) listed (act fr) w := fun v hy hh => by
        refine wpAnyG_first hoi hf (Region.noSelect_spec hsel) (fun c a w => hQ c a w _ _) rest.length listed (act fr) w (Region.free_spec hoi hok1.1) hmem hy hw ?_
        rw [act_put]
        exact ih _ _ _ hok2 (.inl hw) (hk' _) hh
      rcases gd_cases h with ⟨hwt, h⟩ | ⟨hwt, h⟩
      · obtain ⟨v, hv, hr⟩ := firstV_run (hC w hw) h
        exact next v (.inl ⟨hwt, fun w' hw' => by rw [act_eval]; exact hr w' (hC w' hw')⟩) (spl_out hv)
      · exact next undef (.inr ⟨hwt, rfl⟩) h
    | false =>
      simp only [hf] at hok1 h
      have hready : Region.ready .any ops listed = [i] := by
        revert hok1
        cases Region.ready .any ops listed with
        | nil => intro h; cases h
        | cons x xs =>
          cases xs with
          | nil => intro h; have := Nat.eq_of_beq_eq_true h; rw [this]
          | cons _ _ => intro h; cases h
      have hmem : i ∈ Region.ready .any ops listed := by rw [hready]; simp
      refine ⟨fun h0 => (by rw [hready] at h0; cases h0), fun j hj => ?_⟩
      rw [hready] at hj
      obtain rfl : j = i := by simpa using hj
      have hsink : sinkB ops j = true → ∀ (k : Nat) (ok : Oper), ops[k]? = some ok → firstB ok = true → (listed.setIfInBounds j true).getD k true = true := fun hs k ok hk' hfk => by
        have hkj : k ≠ j := fun e => by subst e; rw [hoi] at hk'; cases hk'; rw [hf] at hfk; cases hfk
        obtain ⟨oj, hoj, e, he, hb, hon⟩ := sinkB_spec hs hk' hfk hkj
        rw [hoi] at hoj; cases hoj
        obtain ⟨_, oj, hoj, hall⟩ := mem_ready.1 hmem
        rw [hoi] at hoj; cases hoj
        have h1 := hall e he hb
        rw [hon] at h1
        refine getD_set_true' ?_
        rcases Nat.lt_or_ge k listed.size with h' | h'
        · simp [h'] at h1 ⊢; exact h1
        · simp [Nat.not_lt.2 h']
      have hkeep : (∀ (k : Nat) (ok : Oper), ops[k]? = some ok → firstB ok = true → listed.getD k true = true) → ∀ (k : Nat) (ok : Oper), ops[k]? = some ok → firstB ok = true → (listed.setIfInBounds j true).getD k true = true :=
        fun hh k ok hk' hfk => getD_set_true' (hh k ok hk' hfk)
      unfold wpOp
      simp only [hoi]
      rcases gd_cases h with ⟨hwt, h⟩ | ⟨hwt, h⟩
      · rw [if_pos hwt]
        refine .inl (opV_wp h fun v w' h => ?_)
        cases hs : sinkB ops j with
        | true =>
          simp only [hs] at h
          exact ⟨fun e => absurd e (by simp), ih _ _ _ hok2 (.inr (hsink hs)) (hk' _) (spl_out h)⟩
        | false =>
          simp only [hs] at h
          exact ⟨fun _ _ => hS _ h.1, ih _ _ _ hok2 (.inl (hS _ h.1)) (hk' _) (spl_out h.2)⟩
      · rw [if_neg (by simp [hwt]), act_put]
        refine ⟨fun _ h => h, ih _ _ _ hok2 ?_ (hk' _) h⟩
        rcases hst with hst | hst
        · exact .inl hst
        · exact .inr (hkeep hst)
theorem drawnV_wp {P : Program} {ops : Array Oper} {order : List Nat} {fr : List Value} {w : World} {K : List Value → World → Prop} {Q : Exit → Act → World → Prop} {id : Nat}
    (h : drawnV P ops order fr w K) (hQ : ∀ c a w d v, Q (.panic c) (a.put d v) w → Q (.panic c) a w) (hk : ∀ fr' w, agree (asgO ops.toList) fr fr' → K fr' w → Q .normal (act fr') w) :
    (Code.region id ops true).wp P Q (act fr) w := by
  unfold drawnV at h
  obtain ⟨h1, h⟩ := when_cases h
  simp only [planOK, Bool.and_eq_true] at h1
  obtain ⟨⟨⟨hm, hsel⟩, hlen⟩, hok⟩ := h1
  have hlen := Nat.eq_of_beq_eq_true hlen
  refine wp_region_any hm ?_
  split at h
  · have := heldV_any (P := P) (S' := fun w' => w' = w.drew) (by rintro w' rfl a x hx; exact hx) (fun _ h => h.elim) hsel hQ order _ fr w.drew hok (.inl rfl) hk h
    rw [hlen] at this
    exact wpAny_of_G (S := fun w' => w' = w.drew) _ _ _ _ this
  · obtain ⟨S, hS, h⟩ := h
    have := heldV_any (P := P) (S' := S) (fun w' hw' a x hx => hx w' hw') (fun _ h => h) hsel hQ order _ fr w.drew hok (.inl hS) hk h
    rw [hlen] at this
    exact wpAny_of_G (S := S) _ _ _ _ this

/-! ### loops -/
def FnK : Kind → Type → Type
  | .bool, R => Bool → R
  | .int _, R => Int → R
  | .str, R => ByteArray → R
  | .ptr, R => Option Addr → R
  | .slice, R => Option Addr → Nat → Nat → R
  | .map, R => Option Nat → R
  | .fn, R => FuncId → Array Value → Array Value → R
  | .any, R => Value → R
def FnKs : List Kind → Type → Type
  | [], R => R
  | k :: ks, R => FnK k (FnKs ks R)
def apK {R : Type} : (k : Kind) → FnK k R → Value → (R → Prop) → Prop
  | .bool, f, .bool b, K => K (f b)
  | .int k, f, .int k' n, K => when (decide (k = k')) (K (f n))
  | .str, f, .string s, K => K (f s)
  | .ptr, f, .pointer p, K => K (f p)
  | .slice, f, .slice A n c, K => K (f A n c)
  | .map, f, .map r, K => K (f r)
  | .fn, f, .func (.func n) a c, K => K (f n a c)
  | .any, f, v, K => K (f v)
  | _, _, _, _ => False
def apKs {R : Type} : (ks : List Kind) → FnKs ks R → List Value → (R → Prop) → Prop
  | [], f, _, K => K f
  | k :: ks, f, v :: vs, K => apK k f v fun g => apKs ks g vs K
  | _ :: _, _, [], _ => False
def allK : Kind → (Value → Prop) → Prop
  | .bool, K => ∀ b, K (.bool b)
  | .int k, K => ∀ n, K (.int k n)
  | .str, K => ∀ s, K (.string s)
  | .ptr, K => ∀ p, K (.pointer p)
  | .slice, K => ∀ A n c, K (.slice A n c)
  | .map, K => ∀ r, K (.map r)
  | .fn, K => ∀ n a c, K (.func (.func n) a c)
  | .any, K => ∀ v, K v
def allKs : List Kind → (List Value → Prop) → Prop
  | [], K => K []
  | k :: ks, K => allK k fun v => allKs ks fun vs => K (v :: vs)
theorem apK_val {R : Type} {k : Kind} {f : FnK k R} {v : Value} {K : R → Prop} (h : apK k f v K) : ∃ r, (∀ K' : R → Prop, apK k f v K' ↔ K' r) ∧ ∀ F : Value → Prop, allK k F → F v := by
  cases k <;> cases v <;> simp only [apK] at h <;> first
    | exact h.elim
    | exact ⟨_, fun _ => Iff.rfl, fun F hF => hF _⟩
    | exact ⟨_, fun _ => Iff.rfl, fun F hF => hF _ _ _⟩
    | (rename_i g a c
       cases g <;> simp only [apK] at h <;> first
         | exact h.elim
         | exact ⟨_, fun _ => Iff.rfl, fun F hF => hF _ _ _⟩)
    | (obtain ⟨h1, h3⟩ := when_cases h
       cases of_decide_eq_true h1
       exact ⟨_, fun _ => ⟨fun h => (when_cases h).2, fun h => when_intro h1 h⟩, fun F hF => hF _⟩)
theorem apKs_val {R : Type} : ∀ {ks : List Kind} {f : FnKs ks R} {vs : List Value} {K : R → Prop}, vs.length = ks.length → apKs ks f vs K → ∃ r, (∀ K' : R → Prop, apKs ks f vs K' ↔ K' r) ∧ ∀ F : List Value → Prop, allKs ks F → F vs
  | [], f, [], K, hl, h => ⟨_, fun _ => Iff.rfl, fun F hF => hF⟩
  | k :: ks, f, v :: vs, K, hl, h => by
    obtain ⟨g, hg, hg2⟩ := apK_val h
    obtain ⟨r, hr, hr2⟩ := apKs_val (by simpa using hl) ((hg _).1 h)
    exact ⟨r, fun K' => ((hg _).trans (hr K')), fun F hF => hr2 _ (hg2 _ hF)⟩
  | [], f, v :: vs, K, hl, h => by simp at hl
  | k :: ks, f, [], K, hl, h => by simp at hl
def fills : List Value → List Nat → List Value → List Value
  | fr, s :: ss, v :: vs => fills (put fr s v) ss vs
  | fr, _, _ => fr
def minus : List Nat → List Nat → List Nat → List Nat
  | [], _, acc => acc
  | x :: xs, ys, acc => (match memB ys x || memB acc x with | true => minus xs ys acc | false => minus xs ys (x :: acc))
def vals (fr : List Value) : List Nat → List Value
  | [] => []
  | s :: ss => nth fr s :: vals fr ss
def kinds (fr : List Value) : List Nat → List Kind
  | [] => []
  | s :: ss => kindOf (nth fr s) :: kinds fr ss
def loopV (carried asg : List Nat) (fr : List Value) (w : World) (body : (Exit → List Value → World → Prop) → List Value → World → Prop) (K : Exit → List Value → World → Prop) : Prop :=
  ∃ I : FnKs (kinds fr carried) (World → Prop), ∃ μ : FnKs (kinds fr carried) (World → Nat),
    apKs (kinds fr carried) I (vals fr carried) (fun p => p w) ∧
    allKs (kinds fr carried) fun vs => ∀ (j : Nat → Value) (w' : World), apKs (kinds fr carried) I vs fun p => p w' →
      body (fun e fr2 w2 => match e with
        | .normal => apKs (kinds fr carried) I (vals fr2 carried) fun q => q w2 ∧ apKs (kinds fr carried) μ (vals fr2 carried) fun m2 => apKs (kinds fr carried) μ vs fun m => m2 w2 < m w'
        | e => K e fr2 w2)
        (fills (fills fr (minus asg carried []) ((minus asg carried []).map j)) carried vs) w'

theorem vals_eq (fr : List Value) : ∀ ss, vals fr ss = ss.map (nth fr)
  | [] => rfl
  | s :: ss => by simp [vals, vals_eq fr ss]
theorem vals_length (fr fr' : List Value) : ∀ ss, (vals fr ss).length = (kinds fr' ss).length
  | [] => rfl
  | s :: ss => by simp [vals, kinds, vals_length fr fr' ss]
theorem nth_put (fr : List Value) (d i : Nat) (v : Value) : nth (put fr d v) i = if d = i ∧ i < fr.length then v else nth fr i := by
  by_cases h : d = i
  · subst h
    rcases Nat.lt_or_ge d fr.length with h' | h'
    · simp [nth_eq, put_eq, h', List.getD_eq_getElem?_getD]
    · simp [nth_eq, put_eq, Nat.not_lt.2 h', List.getD_eq_getElem?_getD, h']
  · rw [nth_put_ne h, if_neg (fun k => h k.1)]
theorem fills_length : ∀ (ss : List Nat) (vs fr : List Value), (fills fr ss vs).length = fr.length
  | [], vs, fr => by cases vs <;> rfl
  | s :: ss, [], fr => rfl
  | s :: ss, v :: vs, fr => by simp [fills, fills_length ss vs, put_length]
theorem nth_out_of {fr : List Value} {i : Nat} (h : fr.length ≤ i) : nth fr i = undef := by
  simp [nth_eq, List.getD_eq_getElem?_getD, h]
theorem fills_nth (fr1 : List Value) : ∀ (ss : List Nat) (fr : List Value), fr.length = fr1.length → ∀ i, nth (fills fr ss (vals fr1 ss)) i = if memB ss i = true then nth fr1 i else nth fr i
  | [], fr, hl, i => by simp [fills, vals, memB]
  | s :: ss, fr, hl, i => by
    simp only [fills, vals, memB]
    rw [fills_nth fr1 ss _ (by rw [put_length]; exact hl) i, nth_put]
    by_cases hm : memB ss i = true
    · simp [hm]
    · by_cases hs : s = i
      · subst hs
        by_cases hlt : s < fr.length
        · simp [hm, hlt]
        · simp [hm, hlt, nth_out_of (Nat.not_lt.1 hlt), nth_out_of (hl ▸ Nat.not_lt.1 hlt)]
      · have : Nat.beq s i = false := by
          cases hb : Nat.beq s i with
          | false => rfl
          | true => exact absurd (Nat.eq_of_beq_eq_true hb) hs
        simp [hm, hs, this]
theorem minus_mem (ys : List Nat) (i : Nat) : ∀ (xs acc : List Nat), (memB xs i = true ∨ memB acc i = true) → memB ys i = true ∨ memB (minus xs ys acc) i = true
  | [], acc, h => by
    rcases h with h | h
    · cases h
    · exact .inr h
  | x :: xs, acc, h => by
    unfold minus
    split
    · rename_i hx
      rcases h with h | h
      · simp only [memB, Bool.or_eq_true] at h
        rcases h with h | h
        · obtain rfl := Nat.eq_of_beq_eq_true h
          simp only [Bool.or_eq_true] at hx
          rcases hx with hx | hx
          · exact .inl hx
          · exact minus_mem ys x xs acc (.inr hx)
        · exact minus_mem ys i xs acc (.inl h)
      · exact minus_mem ys i xs acc (.inr h)
    · refine minus_mem ys i xs (x :: acc) ?_
      simp only [memB, Bool.or_eq_true] at h ⊢
      rcases h with (h | h) | h
      · exact .inr (.inl h)
      · exact .inl h
      · exact .inr (.inr h)
theorem ext_nth {a b : List Value} (hl : a.length = b.length) (h : ∀ i, nth a i = nth b i) : a = b := by
  apply List.ext_getElem hl
  intro i h1 h2
  have := h i
  simpa [nth_eq, List.getD_eq_getElem?_getD, h1, h2] using this
theorem fills_back {A carried : List Nat} {fr fr1 : List Value} (h : agree A fr fr1) :
    fills (fills fr (minus A carried []) ((minus A carried []).map (nth fr1))) carried (vals fr1 carried) = fr1 := by
  rw [← vals_eq]
  apply ext_nth
  · rw [fills_length, fills_length]; exact h.1
  · intro i
    rw [fills_nth fr1 carried _ (by rw [fills_length]; exact h.1), fills_nth fr1 _ fr h.1]
    by_cases hc : memB carried i = true
    · simp [hc]
    · by_cases hm : memB (minus A carried []) i = true
      · simp [hm]
      · have hA : memB A i = false := by
          cases hA : memB A i with
          | false => rfl
          | true => rcases minus_mem carried i A [] (.inl hA) with h' | h' <;> contradiction
        simp [hc, hm, h.2 i hA]

/-! ### code -/
structure Ann where
  loops : Nat → List Nat
  orders : Nat → List Nat
def nloops : Code → Nat
  | .seq a b => nloops a + nloops b
  | .cond _ a b => nloops a + nloops b
  | .block _ c => nloops c
  | .loop c => nloops c + 1
  | .scope c => nloops c
  | _ => 0
def codeV (P : Program) (A : Ann) : Nat → Code → (Exit → List Value → World → Prop) → List Value → World → Prop
  | _, .skip, K, fr, w => K .normal fr w
  | _, .label _, K, fr, w => K .normal fr w
  | _, .exit id, K, fr, w => K (.exit id) fr w
  | _, .ret, K, fr, w => K .ret fr w
  | _, .region id ops draw, K, fr, w => (match draw with
    | false => opsV P ops 0 ops.toList fr w (K .normal)
    | true => drawnV P ops (A.orders id) fr w (K .normal))
  | n, .seq a b, K, fr, w => codeV P A n a (fun e fr w => match e with | .normal => codeV P A (n + nloops a) b K fr w | e => K e fr w) fr w
  | n, .cond c a b, K, fr, w => (match ev fr c with
    | .bool t => sel t (codeV P A n a K fr w) (codeV P A (n + nloops a) b K fr w)
    | _ => False)
  | n, .block id c, K, fr, w => codeV P A n c (fun e fr w => match e with
    | .exit id' => (match Nat.beq id' id with | true => K .normal fr w | false => K (.exit id') fr w)
    | e => K e fr w) fr w
  | n, .loop c, K, fr, w => loopV (A.loops n) (asg c) fr w (codeV P A (n + 1) c) K
  | n, .scope c, K, fr, w => codeV P A n c (fun e fr w => match e with | .goto _ => False | e => K e fr w) fr w
  | _, _, _, _, _ => False

theorem codeV_wp {P : Program} {A : Ann} : ∀ {c : Code} {n : Nat} {K : Exit → List Value → World → Prop} {fr : List Value} {w : World} {Q : Exit → Act → World → Prop},
    codeV P A n c K fr w → (∀ c a w d v, Q (.panic c) (a.put d v) w → Q (.panic c) a w) →
    (∀ e fr' w', agree (asg c) fr fr' → K e fr' w' → Q e (act fr') w') → c.wp P Q (act fr) w := by
  intro c
  induction c with
  | skip => intro n K fr w Q h hQ hk; exact wp_skip (hk _ _ _ (agree_refl _ _) h)
  | label l => intro n K fr w Q h hQ hk; exact wp_label (hk _ _ _ (agree_refl _ _) h)
  | exit id => intro n K fr w Q h hQ hk; exact wp_exit (hk _ _ _ (agree_refl _ _) h)
  | ret => intro n K fr w Q h hQ hk; exact wp_ret (hk _ _ _ (agree_refl _ _) h)
  | goto l => intro n K fr w Q h hQ hk; exact h.elim
  | refuse r => intro n K fr w Q h hQ hk; exact h.elim
  | rangeFunc f ps a b => intro n K fr w Q h hQ hk; exact h.elim
  | region id ops draw =>
    intro n K fr w Q h hQ hk
    cases draw with
    | false => exact wp_region_list (opsV_wp (A := asgO ops.toList) (fun o ho => agree_putO ho) h fun fr' w ha hK => hk _ _ _ ha hK)
    | true => exact drawnV_wp h hQ fun fr' w ha hK => hk _ _ _ ha hK
  | seq a b iha ihb =>
    intro n K fr w Q h hQ hk
    refine wp_seq (iha h (fun c a w d v => hQ c a w d v) fun e fr' w' ha hK => ?_)
    cases e with
    | normal => exact ihb hK hQ fun e fr'' w'' ha' hK' => hk _ _ _ (agree_trans (agree_left ha) (agree_right ha')) hK'
    | _ => exact hk _ _ _ (agree_left ha) hK
  | cond x a b iha ihb =>
    intro n K fr w Q h hQ hk
    simp only [codeV] at h
    split at h
    · rename_i t ht
      have ht : (act fr).eval x = .bool t := by rw [act_eval]; exact ht
      rcases sel_cases h with ⟨rfl, h⟩ | ⟨rfl, h⟩
      · exact wp_cond_true ht (iha h hQ fun e fr' w' ha hK => hk _ _ _ (agree_left ha) hK)
      · exact wp_cond_false ht (ihb h hQ fun e fr' w' ha hK => hk _ _ _ (agree_right ha) hK)
    · exact h.elim
  | block id c ih =>
    intro n K fr w Q h hQ hk
    refine wp_block (ih h (fun c a w d v => hQ c a w d v) fun e fr' w' ha hK => ?_)
    cases e with
    | exit id' =>
      simp only [Exit.inBlock]
      cases hb : Nat.beq id' id with
      | true =>
        obtain rfl := Nat.eq_of_beq_eq_true hb
        simp only [hb] at hK
        simp only [if_true]
        exact hk _ _ _ ha hK
      | false =>
        simp only [hb] at hK
        have : id' ≠ id := fun e => by subst e; simp at hb
        rw [if_neg this]
        exact hk _ _ _ ha hK
    | _ => exact hk _ _ _ ha hK
  | scope c ih =>
    intro n K fr w Q h hQ hk
    refine wp_scope_straight (ih h (fun c a w d v => hQ c a w d v) fun e fr' w' ha hK => ?_)
    cases e with
    | goto l => exact hK
    | _ => exact hk _ _ _ ha hK
  | loop c ih =>
    intro n K fr w Q h hQ hk
    simp only [codeV] at h
    obtain ⟨I, μ, h0, hr⟩ := h
    generalize hcar : A.loops n = carried at *
    have hlen : ∀ fr', (vals fr' carried).length = (kinds fr carried).length := fun fr' => vals_length fr' fr carried
    classical
    let M : Act → World → Nat := fun a w' => if h : ∃ r : World → Nat, ∀ K', apKs (kinds fr carried) μ (vals a.tmps.toList carried) K' ↔ K' r then (Classical.choose h) w' else 0
    have hM : ∀ (fr' : List Value) (r : World → Nat), (∀ K', apKs (kinds fr carried) μ (vals fr' carried) K' ↔ K' r) → ∀ w', M (act fr') w' = r w' := fun fr' r hr' w' => by
      have hex : ∃ r : World → Nat, ∀ K', apKs (kinds fr carried) μ (vals (act fr').tmps.toList carried) K' ↔ K' r := ⟨r, hr'⟩
      have h1 := Classical.choose_spec hex
      have h2 : r = Classical.choose hex := ((hr' (fun x => x = Classical.choose hex)).1 ((h1 _).2 rfl))
      show dite _ _ _ = _
      rw [dif_pos hex, ← h2]
    refine wp_loop (fun a w' => ∃ fr1, a = act fr1 ∧ agree (asg c) fr fr1 ∧ apKs (kinds fr carried) I (vals fr1 carried) (fun p => p w')) M ⟨fr, rfl, agree_refl _ _, h0⟩ ?_
    rintro a w' ⟨fr1, rfl, hag, hI⟩
    obtain ⟨r, hr1, hall⟩ := apKs_val (hlen fr1) hI
    have hb := (hr1 _).1 (hall _ hr (nth fr1) w') ((hr1 _).1 hI)
    rw [fills_back hag] at hb
    refine ih hb (fun c a w d v => hQ c a w d v) fun e fr2 w2 ha hK => ?_
    have hag2 := agree_trans hag ha
    cases e with
    | normal =>
      obtain ⟨q, hq, _⟩ := apKs_val (hlen fr2) hK
      obtain ⟨hq1, hK2⟩ := (hq _).1 hK
      obtain ⟨m2, hm2, _⟩ := apKs_val (hlen fr2) hK2
      have hK3 := (hm2 _).1 hK2
      obtain ⟨m, hm, _⟩ := apKs_val (hlen fr1) hK3
      have hlt := (hm _).1 hK3
      exact ⟨⟨fr2, rfl, hag2, (hq _).2 hq1⟩, by rw [hM fr2 m2 hm2, hM fr1 m hm]; exact hlt⟩
    | _ => exact hk _ _ _ hag2 hK

/-! ### calls -/
def resVs (P : Program) (fr : List Value) (w : World) : List ResultVar → (List Value → Prop) → Prop
  | [], K => K []
  | .tmp t :: rs, K => resVs P fr w rs fun vs => K (nth fr t :: vs)
  | .cell a t :: rs, K => loadG P (fun a x => w.cell? a = some x) t (nth fr a) fun v => resVs P fr w rs fun vs => K (v :: vs)
def resV (P : Program) (rs : List ResultVar) (fr : List Value) (w : World) (K : Value → Prop) : Prop :=
  resVs P fr w rs fun vs => (match vs with | [v] => K v | vs => K (.tuple ⟨vs⟩))
theorem loadAt_pointer {P : Program} {t : TypeId} {v : Value} {w : World} {u : Value} (h : (Instr.loadAt t v).run P w = .ok u w) : (do loadVar t (← asAddr v) : Sem Value).run P w = .ok u w := by
  unfold Instr.loadAt Instr.sureAddr at h
  cases v <;> simp at h
  case pointer a => cases a <;> simp at h; simpa [asAddr] using h
theorem resVs_run {P : Program} {fr : List Value} {w : World} : ∀ {rs : List ResultVar} {K : List Value → Prop}, resVs P fr w rs K →
    ∃ vs, K vs ∧ (rs.mapM fun r => (match r with | .tmp t => pure ((⟨fr⟩ : Array Value).getD t undef) | .cell a t => do loadVar t (← asAddr ((⟨fr⟩ : Array Value).getD a undef)) : Sem Value)).run P w = .ok vs w
  | [], K, h => ⟨[], h, rfl⟩
  | .tmp t :: rs, K, h => by
    obtain ⟨vs, hk, hr⟩ := resVs_run (rs := rs) h
    refine ⟨_, hk, ?_⟩
    rw [List.mapM_cons]
    simp only [Sem.run_bind, Sem.run_pure, Result.andThen_ok, hr]
    congr 2
    simp [nth_eq]
  | .cell a t :: rs, K, h => by
    obtain ⟨v, h, hr0⟩ := loadG_run (w := w) (fun _ _ h => h) h
    obtain ⟨vs, hk, hr⟩ := resVs_run (rs := rs) h
    refine ⟨_, hk, ?_⟩
    have h1 := loadAt_pointer (hr0 w (fun _ _ h => h))
    have e : (⟨fr⟩ : Array Value).getD a undef = nth fr a := by simp [nth_eq]
    rw [List.mapM_cons]
    simp only [e]
    rw [Sem.run_bind, h1]
    simp only [Sem.run_bind, Sem.run_pure, Result.andThen_ok, hr]
theorem resV_run {P : Program} {fn : Func} {fr : List Value} {w : World} {K : Value → Prop} (h : resV P fn.results.toList fr w K) :
    ∃ v, (results fn (act fr).tmps).run P w = .ok v w ∧ K v := by
  obtain ⟨vs, hk, hr⟩ := resVs_run h
  have hk : K (if h : (⟨vs⟩ : Array Value).size = 1 then (⟨vs⟩ : Array Value)[0] else .tuple ⟨vs⟩) := by
    match vs, hk with
    | [], hk => exact hk
    | [v], hk => exact hk
    | _ :: _ :: _, hk => exact hk
  refine ⟨_, ?_, hk⟩
  unfold results
  rw [Sem.run_bind, Array.mapM_eq_mapM_toList, Sem.run_map]
  refine (congrArg (fun r => (Result.andThen r _).andThen _) hr).trans ?_
  rfl

theorem calls_of_V {P : Program} {f : FuncId} {fn : Func} {c : Code} {args : List Value} {w : World} {R : Ending → World → Prop} (A : Ann)
    (hf : P.funcs[f]? = some fn) (hb : fn.body = some c)
    (h : codeV P A 0 c (fun e fr w' => match e with
      | .normal => resV P fn.results.toList fr w' fun v => R (.returned v) w'
      | .ret => resV P fn.results.toList fr w' fun v => R (.returned v) w'
      | _ => False) (args ++ List.replicate (fn.ntmps - args.length) undef) w) : Calls P f ⟨args⟩ w R := by
  refine calls_of_wp hf hb ?_
  have e : (⟨args⟩ : Array Value) ++ Array.replicate (fn.ntmps - (⟨args⟩ : Array Value).size) undef = ⟨args ++ List.replicate (fn.ntmps - args.length) undef⟩ := by
    apply Array.ext'; simp
  rw [e]
  refine codeV_wp h (fun c a w d v h => ?_) fun e fr' w' _ hK => ?_
  · refine ⟨?_, h.2⟩
    have := h.1
    cases d <;> simpa [Act.put] using this
  · cases e with
    | normal => obtain ⟨v, hr, hR⟩ := resV_run hK; exact ⟨rfl, v, hr, hR⟩
    | ret => obtain ⟨v, hr, hR⟩ := resV_run hK; exact ⟨rfl, v, hr, hR⟩
    | _ => exact hK.elim

def assoc : List (Nat × List Nat) → Nat → List Nat
  | [], _ => []
  | (k, v) :: r, n => (match Nat.beq k n with | true => v | false => assoc r n)
end Go.V
