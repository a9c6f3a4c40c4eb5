/- The table of names and slots: what it holds; look, New, Len, Find, Set. -/
import Derived.Test.YtcampkaenlohbaaG1
import Derived.Test.YtcampkaenlohbaaNA
set_option linter.unusedVariables false
set_option linter.unusedSimpArgs false
namespace Go.Proofs.Ytcampkaenlohbaa
open Go Go.V Go.B

structure Rw where
  held : Bool
  name : ByteArray
  v : Int
def Rw.cells (x : Rw) : List Value := [.bool x.held, .string x.name, .int .i64 x.v]
def RL : Lay Rw := ⟨Rw.cells, 3, fun _ => rfl, fun x v hv => by
  simp only [Rw.cells, List.mem_cons, List.not_mem_nil, or_false] at hv
  rcases hv with rfl | rfl | rfl <;> rfl, by omega⟩
theorem RLsz : RL.sz = 3 := rfl
def Rw.zero : Rw := ⟨false, ByteArray.empty, 0⟩
theorem u28 : Try.prog.underlying 28 = some (.map 9 3) := by kernel_rfl
theorem u77 : Try.prog.underlying 77 = some (.slice 81) := by kernel_rfl
theorem kS : KeyT Try.prog 9 Value.string := keyString (by kernel_rfl)
theorem zI : ∀ w, (zeroValue 3).run Try.prog w = .ok (.int .i64 0) w := fun w => by
  have h : (Try.prog.info? 3).map (·.zero) = some (some (.int .i64 0)) := by kernel_rfl
  cases hq : Try.prog.info? 3 with
  | none => rw [hq] at h; cases h
  | some i =>
    rw [hq] at h
    simp only [Option.map_some, Option.some.injEq] at h
    simp [zeroValue, typeInfo, hq, h]
def z81 : Value := .agg #[.bool false, .string ByteArray.empty, .int .i64 0]
theorem i81 : (Try.prog.info? 81).map (fun i => (i.zero, i.size, i.bytes)) = some (some z81, 3, 32) := by kernel_rfl
theorem i81s : (Try.prog.info? 81).map (·.size) = some 3 := by kernel_rfl
theorem i77s : (Try.prog.info? 77).map (·.size) = some 1 := by kernel_rfl
theorem i3s : (Try.prog.info? 3).map (·.size) = some 1 := by kernel_rfl
def ki : Int → Value := Value.int .i64
def hereB (k : ByteArray) (x : Rw) : Bool := x.held && decide (x.name = k)
theorem cnt_set {p : Rw → Bool} {y : Rw} : ∀ {xs : List Rw} {i : Nat} {x : Rw}, xs[i]? = some x → (xs.set i y).countP p + (if p x then 1 else 0) = xs.countP p + (if p y then 1 else 0)
  | [], i, x, h => by simp at h
  | a :: xs, 0, x, h => by
    simp at h
    subst h
    simp only [List.set_cons_zero, List.countP_cons]
    omega
  | a :: xs, i + 1, x, h => by
    simp only [List.getElem?_cons_succ] at h
    have := cnt_set (p := p) (y := y) h
    simp only [List.set_cons_succ, List.countP_cons]
    omega
theorem cnt_held {xs : List Rw} {i : Nat} {x : Rw} (y : Rw) (h : xs[i]? = some x) : (xs.set i y).countP (·.held) + (if x.held = true then 1 else 0) = xs.countP (·.held) + (if y.held = true then 1 else 0) := cnt_set (p := (·.held)) h
/-- What holds of a table. -/
structure TInv (most : Nat) (rows : List Rw) (m : List (ByteArray × Int)) (low : Nat) : Prop where
  len : rows.length ≤ most
  top : most ≤ 65536
  mp : ∀ k v, mget m k = some v ↔ ∃ (i : Nat) (x : Rw), rows[i]? = some x ∧ x.held = true ∧ x.name = k ∧ v = (i : Int)
  low : ∀ i, i < low → ∃ x, rows[i]? = some x ∧ x.held = true
  last : ∀ x, rows.getLast? = some x → x.held = true
  zero : ∀ x ∈ rows, x.held = false → x = Rw.zero
  good : ∀ x ∈ rows, x.held = true → 1 ≤ x.name.size ∧ x.name.size ≤ 63
  full : m.length ≤ most
  cnt : m.length = rows.countP (·.held)
structure TM (w : World) (B p r : Nat) (A : Option Addr) (n c most low : Nat) (rows : List Rw) (m : List (ByteArray × Int)) : Prop where
  hdr : BlkT w p [.int .i64 (most : Int), .map (some r), .slice A n c, .int .i64 (low : Int)] 79
  own : OwnL RL w B 81 A n c rows
  mp : MapAt w r Value.string ki m
  hp : p ∉ ownF A
  hr : r ∉ p :: ownF A
  hB : B ≤ w.heap.size
theorem TM.ext {F : List Nat} {w w' : World} {B p r : Nat} {A : Option Addr} {n c most low : Nat} {rows : List Rw} {m : List (ByteArray × Int)} (h : TM w B p r A n c most low rows m) (e : Ext F w w') (hF : ∀ b ∈ p :: r :: ownF A, b ∉ F) : TM w' B p r A n c most low rows m :=
  ⟨h.hdr.ext e (hF p (by simp)), h.own.ext e (fun b hb => hF b (by simp [hb])), h.mp.ext e (hF r (by simp)), h.hp, h.hr, Nat.le_trans h.hB e.size⟩
theorem TM.lt {w : World} {B p r : Nat} {A : Option Addr} {n c most low : Nat} {rows : List Rw} {m : List (ByteArray × Int)} (h : TM w B p r A n c most low rows m) : ∀ b ∈ p :: r :: ownF A, b < w.heap.size := by
  intro b hb
  simp only [List.mem_cons] at hb
  rcases hb with rfl | rfl | hb
  · exact h.hdr.lt
  · exact h.mp.lt
  · exact (h.own.base b hb).2
/-- The table at p: f: the blocks that are its own. -/
structure TS where
  most : Nat
  rows : List Rw
  m : List (ByteArray × Int)
  low : Nat
def TS.ok (s : TS) : Prop := TInv s.most s.rows s.m s.low
def At (w : World) (B p : Nat) (f : List Nat) (s : TS) : Prop := ∃ r A n c, TM w B p r A n c s.most s.low s.rows s.m ∧ s.ok ∧ f = p :: r :: ownF A
theorem At.ext {F : List Nat} {w w' : World} {B p : Nat} {f : List Nat} {s : TS} (h : At w B p f s) (e : Ext F w w') (hF : ∀ b ∈ f, b ∉ F) : At w' B p f s := by
  obtain ⟨r, A, n, c, q, i, rfl⟩ := h
  exact ⟨r, A, n, c, q.ext e hF, i, rfl⟩
theorem At.ext0 {w w' : World} {B p : Nat} {f : List Nat} {s : TS} (h : At w B p f s) (e : Ext [] w w') : At w' B p f s := h.ext e (by simp)
theorem At.lt {w : World} {B p : Nat} {f : List Nat} {s : TS} (h : At w B p f s) : ∀ b ∈ f, b < w.heap.size := by
  obtain ⟨r, A, n, c, q, i, rfl⟩ := h
  exact q.lt
theorem At.inv {w : World} {B p : Nat} {f : List Nat} {s : TS} (h : At w B p f s) : s.ok := by
  obtain ⟨r, A, n, c, q, i, rfl⟩ := h
  exact i
theorem At.keys {w : World} {B p : Nat} {f : List Nat} {s : TS} (h : At w B p f s) : (mkeys s.m).Nodup := by
  obtain ⟨r, A, n, c, q, i, rfl⟩ := h
  exact q.mp.nodup
def badN (name : ByteArray) : Prop := name.size < 1 ∨ 63 < name.size
instance (name : ByteArray) : Decidable (badN name) := by unfold badN; infer_instance
/-- A name's slot, or why it has none. -/
def lookV (s : TS) (name : ByteArray) : Int × Int := if badN name then (0, 51) else match mget s.m name with
  | none => (0, 54)
  | some v => (v, 0)
theorem look_c {w : World} {B p : Nat} {f : List Nat} {s : TS} (h : At w B p f s) (name : ByteArray) {R : Ending → World → Prop} (k : R (.returned (.tuple #[.int .i64 (lookV s name).1, .int .i64 (lookV s name).2])) w) :
    Calls Try.prog 30 #[.pointer (some ⟨p, 0, none⟩), .string name] w R := by
  obtain ⟨r, A, n, c, q, i, rfl⟩ := h
  apply slots_Table_int__look_nf
  have kb : badN name → R (.returned (.tuple #[.int .i64 0, .int .i64 51])) w := fun hb => by
    unfold lookV at k; rw [if_pos hb] at k; exact k
  refine sel_false rfl (sel_dec (fun h1 => kb (.inl (by omega))) (fun h1 => sel_dec (fun h2 => kb (.inr (by omega))) (fun h2 => ptr_in ⟨_, cadd q.hdr rfl, ?_⟩)))
  have hb : ¬ badN name := by unfold badN; omega
  unfold lookV at k
  rw [if_neg hb] at k
  cases hg : mget s.m name with
  | none =>
    rw [hg] at k
    exact ⟨_, _, _, (look_no (P := Try.prog) kS u28 zI q.mp hg).2, sel_true rfl k⟩
  | some v =>
    rw [hg] at k
    exact ⟨_, _, _, (look_yes (P := Try.prog) kS u28 zI q.mp hg).2, sel_false rfl k⟩
theorem lookV_ok {w : World} {B p : Nat} {f : List Nat} {s : TS} (h : At w B p f s) {name : ByteArray} (e : (lookV s name).2 = 0) : ∃ (i : Nat) (x : Rw), s.rows[i]? = some x ∧ x.held = true ∧ x.name = name ∧ (lookV s name).1 = (i : Int) ∧ mget s.m name = some (i : Int) := by
  unfold lookV at e ⊢
  split at e
  · cases e
  · rename_i hb
    rw [if_neg hb]
    cases hg : mget s.m name with
    | none => rw [hg] at e; cases e
    | some v =>
      obtain ⟨i, x, h1, h2, h3, rfl⟩ := (h.inv.mp name v).1 hg
      exact ⟨i, x, h1, h2, h3, rfl, rfl⟩
theorem lookV_cases (s : TS) (name : ByteArray) : (lookV s name).2 = 0 ∨ (lookV s name).2 = 51 ∨ (lookV s name).2 = 54 := by
  unfold lookV
  split
  · exact .inr (.inl rfl)
  · split
    · exact .inr (.inr rfl)
    · exact .inl rfl
theorem New_c {w : World} (most : Int) {R : Ending → World → Prop} (k1 : (most < 0 ∨ 65536 < most) → R (.returned (.tuple #[.pointer none, .int .i64 50])) w)
    (k2 : ∀ p f w', 0 ≤ most → most ≤ 65536 → Ext [] w w' → At w' w.heap.size p f ⟨most.toNat, [], [], 0⟩ → (∀ b ∈ f, w.heap.size ≤ b) → R (.returned (.tuple #[.pointer (some ⟨p, 0, none⟩), .int .i64 0])) w') :
    Calls Try.prog 10 #[.int .i64 most] w R := by
  apply slots_New_int__nf
  refine sel_dec (fun h => k1 (.inl h)) (fun h0 => sel_dec (fun h => k1 (.inr (by omega))) (fun h1 => ?_))
  intro w1 h1 w2 h2
  obtain ⟨m1, x1, z1⟩ := map_new (β := Int) Value.string ki h1
  obtain ⟨b2, x2, z2⟩ := box_new (cs := [.int .i64 most, .map (some w.heap.size), .slice none 0 0, .int .i64 0]) h2
  refine k2 w1.heap.size [w1.heap.size, w.heap.size] w2 (by omega) (by omega) (x1.trans x2) ⟨w.heap.size, none, 0, 0, ⟨?_, OwnL.nil _ _ _, m1.ext0 x2, by simp [ownF], by simp [ownF]; omega, by omega⟩, ?_, by simp [ownF]⟩ ?_
  · have : ((most.toNat : Nat) : Int) = most := by omega
    rw [this]; exact b2
  · exact ⟨by simp, by show most.toNat ≤ 65536; omega, by simp [mget], by simp, by simp, by simp, by simp, by simp, by simp⟩
  · intro b hb
    simp at hb; omega
theorem Len_c {w : World} {B p : Nat} {f : List Nat} {s : TS} (h : At w B p f s) {R : Ending → World → Prop} (k : R (.returned (.int .i64 (s.m.length : Int))) w) : Calls Try.prog 14 #[.pointer (some ⟨p, 0, none⟩)] w R := by
  obtain ⟨r, A, n, c, q, i, rfl⟩ := h
  apply slots_Table_int__Len_nf
  exact sel_false rfl (ptr_in ⟨_, cadd q.hdr rfl, _, _, len_map (P := Try.prog) u28 q.mp, k⟩)
/-- What Find tells. -/
def findV (s : TS) (name : ByteArray) : Int × Int × Bool := if (lookV s name).2 = 0 then ((lookV s name).1, (s.rows.getD (lookV s name).1.toNat Rw.zero).v, true) else (0, 0, false)
theorem Find_c {w : World} {B p : Nat} {f : List Nat} {s : TS} (h : At w B p f s) (name : ByteArray) {R : Ending → World → Prop}
    (k : ∀ w', Ext [] w w' → R (.returned (.tuple #[.int .i64 (findV s name).1, .int .i64 (findV s name).2.1, .bool (findV s name).2.2])) w') : Calls Try.prog 15 #[.pointer (some ⟨p, 0, none⟩), .string name] w R := by
  apply slots_Table_int__Find_nf
  refine look_c h name ⟨_, _, rfl, ?_⟩
  by_cases e : (lookV s name).2 = 0
  · obtain ⟨i, x, hx, hh, hn, e1, hg⟩ := lookV_ok h e
    obtain ⟨r, A, n, c, q, inv, rfl⟩ := h
    have hl := q.own.len
    have hil := (List.getElem?_eq_some_iff.1 hx).1
    rw [e]
    unfold findV at k
    rw [if_pos e, e1] at k
    rw [e1]
    obtain ⟨y, ad, hy, rfl, rd⟩ := q.own.row (a := i) (by omega)
    rw [hx] at hy
    cases hy
    refine sel_false rfl (ptr_in ⟨_, _, _, cadd q.hdr rfl, when_dec ⟨by omega, by omega⟩ (ptr_in ⟨_, rd 2 _ rfl, ?_⟩)⟩)
    have := k w.drew (Ext.refl _ _).drew
    rw [Int.toNat_natCast, show s.rows.getD i Rw.zero = x by simp [List.getD_eq_getElem?_getD, hx]] at this
    exact this
  · unfold findV at k
    rw [if_neg e] at k
    exact sel_true (by simpa using e) (k w (Ext.refl _ _))
def setV (s : TS) (name : ByteArray) (v : Int) : TS := if (lookV s name).2 = 0 then { s with rows := s.rows.set (lookV s name).1.toNat { (s.rows.getD (lookV s name).1.toNat Rw.zero) with v := v } } else s
theorem set_at {xs : List Rw} {i j : Nat} {x y : Rw} (hi : i < xs.length) : (xs.set i x)[j]? = some y ↔ (j = i ∧ y = x) ∨ (j ≠ i ∧ xs[j]? = some y) := by
  rw [List.getElem?_set]
  by_cases h : i = j
  · subst h
    rw [if_pos rfl, if_pos hi]
    constructor
    · intro e; cases e; exact .inl ⟨rfl, rfl⟩
    · rintro (⟨_, rfl⟩ | ⟨h, _⟩)
      · rfl
      · exact absurd rfl h
  · rw [if_neg h]
    constructor
    · intro e; exact .inr ⟨Ne.symm h, e⟩
    · rintro (⟨e, _⟩ | ⟨_, e⟩)
      · exact absurd e.symm h
      · exact e
/-- A row that stays held by its name. -/
theorem TInv.turn {most : Nat} {rows : List Rw} {m : List (ByteArray × Int)} {low : Nat} (h : TInv most rows m low) {i : Nat} {x : Rw} (hx : rows[i]? = some x) (hh : x.held = true) (v : Int) : TInv most (rows.set i { x with v := v }) m low := by
  have hil := (List.getElem?_eq_some_iff.1 hx).1
  refine ⟨by simpa using h.len, h.top, fun k u => ?_, fun j hj => ?_, fun y hy => ?_, fun y hy hf => ?_, fun y hy hf => ?_, h.full, ?_⟩
  · rw [h.mp]
    constructor
    · rintro ⟨j, y, hy, h1, h2, h3⟩
      by_cases e : j = i
      · subst e
        rw [hx] at hy
        cases hy
        exact ⟨j, { x with v := v }, (set_at hil).2 (.inl ⟨rfl, rfl⟩), h1, h2, h3⟩
      · exact ⟨j, y, (set_at hil).2 (.inr ⟨e, hy⟩), h1, h2, h3⟩
    · rintro ⟨j, y, hy, h1, h2, h3⟩
      rcases (set_at hil).1 hy with ⟨rfl, rfl⟩ | ⟨_, hy⟩
      · exact ⟨j, x, hx, h1, h2, h3⟩
      · exact ⟨j, y, hy, h1, h2, h3⟩
  · obtain ⟨y, hy, h1⟩ := h.low j hj
    by_cases e : j = i
    · subst e
      exact ⟨{ x with v := v }, (set_at hil).2 (.inl ⟨rfl, rfl⟩), hh⟩
    · exact ⟨y, (set_at hil).2 (.inr ⟨e, hy⟩), h1⟩
  · rw [List.getLast?_eq_getElem?, List.length_set] at hy
    rcases (set_at hil).1 hy with ⟨_, rfl⟩ | ⟨_, hy⟩
    · exact hh
    · exact h.last y (by rw [List.getLast?_eq_getElem?]; exact hy)
  · rcases List.mem_or_eq_of_mem_set hy with hy | rfl
    · exact h.zero y hy hf
    · exact absurd (hf : x.held = false) (by rw [hh]; simp)
  · rcases List.mem_or_eq_of_mem_set hy with hy | rfl
    · exact h.good y hy hf
    · exact h.good x (List.mem_of_getElem? hx) hh
  · have := cnt_held { x with v := v } hx
    rw [if_pos hh] at this
    rw [h.cnt]; omega
theorem Set_c {w : World} {B p : Nat} {f : List Nat} {s : TS} (h : At w B p f s) (name : ByteArray) (v : Int) {R : Ending → World → Prop}
    (k : ∀ w', At w' B p f (setV s name v) → Ext f w w' → R (.returned (.int .i64 (lookV s name).2)) w') : Calls Try.prog 12 #[.pointer (some ⟨p, 0, none⟩), .string name, .int .i64 v] w R := by
  apply slots_Table_int__Set_nf
  refine look_c h name ⟨_, _, rfl, ?_⟩
  by_cases e : (lookV s name).2 = 0
  · obtain ⟨i, x, hx, hh, hn, e1, hg⟩ := lookV_ok h e
    obtain ⟨r, A, n, c, q, inv, rfl⟩ := h
    have hl := q.own.len
    have hil := (List.getElem?_eq_some_iff.1 hx).1
    have hv : setV s name v = { s with rows := s.rows.set i { x with v := v } } := by
      unfold setV
      rw [if_pos e, e1, Int.toNat_natCast, show s.rows.getD i Rw.zero = x by simp [List.getD_eq_getElem?_getD, hx]]
    rw [hv] at k
    rw [e] at k ⊢
    rw [e1]
    obtain ⟨g, w1, rfl, hr1, own1, x1⟩ := q.own.setCell (P := Try.prog) (i := i) (k := 2) (x := x) (y := { x with v := v }) (v := .int .i64 v) hx (by decide) rfl i3s rfl rfl
    have hr1' : Sem.run Try.prog (Instr.storeAt 3 (.pointer (some (Addr.add (Addr.add ⟨g, 0, none⟩ (Int.toNat (i : Int) * 3)) 2))) (.int .i64 v)) w = .ok () w1 := by rw [Int.toNat_natCast]; exact hr1
    have hrF := q.hr
    simp only [List.mem_cons, not_or] at hrF
    refine sel_true rfl (ptr_in ⟨_, _, _, cadd q.hdr rfl, when_dec ⟨by omega, by omega⟩ (ptr_in ⟨w1, hr1', k w1 ⟨r, some ⟨g, 0, none⟩, n, c, ⟨q.hdr.ext x1 q.hp, own1, q.mp.ext x1 hrF.2, q.hp, q.hr, Nat.le_trans q.hB x1.size⟩, inv.turn hx hh v, rfl⟩ ?_⟩)⟩)
    exact x1.weaken fun b hb => .inl (by simp [hb])
  · have hv : setV s name v = s := by unfold setV; rw [if_neg e]
    rw [hv] at k
    exact sel_false (by simpa using e) (k w h (Ext.refl _ _))
end Go.Proofs.Ytcampkaenlohbaa
