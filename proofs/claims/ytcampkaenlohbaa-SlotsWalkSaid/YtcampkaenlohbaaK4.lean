/- Slots: the scripts that come in; the fixed calls; what the map of names tells. -/
import Derived.Test.YtcampkaenlohbaaK3
import Derived.Test.YtcampkaenlohbaaOg
set_option linter.unusedVariables false
set_option linter.unusedSimpArgs false
namespace Go.Proofs.Ytcampkaenlohbaa
open Go Go.V Go.B

structure Op where
  kind : Int
  at_ : Int
  to : Int
  name : ByteArray
  v : Int
def Op.cells (o : Op) : List Value := [.int .i64 o.kind, .int .i64 o.at_, .int .i64 o.to, .string o.name, .int .i64 o.v]
def OL : Lay Op := ⟨Op.cells, 5, fun _ => rfl, fun x v hv => by
  simp only [Op.cells, List.mem_cons, List.not_mem_nil, or_false] at hv
  rcases hv with rfl | rfl | rfl | rfl | rfl <;> rfl, by omega⟩
def OpsAt (w : World) (A : Option Addr) (n : Nat) (ops : List Op) : Prop := Cells w A (OL.flat ops) ∧ ops.length = n ∧ n * 48 ≤ 140737488351232
theorem OpsAt.ext0 {w w' : World} {A : Option Addr} {n : Nat} {ops : List Op} (h : OpsAt w A n ops) (e : Ext [] w w') : OpsAt w' A n ops := ⟨h.1.ext0 e, h.2⟩
theorem OpsAt.read {w : World} {A : Option Addr} {n : Nat} {ops : List Op} (h : OpsAt w A n ops) {a : Nat} (ha : a < n) : ∃ o ad, ops[a]? = some o ∧ A = some ad ∧ cellsC (fun a v => w.cell? a = some v) (ad.add (Int.toNat (a : Int) * 5)) o.cells := h.1.row h.2.1 ha
section
variable {H : Type} {enc : TypeId × Value → H} {w : World}
theorem five {α : Type} {cs : List α} {a b c d e : α} (h : cs.length = 5) (h0 : cs[0]? = some a) (h1 : cs[1]? = some b) (h2 : cs[2]? = some c) (h3 : cs[3]? = some d) (h4 : cs[4]? = some e) : cs = [a, b, c, d, e] := by
  match cs, h with
  | [_, _, _, _, _], _ => simp at h0 h1 h2 h3 h4; simp [h0, h1, h2, h3, h4]
set_option maxRecDepth 8000 in
theorem open_op {n : Nat} {cs : List Value} {z : DataW H × List MemPlace} (h : DataW.trod enc Try.prog w 0 (fun _ => true) true n 31 cs = some z) (hw : ∀ k ∈ z.1.weights Try.prog 31, k ≤ reachBytes) :
    ∃ o : Op, cs = OL.enc o ∧ True := by
  obtain ⟨hl, m, hf⟩ := trod_fields Try.underlying31 (by kernel_rfl) (by kernel_rfl) h hw
  obtain ⟨v0, y0, e0, t0, -⟩ := hf 0 _ rfl
  obtain ⟨v1, y1, e1, t1, -⟩ := hf 1 _ rfl
  obtain ⟨v2, y2, e2, t2, -⟩ := hf 2 _ rfl
  obtain ⟨v3, y3, e3, t3, -⟩ := hf 3 _ rfl
  obtain ⟨v4, y4, e4, t4, -⟩ := hf 4 _ rfl
  obtain ⟨a0, r0, -⟩ := DataW.trod_int Try.underlying3 t0
  obtain ⟨a1, r1, -⟩ := DataW.trod_int Try.underlying3 t1
  obtain ⟨a2, r2, -⟩ := DataW.trod_int Try.underlying3 t2
  obtain ⟨s, r3, -⟩ := DataW.trod_string Try.underlying9 t3
  obtain ⟨a4, r4, -⟩ := DataW.trod_int Try.underlying3 t4
  simp only [List.cons.injEq, and_true] at r0 r1 r2 r3 r4
  subst r0 r1 r2 r3 r4
  exact ⟨⟨a0, a1, a2, s, a4⟩, five hl e0 e1 e2 e3 e4, trivial⟩
set_option maxRecDepth 8000 in
theorem open_ops {base : Nat} {v : Value} {d : DataW H} {p : List MemPlace} (hok : Value.okWide Try.prog w .any base 23 v) (h : DataW.Trod enc Try.prog w 0 (fun _ => true) true 23 v d p)
    (hw : ∀ n ∈ d.weights Try.prog 23, n ≤ reachBytes) : ∃ A n c ops, v = .slice A n c ∧ OpsAt w A n ops := by
  obtain ⟨a, l, c, rfl⟩ := Go.WideShapes.okWide_slice Try.underlying23 hok
  obtain ⟨fuel, hf⟩ := h
  have hf' : DataW.trod enc Try.prog w 0 (fun _ => true) true fuel 23 [.slice a l c] = some (d, p) := hf
  obtain ⟨A, n, c', ops, hv, hc, hlen, hin, hb⟩ := open_flat OL (P := Try.prog) (t := 23) (e := 31) (Q := fun _ => True) Try.underlying23 (by kernel_rfl) (by decide) (fun _ _ _ h hw => open_op h hw) hf' hw
  have eb : Try.prog.bytesOf 31 = 48 := by kernel_rfl
  rw [eb] at hb
  simp only [Value.slice.injEq] at hv
  obtain ⟨rfl, rfl, rfl⟩ := hv
  exact ⟨a, l, c, ops, rfl, hc, hlen, hb⟩
end
theorem i31s : (Try.prog.info? 31).map (·.size) = some 5 := by kernel_rfl
theorem op_box {w w1 : World} {o : Op} (h : w1 = w.alloc (.cells #[.int .i64 0, .int .i64 0, .int .i64 0, .string ByteArray.empty, .int .i64 0] 31)) :
    ∃ w2, Sem.run Try.prog (Instr.storeAt 31 (.pointer (some ⟨w.heap.size, 0, none⟩)) (.agg ⟨o.cells⟩)) w1 = .ok () w2 ∧ BlkT w2 w.heap.size o.cells 31 ∧ Ext [] w w2 := by
  obtain ⟨b1, x1, z1⟩ := box_new (cs := [.int .i64 0, .int .i64 0, .int .i64 0, .string ByteArray.empty, .int .i64 0]) h
  obtain ⟨w2, hr, b2, e2⟩ := storeW (P := Try.prog) (t := 31) (n := 5) (vs := o.cells) i31s b1 rfl rfl (OL.one o)
  exact ⟨w2, hr, b2, x1.trans' e2 (fun b hb => .inr (by simp at hb; omega))⟩
def bA : ByteArray := ⟨#[97]⟩
def bB : ByteArray := ⟨#[98]⟩
def bC : ByteArray := ⟨#[99]⟩
def t0 : TS := ⟨2, [], [], 0⟩
def t1 : TS := (putV t0 bB 7).1
def t2 : TS := (putV t1 bA 8).1
def t3 : TS := (putV t2 bC 9).1
def t4 : TS := (dropV t3 bB).1
set_option maxRecDepth 20000 in
theorem f1 : (putV t0 bB 7).2 = (0, 0) := by decide +kernel
set_option maxRecDepth 20000 in
theorem f2 : (putV t1 bA 8).2 = (1, 0) := by decide +kernel
set_option maxRecDepth 20000 in
theorem f3 : (putV t2 bC 9).2 = (0, 53) := by decide +kernel
set_option maxRecDepth 20000 in
theorem f4 : (dropV t3 bB).2 = (0, 0) := by decide +kernel
set_option maxRecDepth 20000 in
theorem f5 : (putV t4 bC 5).2 = (0, 0) := by decide +kernel
theorem fixed_c {w : World} {R : Ending → World → Prop} (k : ∀ w', Ext [] w w' → R (.returned (.bool true)) w') : Calls Try.prog 9 #[] w R := by
  apply berthlaw05_fixed_nf
  refine New_c 2 (fun h => by omega) fun p f w1 _ _ e1 q1 hf => ⟨_, _, rfl, sel_false rfl (sel_false rfl ?_)⟩
  have hf' : ∀ b ∈ f, w.heap.size ≤ b := hf
  refine Put_c (s := t0) q1 bB 7 fun w2 fA q2 x2 g2 => ⟨_, _, rfl, Put_c (s := t1) q2 bA 8 fun w3 fB q3 x3 g3 => ⟨_, _, rfl, Put_c (s := t2) q3 bC 9 fun w4 fC q4 x4 g4 => ⟨_, _, rfl, Drop_c (s := t3) q4 bB fun w5 q5 x5 => ⟨_, _, rfl, Put_c (s := t4) q5 bC 5 fun w6 fD q6 x6 g6 => ⟨_, _, rfl, ?_⟩⟩⟩⟩⟩
  have a1 := Ext.old e1 hf' x2
  have h1 := Grow.old e1 hf' g2
  have a2 := Ext.old a1 h1 x3
  have h2 := Grow.old a1 h1 g3
  have a3 := Ext.old a2 h2 x4
  have h3 := Grow.old a2 h2 g4
  have a4 := Ext.old a3 h3 x5
  have a5 := Ext.old a4 h3 x6
  show V.sel ((putV t0 bB 7).2.1 == 0) _ _
  rw [f1, f2, f3, f4, f5]
  exact sel_true rfl (sel_true rfl (sel_true rfl (sel_true rfl (sel_true rfl (sel_true rfl (sel_true rfl (sel_true rfl (k w6 a5))))))))

/-! ### what the map of names tells -/
theorem look_some {w : World} {B p : Nat} {f : List Nat} {s : TS} (h : At w B p f s) (name : ByteArray) : lookV s name = match mget s.m name with
    | some v => (v, 0)
    | none => (0, if badN name then 51 else 54) := by
  unfold lookV
  by_cases hb : badN name
  · rw [if_pos hb]
    cases hg : mget s.m name with
    | none => simp [hb]
    | some v =>
      obtain ⟨i, x, hx, hh, hn, _⟩ := (h.inv.mp name v).1 hg
      have := h.inv.good x (List.mem_of_getElem? hx) hh
      rw [hn] at this
      unfold badN at hb
      omega
  · rw [if_neg hb]
    cases hg : mget s.m name with
    | none => simp [hb]
    | some v => rfl
theorem look_zero {w : World} {B p : Nat} {f : List Nat} {s : TS} (h : At w B p f s) (name : ByteArray) : ((lookV s name).2 == 0) = (mget s.m name).isSome := by
  rw [look_some h name]
  cases mget s.m name with
  | some v => rfl
  | none => simp only []; split <;> rfl
theorem free_lo {rows : List Rw} {i : Nat} (h : i < freeAt rows) : ∃ x, rows[i]? = some x ∧ x.held = true := by
  have hl : i < rows.length := Nat.lt_of_lt_of_le h List.findIdx_le_length
  refine ⟨rows[i], List.getElem?_eq_getElem hl, ?_⟩
  have := List.not_of_lt_findIdx h
  simpa using this
theorem free_at (rows : List Rw) : freeAt rows = rows.length ∨ ∃ x, rows[freeAt rows]? = some x ∧ x.held = false := by
  rcases Nat.lt_or_ge (freeAt rows) rows.length with h | h
  · refine .inr ⟨rows[freeAt rows], List.getElem?_eq_getElem h, ?_⟩
    have : (fun (x : Rw) => !x.held) (rows[freeAt rows]) = true := List.findIdx_getElem (w := h)
    simpa using this
  · exact .inl (Nat.le_antisymm List.findIdx_le_length h)
theorem free_le (rows : List Rw) : freeAt rows ≤ rows.length := List.findIdx_le_length
def occ (m : List (ByteArray × Int)) (j : Int) : Prop := ∃ k, mget m k = some j
end Go.Proofs.Ytcampkaenlohbaa
