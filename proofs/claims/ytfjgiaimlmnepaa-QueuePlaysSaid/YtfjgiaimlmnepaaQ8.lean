/- The scripts that come in; what the calls do, as plain functions; the laws' helpers. -/
import Derived.Test.YtfjgiaimlmnepaaQ7
import Derived.Test.YtfjgiaimlmnepaaOg
set_option linter.unusedVariables false
set_option linter.unusedSimpArgs false
namespace Go.Proofs.Ytfjgiaimlmnepaa
open Go Go.V Go.B

/-! ### what comes in -/
structure Op where
  kind : Int
  name : ByteArray
  pr : Int
  now : Int
  A : Option Addr
  l : Nat
  c : Nat
  rows : List Wt
def Op.cells (o : Op) : List Value := [.int .i64 o.kind, .string o.name, .int .i64 o.pr, .int .i64 o.now, .slice o.A o.l o.c]
def OL : Lay Op := ⟨Op.cells, 5, fun _ => rfl, fun x v hv => by
  simp only [Op.cells, List.mem_cons, List.not_mem_nil, or_false] at hv
  rcases hv with rfl | rfl | rfl | rfl | rfl <;> rfl, by omega⟩
theorem OLsz : OL.sz = 5 := rfl
def Op.In (w : World) (o : Op) : Prop := Cells w o.A (flatW o.rows) ∧ o.rows.length = o.l ∧ o.l * 56 ≤ 140737488351232
def OpsAt (w : World) (A : Option Addr) (n : Nat) (ops : List Op) : Prop := Cells w A (OL.flat ops) ∧ ops.length = n ∧ (∀ o ∈ ops, o.In w) ∧ n * 64 ≤ 140737488351232
theorem Op.In.ext0 {w w' : World} {o : Op} (h : o.In w) (e : Ext [] w w') : o.In w' := ⟨h.1.ext0 e, h.2⟩
theorem OpsAt.ext0 {w w' : World} {A : Option Addr} {n : Nat} {ops : List Op} (h : OpsAt w A n ops) (e : Ext [] w w') : OpsAt w' A n ops := ⟨h.1.ext0 e, h.2.1, fun o ho => (h.2.2.1 o ho).ext0 e, h.2.2.2⟩

section
variable {H : Type} {enc : TypeId × Value → H} {w : World}
theorem six {α : Type} {cs : List α} {a b c d e f : α} (h : cs.length = 6) (h0 : cs[0]? = some a) (h1 : cs[1]? = some b) (h2 : cs[2]? = some c) (h3 : cs[3]? = some d) (h4 : cs[4]? = some e) (h5 : cs[5]? = some f) : cs = [a, b, c, d, e, f] := by
  match cs, h with
  | [_, _, _, _, _, _], _ => simp at h0 h1 h2 h3 h4 h5; simp [h0, h1, h2, h3, h4, h5]
theorem five {α : Type} {cs : List α} {a b c d e : α} (h : cs.length = 5) (h0 : cs[0]? = some a) (h1 : cs[1]? = some b) (h2 : cs[2]? = some c) (h3 : cs[3]? = some d) (h4 : cs[4]? = some e) : cs = [a, b, c, d, e] := by
  match cs, h with
  | [_, _, _, _, _], _ => simp at h0 h1 h2 h3 h4; simp [h0, h1, h2, h3, h4]
theorem open_wt {n : Nat} {cs : List Value} {z : DataW H × List MemPlace} (h : DataW.trod enc Try.prog w 0 (fun _ => true) true n 34 cs = some z) (hw : ∀ k ∈ z.1.weights Try.prog 34, k ≤ reachBytes) :
    ∃ x : Wt, cs = WL.enc x ∧ True := by
  obtain ⟨hl, m, hf⟩ := trod_fields Try.underlying34 (by kernel_rfl) (by kernel_rfl) h hw
  obtain ⟨v0, y0, e0, t0, -⟩ := hf 0 _ rfl
  obtain ⟨v1, y1, e1, t1, -⟩ := hf 1 _ rfl
  obtain ⟨v2, y2, e2, t2, -⟩ := hf 2 _ rfl
  obtain ⟨v3, y3, e3, t3, -⟩ := hf 3 _ rfl
  obtain ⟨v4, y4, e4, t4, -⟩ := hf 4 _ rfl
  obtain ⟨v5, y5, e5, t5, -⟩ := hf 5 _ rfl
  obtain ⟨s, r0, -⟩ := DataW.trod_string Try.underlying9 t0
  obtain ⟨a1, r1, -⟩ := DataW.trod_int Try.underlying3 t1
  obtain ⟨a2, r2, -⟩ := DataW.trod_int Try.underlying3 t2
  obtain ⟨a3, r3, -⟩ := DataW.trod_int Try.underlying3 t3
  obtain ⟨a4, r4, -⟩ := DataW.trod_int Try.underlying3 t4
  obtain ⟨b5, r5, -⟩ := DataW.trod_bool Try.underlying4 t5
  simp only [List.cons.injEq, and_true] at r0 r1 r2 r3 r4 r5
  subst r0 r1 r2 r3 r4 r5
  exact ⟨⟨s, a1, a2, a3, a4, b5⟩, six hl e0 e1 e2 e3 e4 e5, trivial⟩
theorem open_op {n : Nat} {cs : List Value} {z : DataW H × List MemPlace} (h : DataW.trod enc Try.prog w 0 (fun _ => true) true n 31 cs = some z) (hw : ∀ k ∈ z.1.weights Try.prog 31, k ≤ reachBytes) :
    ∃ o : Op, cs = OL.enc o ∧ o.In w := by
  obtain ⟨hl, m, hf⟩ := trod_fields Try.underlying31 (by kernel_rfl) (by kernel_rfl) h hw
  obtain ⟨v0, y0, e0, t0, -⟩ := hf 0 _ rfl
  obtain ⟨v1, y1, e1, t1, -⟩ := hf 1 _ rfl
  obtain ⟨v2, y2, e2, t2, -⟩ := hf 2 _ rfl
  obtain ⟨v3, y3, e3, t3, -⟩ := hf 3 _ rfl
  obtain ⟨v4, y4, e4, t4, w4⟩ := hf 4 _ rfl
  obtain ⟨a0, r0, -⟩ := DataW.trod_int Try.underlying3 t0
  obtain ⟨s, r1, -⟩ := DataW.trod_string Try.underlying9 t1
  obtain ⟨a2, r2, -⟩ := DataW.trod_int Try.underlying3 t2
  obtain ⟨a3, r3, -⟩ := DataW.trod_int Try.underlying3 t3
  simp only [List.cons.injEq, and_true] at r0 r1 r2 r3
  obtain ⟨A, l, c, rows, rfl, hc, hlen, -, hb⟩ := open_flat WL (P := Try.prog) (t := 29) (e := 34) (Q := fun _ => True) Try.underlying29 (by kernel_rfl) (by decide) (fun _ _ _ h hw => open_wt h hw) t4 w4
  have eb : Try.prog.bytesOf 34 = 56 := by kernel_rfl
  rw [eb] at hb
  subst r0 r1 r2 r3
  exact ⟨⟨a0, s, a2, a3, A, l, c, rows⟩, five hl e0 e1 e2 e3 e4, hc, hlen, hb⟩
theorem open_ops {base : Nat} {v : Value} {d : DataW H} {p : List MemPlace} (hok : Value.okWide Try.prog w .any base 25 v) (h : DataW.Trod enc Try.prog w 0 (fun _ => true) true 25 v d p)
    (hw : ∀ n ∈ d.weights Try.prog 25, n ≤ reachBytes) : ∃ A n c ops, v = .slice A n c ∧ OpsAt w A n ops ∧ n ≤ c := by
  obtain ⟨a, l, c, rfl⟩ := Go.WideShapes.okWide_slice Try.underlying25 hok
  obtain ⟨fuel, hf⟩ := h
  have hf' : DataW.trod enc Try.prog w 0 (fun _ => true) true fuel 25 [.slice a l c] = some (d, p) := hf
  obtain ⟨A, n, c', ops, hv, hc, hlen, hin, hb⟩ := open_flat OL (P := Try.prog) (t := 25) (e := 31) (Q := Op.In w) Try.underlying25 (by kernel_rfl) (by decide) (fun _ _ _ h hw => open_op h hw) hf' hw
  have eb : Try.prog.bytesOf 31 = 64 := by kernel_rfl
  rw [eb] at hb
  have hlc : l ≤ c := by
    rcases DataW.trod_slice Try.underlying25 hf' with ⟨hcs, _⟩ | ⟨a', len, cap, _, _, _, _, hcs, _, _, hl, _⟩
    · simp at hcs; omega
    · simp at hcs; omega
  simp only [Value.slice.injEq] at hv
  obtain ⟨rfl, rfl, rfl⟩ := hv
  exact ⟨a, l, c, ops, rfl, ⟨hc, hlen, hin, hb⟩, hlc⟩
end

/-! ### the calls as plain functions -/
structure QS where
  xs : List Wt
  next : Nat
def named (name : ByteArray) (x : Wt) : Bool := decide (x.name = name)
def pushV (s : QS) (name : ByteArray) (pr : Int) : QS × Int :=
  if s.xs.any (named name) then (s, 250) else if 2048 ≤ s.xs.length then (s, 251) else if 1099511627776 ≤ s.next then (s, 253) else (⟨ins s.xs (Wt.new name pr s.next), s.next + 1⟩, 0)
def takeV (s : QS) (name : ByteArray) : QS × Wt × Int := match s.xs.findIdx? (named name) with
  | none => (s, Wt.zero, 252)
  | some j => (⟨s.xs.eraseIdx j, s.next⟩, s.xs.getD j Wt.zero, 0)
def parkV (s : QS) (name : ByteArray) (now : Int) : QS × Int := match s.xs.findIdx? (named name) with
  | none => (s, 252)
  | some j => if now < 0 ∨ 1099511627776 < now then (s, 254) else (⟨s.xs.set j ((s.xs.getD j Wt.zero).parked now), s.next⟩, 0)
def wakeV (s : QS) : QS := ⟨s.xs.map Wt.woken, s.next⟩
def stepV (s : QS) (o : Op) : QS := if o.kind = 4 then (pushV s o.name o.pr).1 else if o.kind = 5 then (takeV s o.name).1 else if o.kind = 7 then (parkV s o.name o.now).1 else if o.kind = 8 then wakeV s else s
def playV (s : QS) (ops : List Op) : QS := ops.foldl stepV s
/-- The queue at p. -/
def At (w : World) (B p : Nat) (f : List Nat) (s : QS) : Prop := QAt w B p f s.xs s.next
theorem any_no {xs : List Wt} {name : ByteArray} (h : ∀ x ∈ xs, x.name ≠ name) : xs.any (named name) = false := by
  rw [List.any_eq_false]; intro x hx; simpa [named] using h x hx
theorem any_yes {xs : List Wt} {name : ByteArray} {x : Wt} (h : x ∈ xs) (e : x.name = name) : xs.any (named name) = true := by
  rw [List.any_eq_true]; exact ⟨x, h, by simp [named, e]⟩
theorem idx_no {xs : List Wt} {name : ByteArray} (h : ∀ x ∈ xs, x.name ≠ name) : xs.findIdx? (named name) = none := by
  rw [List.findIdx?_eq_none_iff]; intro x hx; simpa [named] using h x hx
theorem idx_yes {xs : List Wt} {name : ByteArray} {j : Nat} {x : Wt} (hn : (xs.map (·.name)).Nodup) (h : xs[j]? = some x) (e : x.name = name) : xs.findIdx? (named name) = some j := by
  obtain ⟨hj, hx⟩ := List.getElem?_eq_some_iff.1 h
  rw [List.findIdx?_eq_some_iff_getElem]
  refine ⟨hj, by simp [named, hx, e], fun k hk => ?_⟩
  have := (List.pairwise_iff_getElem.1 hn) k j (by simp; omega) (by simp; omega) hk
  simp only [List.getElem_map, hx, e] at this
  simpa [named] using this
theorem QAt.names {w : World} {B p : Nat} {f : List Nat} {xs : List Wt} {next : Nat} (h : QAt w B p f xs next) : (xs.map (·.name)).Nodup := by
  obtain ⟨r, A, n, c, m, q, i, rfl⟩ := h
  exact i.names
theorem getD_of {xs : List Wt} {j : Nat} {x : Wt} (h : xs[j]? = some x) : xs.getD j Wt.zero = x := by simp [List.getD_eq_getElem?_getD, h]
theorem Push_v {w : World} {B p : Nat} {f : List Nat} {s : QS} (h : At w B p f s) (name : ByteArray) (pr : Int) {R : Ending → World → Prop}
    (k : ∀ w' f', At w' B p f' (pushV s name pr).1 → Ext f w w' → Grow w f f' → R (.returned (.int .i64 (pushV s name pr).2)) w') : Calls Try.prog 14 #[.pointer (some ⟨p, 0, none⟩), .string name, .int .i64 pr] w R := by
  have same : ∀ c w', pushV s name pr = (s, c) → Ext [] w w' → R (.returned (.int .i64 c)) w' := fun c w' hv e => by
    rw [hv] at k
    exact k w' f (h.ext0 e) (e.weaken (fun _ h => by cases h)) (Grow.refl _ _)
  refine Push_c h name pr (fun x hx hn w' e => same _ _ ?_ e) (fun hno hl w' e => same _ _ ?_ e) (fun hno hl hq w' e => same _ _ ?_ e) (fun hno hl hq w' f' q e g => ?_)
  · unfold pushV; rw [any_yes hx hn]; rfl
  · unfold pushV; rw [any_no hno, if_pos hl]; rfl
  · unfold pushV; rw [any_no hno, if_neg (show ¬ 2048 ≤ s.xs.length by omega), if_pos hq]; rfl
  · have hv : pushV s name pr = (⟨ins s.xs (Wt.new name pr s.next), s.next + 1⟩, 0) := by unfold pushV; rw [any_no hno, if_neg (show ¬ 2048 ≤ s.xs.length by omega), if_neg (show ¬ 1099511627776 ≤ s.next by omega)]; rfl
    rw [hv] at k
    exact k w' f' q e g
theorem Take_v {w : World} {B p : Nat} {f : List Nat} {s : QS} (h : At w B p f s) (name : ByteArray) {R : Ending → World → Prop}
    (k : ∀ w', At w' B p f (takeV s name).1 → Ext f w w' → R (.returned (.tuple #[(takeV s name).2.1.val, .int .i64 (takeV s name).2.2])) w') : Calls Try.prog 15 #[.pointer (some ⟨p, 0, none⟩), .string name] w R := by
  refine Take_c h name (fun hno w' e => ?_) (fun j x hx hn w' q e => ?_)
  · have hv : takeV s name = (s, Wt.zero, 252) := by unfold takeV; rw [idx_no hno]
    rw [hv] at k
    exact k w' (h.ext0 e) (e.weaken (fun _ h => by cases h))
  · have hv : takeV s name = (⟨s.xs.eraseIdx j, s.next⟩, x, 0) := by unfold takeV; rw [idx_yes (QAt.names h) hx hn]; simp only [getD_of hx]
    rw [hv] at k
    exact k w' q e
theorem Park_v {w : World} {B p : Nat} {f : List Nat} {s : QS} (h : At w B p f s) (name : ByteArray) (now : Int) {R : Ending → World → Prop}
    (k : ∀ w' f', At w' B p f' (parkV s name now).1 → Ext f w w' → Grow w f f' → R (.returned (.int .i64 (parkV s name now).2)) w') : Calls Try.prog 17 #[.pointer (some ⟨p, 0, none⟩), .string name, .int .i64 now] w R := by
  refine Park_c h name now (fun hno w' e => ?_) (fun x hx hn ho w' e => ?_) (fun j x hx hn h0 h1 w' f' q e g => ?_)
  · have hv : parkV s name now = (s, 252) := by unfold parkV; rw [idx_no hno]
    rw [hv] at k
    exact k w' f (h.ext0 e) (e.weaken (fun _ h => by cases h)) (Grow.refl _ _)
  · obtain ⟨j, hj⟩ := List.mem_iff_getElem?.1 hx
    have hv : parkV s name now = (s, 254) := by unfold parkV; rw [idx_yes (QAt.names h) hj hn]; simp only [if_pos ho]
    rw [hv] at k
    exact k w' f (h.ext0 e) (e.weaken (fun _ h => by cases h)) (Grow.refl _ _)
  · have hv : parkV s name now = (⟨s.xs.set j (x.parked now), s.next⟩, 0) := by unfold parkV; rw [idx_yes (QAt.names h) hx hn]; simp only [if_neg (show ¬ (now < 0 ∨ 1099511627776 < now) by omega), getD_of hx]
    rw [hv] at k
    exact k w' f' q e g
theorem Wake_v {w : World} {B p : Nat} {f : List Nat} {s : QS} (h : At w B p f s) {R : Ending → World → Prop}
    (k : ∀ w', At w' B p f (wakeV s) → Ext f w w' → R (.returned undef) w') : Calls Try.prog 18 #[.pointer (some ⟨p, 0, none⟩)] w R := Wake_c h k

/-! ### the helpers -/
theorem num_c (x : Int) {w : World} {R : Ending → World → Prop} (k : R (.returned (.int .i64 x)) w) : Calls Try.prog 11 #[.int .i64 x] w R := by
  apply berthlaw25_num_nf; exact k
theorem beqBytes (a b : ByteArray) : (ByteArray.toList a == ByteArray.toList b) = decide (a = b) := by
  rw [ByteArray.toList_eq, ByteArray.toList_eq, Bool.eq_iff_iff, beq_iff_eq, decide_eq_true_eq]
  exact ⟨fun h => Go.WideShapes.bytes_inj h, fun h => by rw [h]⟩
def same (x y : Wt) : Bool := (ByteArray.toList x.name == ByteArray.toList y.name) && ((x.pr == y.pr) && ((x.seq == y.seq) && ((x.tries == y.tries) && ((x.til == y.til) && ((x.asleep == y.asleep) && true)))))
theorem same_iff {x y : Wt} : same x y = true ↔ x = y := by
  unfold same
  rw [beqBytes]
  obtain ⟨a, b, c, d, e, f⟩ := x
  obtain ⟨a', b', c', d', e', f'⟩ := y
  simp
theorem SameRows_c {w : World} {A A' : Option Addr} {n n' c c' : Nat} {xs ys : List Wt} (hx : Cells w A (flatW xs)) (hn : xs.length = n) (hy : Cells w A' (flatW ys)) (hn' : ys.length = n') (hb : n < 4611686018427387904) {R : Ending → World → Prop}
    (k1 : xs = ys → ∀ w', Ext [] w w' → R (.returned (.bool true)) w') (k2 : xs ≠ ys → ∀ w', Ext [] w w' → R (.returned (.bool false)) w') : Calls Try.prog 26 #[.slice A n c, .slice A' n' c'] w R := by
  apply berthref25_SameRows_nf
  refine sel_intro (fun h => k2 (fun e => by subst e; simp at h; omega) w (Ext.refl _ _)) (fun h => ?_)
  have hnn : n = n' := by simp at h; omega
  subst hnn
  refine ⟨fun t w' => ∃ a : Nat, t = a ∧ a ≤ n ∧ Ext [] w w' ∧ xs.take a = ys.take a, fun t _ => n - t.toNat, ⟨0, rfl, by omega, Ext.refl _ _, rfl⟩, ?_⟩
  rintro _ _ w1 ⟨a, rfl, ha, e1, he⟩
  refine sel_dec (fun hlt => ?_) (fun hge => ?_)
  · obtain ⟨x, hxx⟩ : ∃ x, xs[a]? = some x := ⟨xs[a]'(by omega), List.getElem?_eq_getElem (by omega)⟩
    obtain ⟨y, hyy⟩ : ∃ y, ys[a]? = some y := ⟨ys[a]'(by omega), List.getElem?_eq_getElem (by omega)⟩
    obtain ⟨ad, rfl, rx⟩ := WL.read (hx.ext0 e1) hxx
    obtain ⟨ad', rfl, ry⟩ := WL.read (hy.ext0 e1) hyy
    rw [WLsz] at rx ry
    have rx : cellsC (fun a v => w1.cell? a = some v) (ad.add (Int.toNat (a : Int) * 6)) x.cells := by rw [Int.toNat_natCast]; exact rx
    have ry : cellsC (fun a v => w1.cell? a = some v) (ad'.add (Int.toNat (a : Int) * 6)) y.cells := by rw [Int.toNat_natCast]; exact ry
    refine when_dec ⟨by omega, by omega⟩ (ptr_in ⟨_, _, _, _, _, _, rx, when_dec ⟨by omega, by omega⟩ (ptr_in ⟨_, _, _, _, _, _, ry, ?_⟩)⟩)
    show V.sel (!(same x y)) _ _
    refine sel_intro (fun h => k2 (fun e => ?_) _ e1.drew) (fun h => ?_)
    · subst e; rw [hxx] at hyy; cases hyy; rw [same_iff.2 rfl] at h; cases h
    · have hxy : x = y := same_iff.1 (by simpa using h)
      subst hxy
      rw [up64 a (by omega)]
      exact ⟨⟨a + 1, rfl, by omega, e1.drew, by rw [take_snoc hxx, take_snoc hyy, he]⟩, by simp only [Int.toNat_natCast]; omega⟩
  · have : a = n := by omega
    subst this
    exact k1 (by rw [List.take_of_length_le (by omega), List.take_of_length_le (by omega)] at he; exact he) w1 e1
theorem rows_c {w : World} {A : Option Addr} {n c : Nat} {xs : List Wt} (hx : Cells w A (flatW xs)) (hn : xs.length = n) (hb : n * 56 ≤ 140737488355328) {R : Ending → World → Prop}
    (k : ∀ A' c' w', Ext [] w w' → OwnW w' w.heap.size A' n c' xs → R (.returned (.slice A' n c')) w') : Calls Try.prog 28 #[.slice A n c] w R := by
  apply berthlaw25_rows_nf
  intro w1 h1
  obtain ⟨b1, x1, z1⟩ := box_new (cs := []) h1
  have o1 : w1.ownsRow w.heap.size 34 6 (.slice (some ⟨w.heap.size, 0, none⟩) 0 0) 0 [] := own_of b1 (Nat.le_refl _) (Nat.le_refl _) (by simp only [maxLen]; omega) rfl rfl
  obtain ⟨A', c', w2, hr, ho, he, hat⟩ := appR (P := Try.prog) (ty := 29) (m := n) (cy := c) (Y := A) u29 i34 z34s (by omega) (by omega) o1 (ys := flatW xs) (by rw [flatW_len, hn]) (hx.ext0 x1) (WL.flat_one _) (by omega) (by omega)
  rw [Nat.zero_add] at hr ho
  refine ⟨_, _, _, _, hr, ?_⟩
  have e2 : Ext [] w w2 := x1.trans' he (fun b hb => .inr (by simp [ownF] at hb; omega))
  exact k A' c' w2 e2 (by unfold OwnW; simpa using ho)
theorem lawAhead_c (a b : Wt) {w : World} {R : Ending → World → Prop} (k : ∀ w', Ext [] w w' → R (.returned (.bool (ahead a b))) w') : Calls Try.prog 24 #[a.val, b.val] w R := by
  unfold Wt.val
  apply berthlaw25_ahead_nf
  intro w1 h1 w2 h2
  obtain ⟨b1, x1, z1⟩ := box_new (cs := a.cells) h1
  obtain ⟨b2, x2, z2⟩ := box_new (cs := b.cells) h2
  replace b1 := b1.ext x2 (by simp)
  have hk := k w2 (x1.trans x2)
  unfold ahead at hk
  refine ⟨_, cadd b1 rfl, _, cadd b2 rfl, sel_dec (fun h => ?_) (fun h => ?_)⟩
  · rw [decide_eq_true (show b.pr < a.pr by omega), Bool.true_or] at hk; exact hk
  · rw [decide_eq_false (show ¬ b.pr < a.pr by omega), Bool.false_or] at hk
    refine ⟨_, cadd b1 rfl, _, cadd b2 rfl, sel_intro (fun h2 => ?_) (fun h2 => ?_)⟩
    · have h2 := eq_of_beq h2
      rw [decide_eq_true h2, Bool.true_and] at hk
      exact ⟨_, cadd b1 rfl, _, cadd b2 rfl, hk⟩
    · have h2 : ¬ a.pr = b.pr := fun e => by rw [e] at h2; simp at h2
      rw [decide_eq_false h2, Bool.false_and] at hk
      exact hk
def bytesA : ByteArray := ⟨#[97]⟩
theorem awake_c {w : World} {R : Ending → World → Prop} (k : ∀ w', Ext [] w w' → R (.returned (.bool true)) w') : Calls Try.prog 12 #[] w R := by
  apply berthlaw25_awake_nf
  refine New_c fun p f w1 e1 q1 hf => ⟨_, rfl, sel_false rfl (Push_v (s := ⟨[], 0⟩) q1 bytesA 3 fun w2 f2 q2 e2 g2 => ?_)⟩
  have hv : pushV ⟨[], 0⟩ bytesA 3 = (⟨[Wt.new bytesA 3 0], 1⟩, 0) := rfl
  rw [hv] at q2 ⊢
  have t2 : Ext [] w w2 := e1.trans' e2 (fun b hb => .inr (hf b hb))
  refine ⟨_, rfl, num_c _ ⟨_, rfl, sel_false rfl (Ready_c q2 0 fun w3 e3 => ⟨_, _, rfl, ?_⟩)⟩⟩
  have hr : readyV [Wt.new bytesA 3 0] 0 = (bytesA, true) := rfl
  rw [hr]
  refine List_c (q2.ext0 e3) fun A c w4 e4 own => ⟨_, _, _, rfl, sel_true (by rw [beqBytes]; rfl) (sel_true rfl (sel_true rfl (when_dec ⟨by omega, by simp⟩ ?_)))⟩
  obtain ⟨ad, rfl, rd⟩ := WL.read (own_cells own) (i := 0) (x := Wt.new bytesA 3 0) rfl
  rw [Nat.zero_mul] at rd
  exact ptr_in ⟨_, rd 1 _ rfl, sel_true rfl (Next_c ((q2.ext0 e3).ext0 e4) ⟨_, rfl, k _ ((t2.trans e3).trans e4)⟩)⟩
end Go.Proofs.Ytfjgiaimlmnepaa
