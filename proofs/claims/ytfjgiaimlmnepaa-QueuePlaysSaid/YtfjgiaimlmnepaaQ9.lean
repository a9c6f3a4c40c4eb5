/- Scripts played; a text taken out of a list; the queue taken down. -/
import Derived.Test.YtfjgiaimlmnepaaQ8
set_option linter.unusedVariables false
set_option linter.unusedSimpArgs false
namespace Go.Proofs.Ytfjgiaimlmnepaa
open Go Go.V Go.B

theorem i31s : (Try.prog.info? 31).map (·.size) = some 5 := by kernel_rfl
theorem Ext.up {F : List Nat} {w w' : World} (e : Ext [] w w') : Ext F w w' := e.weaken (fun _ h => by cases h)
/-- What is the queue's own is new. -/
theorem Ext.old {f : List Nat} {W w w' : World} (e0 : Ext [] W w) (hf : ∀ b ∈ f, W.heap.size ≤ b) (e : Ext f w w') : Ext [] W w' := e0.trans' e (fun b hb => .inr (hf b hb))
theorem Grow.old {f f' : List Nat} {W w : World} (e0 : Ext [] W w) (hf : ∀ b ∈ f, W.heap.size ≤ b) (g : Grow w f f') : ∀ b ∈ f', W.heap.size ≤ b := fun b hb => by
  have := e0.size
  rcases g b hb with h | h
  · exact hf b h
  · omega
theorem Ext.grow {f f' : List Nat} {w w1 w2 : World} (e1 : Ext f w w1) (g : Grow w f f') (e2 : Ext f' w1 w2) : Ext f w w2 := e1.trans' e2 (fun b hb => g b hb)
/-- A step of a script, its struct copied into a box. -/
theorem op_box {w w1 : World} {o : Op} (h : w1 = w.alloc (.cells #[.int .i64 0, .string ByteArray.empty, .int .i64 0, .int .i64 0, .slice none 0 0] 31)) :
    ∃ w2, Sem.run Try.prog (Instr.storeAt 31 (.pointer (some ⟨w.heap.size, 0, none⟩)) (.agg ⟨o.cells⟩)) w1 = .ok () w2 ∧ BlkT w2 w.heap.size o.cells 31 ∧ Ext [] w w2 := by
  obtain ⟨b1, x1, z1⟩ := box_new (cs := [.int .i64 0, .string ByteArray.empty, .int .i64 0, .int .i64 0, .slice none 0 0]) h
  obtain ⟨w2, hr, b2, e2⟩ := storeW (P := Try.prog) (t := 31) (n := 5) (vs := o.cells) i31s b1 rfl rfl (OL.one o)
  exact ⟨w2, hr, b2, x1.trans' e2 (fun b hb => .inr (by simp at hb; omega))⟩
theorem wt_box {w w1 : World} {x : Wt} (h : w1 = w.alloc (.cells ⟨Wt.zero.cells⟩ 34)) :
    ∃ w2, Sem.run Try.prog (Instr.storeAt 34 (.pointer (some ⟨w.heap.size, 0, none⟩)) (.agg ⟨x.cells⟩)) w1 = .ok () w2 ∧ BlkT w2 w.heap.size x.cells 34 ∧ Ext [] w w2 := by
  obtain ⟨b1, x1, z1⟩ := box_new (cs := Wt.zero.cells) h
  obtain ⟨w2, hr, b2, e2⟩ := storeW (P := Try.prog) (t := 34) (n := 6) (vs := x.cells) i34s b1 rfl rfl (WL.one x)
  exact ⟨w2, hr, b2, x1.trans' e2 (fun b hb => .inr (by simp at hb; omega))⟩
theorem snoc_at {α : Type} {xs : List α} {a : Nat} {x : α} (h : xs[a]? = some x) : xs.take (a + 1) = xs.take a ++ [x] := by
  obtain ⟨ha, e⟩ := List.getElem?_eq_some_iff.1 h
  rw [List.take_succ_eq_append_getElem ha, e]
theorem OpsAt.read {w : World} {A : Option Addr} {n : Nat} {ops : List Op} (h : OpsAt w A n ops) {a : Nat} (ha : a < n) : ∃ o ad, ops[a]? = some o ∧ A = some ad ∧ cellsC (fun a v => w.cell? a = some v) (ad.add (Int.toNat (a : Int) * 5)) o.cells := by
  have hl := h.2.1
  obtain ⟨o, ho⟩ : ∃ o, ops[a]? = some o := ⟨ops[a]'(by omega), List.getElem?_eq_getElem (by omega)⟩
  obtain ⟨ad, rfl, rd⟩ := OL.read h.1 ho
  exact ⟨o, ad, ho, rfl, by rw [Int.toNat_natCast]; exact rd⟩
theorem play_c {w W : World} {B p : Nat} {f : List Nat} {s : QS} (h : At w B p f s) {A : Option Addr} {n c : Nat} {ops : List Op} (ho : OpsAt W A n ops) (e0 : Ext [] W w) (hf : ∀ b ∈ f, W.heap.size ≤ b) {R : Ending → World → Prop}
    (k : ∀ w' f', At w' B p f' (playV s ops) → Ext f w w' → Grow w f f' → R (.returned undef) w') : Calls Try.prog 21 #[.pointer (some ⟨p, 0, none⟩), .slice A n c] w R := by
  apply berthlaw25_play_nf
  have hl := ho.2.1
  have hb := ho.2.2.2
  refine ⟨fun t w' => ∃ (a : Nat) (f' : List Nat), t = a ∧ a ≤ n ∧ At w' B p f' (playV s (ops.take a)) ∧ Ext f w w' ∧ Grow w f f', fun t _ => n - t.toNat, ⟨0, f, rfl, by omega, h, Ext.refl _ _, Grow.refl _ _⟩, ?_⟩
  rintro _ _ w1 ⟨a, f1, rfl, ha, q1, e1, g1⟩
  refine sel_dec (fun hlt => ?_) (fun hge => ?_)
  · obtain ⟨o, ad, hoa, rfl, rd⟩ := (ho.ext0 (Ext.old e0 hf e1)).read (a := a) (by omega)
    refine when_dec ⟨by omega, by omega⟩ (ptr_in ⟨_, _, _, _, _, _, _, rd, fun w2 h2 => ?_⟩)
    obtain ⟨w3, hr3, b3, e3⟩ := op_box (o := o) h2
    refine ⟨w3, hr3, _, cadd b3 rfl, ?_⟩
    have q3 : At w3 B p f1 _ := QAt.ext0 q1 e3
    have fin : ∀ w' f', At w' B p f' (stepV (playV s (ops.take a)) o) → Ext f1 w3 w' → Grow w3 f1 f' → (∃ (a' : Nat) (f' : List Nat), IntKind.wrap .i64 ((a : Int) + 1) = a' ∧ a' ≤ n ∧ At w' B p f' (playV s (ops.take a')) ∧ Ext f w w' ∧ Grow w f f') ∧ n - (IntKind.wrap .i64 ((a : Int) + 1)).toNat < n - (a : Int).toNat := fun w' f' q e g => by
      rw [up64 a (by omega)]
      refine ⟨⟨a + 1, f', rfl, by omega, ?_, Ext.grow (e1.then e3) g1 e, g1.trans g (e1.then e3).size⟩, by simp only [Int.toNat_natCast]; omega⟩
      rw [snoc_at hoa]
      unfold playV at q ⊢
      rw [List.foldl_append]
      exact q
    refine sel_intro (fun h4 => ?_) (fun h4 => ?_)
    · have h4 := eq_of_beq h4
      exact ⟨_, cadd b3 rfl, _, cadd b3 rfl, Push_v q3 _ _ fun w' f' q e g => ⟨_, rfl, fin w' f' (by unfold stepV; rw [if_pos h4]; exact q) e g⟩⟩
    have h4 : ¬ o.kind = 4 := fun e => by rw [e] at h4; cases h4
    refine sel_intro (fun h5 => ?_) (fun h5 => ?_)
    · have h5 := eq_of_beq h5
      exact ⟨_, cadd b3 rfl, Take_v q3 _ fun w' q e => ⟨_, _, _, _, _, _, _, rfl, fin w' f1 (by unfold stepV; rw [if_neg h4, if_pos h5]; exact q) e (Grow.refl _ _)⟩⟩
    have h5 : ¬ o.kind = 5 := fun e => by rw [e] at h5; cases h5
    refine sel_intro (fun h7 => ?_) (fun h7 => ?_)
    · have h7 := eq_of_beq h7
      exact ⟨_, cadd b3 rfl, _, cadd b3 rfl, Park_v q3 _ _ fun w' f' q e g => ⟨_, rfl, fin w' f' (by unfold stepV; rw [if_neg h4, if_neg h5, if_pos h7]; exact q) e g⟩⟩
    have h7 : ¬ o.kind = 7 := fun e => by rw [e] at h7; cases h7
    refine sel_intro (fun h8 => ?_) (fun h8 => ?_)
    · have h8 := eq_of_beq h8
      exact Wake_v q3 fun w' q e => ⟨rfl, fin w' f1 (by unfold stepV; rw [if_neg h4, if_neg h5, if_neg h7, if_pos h8]; exact q) e (Grow.refl _ _)⟩
    have h8 : ¬ o.kind = 8 := fun e => by rw [e] at h8; cases h8
    exact fin w3 f1 (by unfold stepV; rw [if_neg h4, if_neg h5, if_neg h7, if_neg h8]; exact q3) (Ext.refl _ _) (Grow.refl _ _)
  · have : a = n := by omega
    subst this
    rw [List.take_of_length_le (by omega)] at q1
    exact k w1 f1 q1 e1 g1

/-! ### lists of texts -/
theorem u28 : Try.prog.underlying 28 = some (.slice 9) := by kernel_rfl
theorem i9 : (Try.prog.info? 9).map (fun i => (i.zero, i.size, i.bytes)) = some (some (.string ByteArray.empty), 1, 16) := by kernel_rfl
def txts (ss : List ByteArray) : List Value := ss.map Value.string
def SS (w : World) (B : Nat) (A : Option Addr) (n c : Nat) (ss : List ByteArray) : Prop := w.ownsRow B 9 1 (.slice A n c) n (txts ss)
theorem SS.len {w : World} {B : Nat} {A : Option Addr} {n c : Nat} {ss : List ByteArray} (h : SS w B A n c ss) : ss.length = n := by
  have := h.1
  simpa [txts] using this
theorem SS.nil (w : World) (B : Nat) : SS w B none 0 0 [] := World.ownsRow_nil _ _ _ _
theorem SS.ext {F : List Nat} {w w' : World} {B : Nat} {A : Option Addr} {n c : Nat} {ss : List ByteArray} (h : SS w B A n c ss) (e : Ext F w w') (hF : ∀ b ∈ ownF A, b ∉ F) : SS w' B A n c ss := own_ext h e hF
theorem SS.ext0 {w w' : World} {B : Nat} {A : Option Addr} {n c : Nat} {ss : List ByteArray} (h : SS w B A n c ss) (e : Ext [] w w') : SS w' B A n c ss := h.ext e (by simp)
theorem SS.read {w : World} {B : Nat} {A : Option Addr} {n c : Nat} {ss : List ByteArray} (h : SS w B A n c ss) {a : Nat} (ha : a < n) : ∃ s ad, ss[a]? = some s ∧ A = some ad ∧ w.cell? (ad.add (Int.toNat (a : Int) * 1)) = some (.string s) := by
  have hl := h.len
  obtain ⟨s, hs⟩ : ∃ s, ss[a]? = some s := ⟨ss[a]'(by omega), List.getElem?_eq_getElem (by omega)⟩
  obtain ⟨ad, hA, hc⟩ := own_cells h a (.string s) (by simp [txts, hs])
  exact ⟨s, ad, hs, hA, by rw [Int.toNat_natCast, Nat.mul_one]; exact hc⟩
theorem appS {w w1 : World} {B : Nat} {A : Option Addr} {n c : Nat} {ss : List ByteArray} {s : ByteArray} (own : SS w B A n c ss) (h1 : w1 = w.alloc (.cells #[.string s] 9)) (hB : B ≤ w.heap.size) (hn : n ≤ 1000000) :
    ∃ A' c' w2, Sem.run Try.prog (Builtin.append_ #[28, 28] 28 #[.slice A n c, .slice (some ⟨w.heap.size, 0, none⟩) 1 1]) w1 = .ok (.slice A' (n + 1) c') w2 ∧ SS w2 B A' (n + 1) c' (ss ++ [s]) ∧ Ext (ownF A) w w2 ∧ (ownF A' = ownF A ∨ ∃ g, ownF A' = [g] ∧ w.heap.size ≤ g) := by
  obtain ⟨b1, x1, z1⟩ := box_new (cs := [.string s]) h1
  obtain ⟨A', c', w2, hr, ho, he, hat⟩ := appR (P := Try.prog) (ty := 28) (m := 1) (cy := 1) (Y := some ⟨w.heap.size, 0, none⟩) u28 i9 rfl (by omega) (by omega) (own_ext own x1 (by simp)) (ys := [.string s]) rfl (Cells.of_blk b1.blk) (by simp [Value.oneCell']) (by omega) (by omega)
  refine ⟨A', c', w2, hr, ?_, (Ext.up x1).trans he, ?_⟩
  · unfold SS txts; rw [List.map_append]; exact ho
  · rcases hat with h | h
    · exact .inl h
    · exact .inr ⟨_, h, by omega⟩
def isT (s y : ByteArray) : Bool := decide (y = s)
theorem without_c {w : World} {B : Nat} {A : Option Addr} {n c : Nat} {l : List ByteArray} (own : SS w B A n c l) (s : ByteArray) (hn : n ≤ 1000000) {R : Ending → World → Prop}
    (k : ∀ A' c' w', Ext [] w w' → SS w' w.heap.size A' (l.eraseP (isT s)).length c' (l.eraseP (isT s)) → R (.returned (.slice A' (l.eraseP (isT s)).length c')) w') : Calls Try.prog 16 #[.slice A n c, .string s] w R := by
  apply berthlaw25_without_nf
  have hl := own.len
  refine ⟨fun A' n' c' g t w' => ∃ a : Nat, t = a ∧ a ≤ n ∧ n' ≤ a ∧ Ext [] w w' ∧ SS w' w.heap.size A' n' c' ((l.take a).eraseP (isT s)) ∧ (g = true ↔ ∃ y ∈ l.take a, isT s y = true), fun _ _ _ _ t _ => n - t.toNat, ⟨0, rfl, by omega, by omega, Ext.refl _ _, SS.nil _ _, by simp⟩, ?_⟩
  rintro A1 n1 c1 g _ _ w1 ⟨a, rfl, ha, hn1, e1, o1, hg⟩
  refine sel_dec (fun hlt => ?_) (fun hge => ?_)
  · obtain ⟨y, ad, hy, rfl, rd⟩ := (own.ext0 e1).read (a := a) (by omega)
    have put : ∀ (w2 : World), w2 = w1.alloc (.cells #[.string y] 9) → (l.take (a + 1)).eraseP (isT s) = (l.take a).eraseP (isT s) ++ [y] → (g = true ↔ ∃ z ∈ l.take (a + 1), isT s z = true) →
        ∃ A3 l3 c3 w3, Sem.run Try.prog (Builtin.append_ #[28, 28] 28 #[.slice A1 n1 c1, .slice (some ⟨w1.heap.size, 0, none⟩) 1 1]) w2 = .ok (.slice A3 l3 c3) w3 ∧
        (∃ a' : Nat, IntKind.wrap .i64 ((a : Int) + 1) = a' ∧ a' ≤ n ∧ l3 ≤ a' ∧ Ext [] w w3 ∧ SS w3 w.heap.size A3 l3 c3 ((l.take a').eraseP (isT s)) ∧ (g = true ↔ ∃ z ∈ l.take a', isT s z = true)) ∧ n - (IntKind.wrap .i64 ((a : Int) + 1)).toNat < n - (a : Int).toNat := fun w2 h2 he hg2 => by
      obtain ⟨A3, c3, w3, hr, o3, e3, -⟩ := appS o1 h2 e1.size (by omega)
      rw [up64 a (by omega)]
      refine ⟨_, _, _, _, hr, ⟨a + 1, rfl, by omega, by omega, e1.trans' e3 (fun b hb => .inr (own_base o1 b hb).1), by rw [he]; exact o3, hg2⟩, by simp only [Int.toNat_natCast]; omega⟩
    refine when_dec ⟨by omega, by omega⟩ (ptr_in ⟨_, rd, ?_⟩)
    rw [beqBytes]
    refine sel_dec (fun hy2 => ?_) (fun hy2 => ?_)
    · have hyt : isT s y = true := decide_eq_true hy2
      refine sel_intro (fun h2 => ?_) (fun h2 => ?_)
      · have hgf : g = false := by simpa using h2
        subst hgf
        have hno : ∀ z ∈ l.take a, ¬ isT s z = true := fun z hz e => by have := hg.2 ⟨z, hz, e⟩; cases this
        rw [up64 a (by omega)]
        refine ⟨⟨a + 1, rfl, by omega, by omega, e1, ?_, ⟨fun _ => ⟨y, by rw [snoc_at hy]; simp, hyt⟩, fun _ => rfl⟩⟩, by simp only [Int.toNat_natCast]; omega⟩
        rw [snoc_at hy, List.eraseP_append_right _ (by simpa using hno)]
        rw [show (l.take a).eraseP (isT s) = l.take a from List.eraseP_of_forall_not hno] at o1
        simpa [List.eraseP_cons, hyt] using o1
      · have hgt : g = true := by simpa using h2
        subst hgt
        obtain ⟨z, hz, hzt⟩ := hg.1 rfl
        refine when_dec ⟨by omega, by omega⟩ (ptr_in ⟨_, rd, fun w2 h2 => put w2 h2 ?_ ⟨fun _ => ⟨z, by rw [snoc_at hy]; simp [hz], hzt⟩, fun _ => rfl⟩⟩)
        rw [snoc_at hy, List.eraseP_append_left hzt _ hz]
    · have hyf : ¬ isT s y = true := by simpa [isT] using hy2
      refine when_dec ⟨by omega, by omega⟩ (ptr_in ⟨_, rd, fun w2 h2 => put w2 h2 ?_ ?_⟩)
      · rw [snoc_at hy]
        by_cases hx : ∃ z ∈ l.take a, isT s z = true
        · obtain ⟨z, hz, hzt⟩ := hx
          rw [List.eraseP_append_left hzt _ hz]
        · have hno : ∀ z ∈ l.take a, ¬ isT s z = true := fun z hz e => hx ⟨z, hz, e⟩
          rw [List.eraseP_append_right _ (by simpa using hno), show (l.take a).eraseP (isT s) = l.take a from List.eraseP_of_forall_not hno]
          simp [List.eraseP_cons, hyf]
      · rw [hg, snoc_at hy]
        constructor
        · rintro ⟨z, hz, e⟩; exact ⟨z, by simp [hz], e⟩
        · rintro ⟨z, hz, e⟩
          rcases List.mem_append.1 hz with hz | hz
          · exact ⟨z, hz, e⟩
          · simp at hz; subst hz; exact absurd e hyf
  · have : a = n := by omega
    subst this
    rw [List.take_of_length_le (by omega)] at o1
    have := o1.len
    subst this
    exact k A1 c1 w1 e1 o1
end Go.Proofs.Ytfjgiaimlmnepaa
