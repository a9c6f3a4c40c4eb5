/- The queue's calls. -/
import Derived.Test.YtfjgiaimlmnepaaQ3
set_option linter.unusedVariables false
set_option linter.unusedSimpArgs false
namespace Go.Proofs.Ytfjgiaimlmnepaa
open Go Go.V Go.B

def Wt.zero : Wt := ⟨ByteArray.empty, 0, 0, 0, 0, false⟩
theorem z34_val : z34 = Wt.zero.val := rfl
/-- The queue at p: its list in order, the next arrival's number; f: the blocks that are its own. -/
def QAt (w : World) (B p : Nat) (f : List Nat) (xs : List Wt) (next : Nat) : Prop := ∃ r A n c m, QM w B p r A n c m xs next ∧ QInv xs m next ∧ f = p :: r :: ownF A
theorem QAt.ext {F : List Nat} {w w' : World} {B p : Nat} {f : List Nat} {xs : List Wt} {next : Nat} (h : QAt w B p f xs next) (e : Ext F w w') (hF : ∀ b ∈ f, b ∉ F) : QAt w' B p f xs next := by
  obtain ⟨r, A, n, c, m, q, i, rfl⟩ := h
  exact ⟨r, A, n, c, m, q.ext e hF, i, rfl⟩
theorem QAt.ext0 {w w' : World} {B p : Nat} {f : List Nat} {xs : List Wt} {next : Nat} (h : QAt w B p f xs next) (e : Ext [] w w') : QAt w' B p f xs next := h.ext e (by simp)
theorem QAt.lt {w : World} {B p : Nat} {f : List Nat} {xs : List Wt} {next : Nat} (h : QAt w B p f xs next) : ∀ b ∈ f, b < w.heap.size := by
  obtain ⟨r, A, n, c, m, q, i, rfl⟩ := h
  exact q.lt
/-- How the blocks of a queue go on. -/
def Grow (w : World) (f f' : List Nat) : Prop := ∀ b ∈ f', b ∈ f ∨ w.heap.size ≤ b
theorem Grow.refl (w : World) (f : List Nat) : Grow w f f := fun b hb => .inl hb
theorem Grow.trans {w w' : World} {f g h : List Nat} (a : Grow w f g) (b : Grow w' g h) (e : w.heap.size ≤ w'.heap.size) : Grow w f h := fun x hx => by
  rcases b x hx with h1 | h1
  · exact a x h1
  · exact .inr (by omega)
/-- Other blocks stay apart. -/
theorem Grow.apart {w : World} {f f' g : List Nat} (a : Grow w f f') (hg : ∀ b ∈ g, b < w.heap.size) (h : ∀ b ∈ f, b ∉ g) : ∀ b ∈ f', b ∉ g := fun x hx hm => by
  rcases a x hx with h1 | h1
  · exact h x h1 hm
  · have := hg x hm; omega

theorem New_c {w : World} {R : Ending → World → Prop} (k : ∀ p f w', Ext [] w w' → QAt w' w.heap.size p f [] 0 → (∀ b ∈ f, w.heap.size ≤ b) → R (.returned (.pointer (some ⟨p, 0, none⟩))) w') : Calls Try.prog 13 #[] w R := by
  apply queue_New_nf
  intro w1 h1 w2 h2
  have m1 : MapAt w1 w.heap.size Value.string Wt.val [] := by rw [h1]; exact MapAt.new _ _ _
  have x1 : Ext [] w w1 := by rw [h1]; exact (Ext.refl _ _).alloc _
  have z1 : w1.heap.size = w.heap.size + 1 := by rw [h1]; exact World.size_alloc _ _
  obtain ⟨b2, x2, z2⟩ := box_new (cs := [.slice none 0 0, .map (some w.heap.size), .int .i64 0]) h2
  refine k w1.heap.size [w1.heap.size, w.heap.size] w2 (x1.trans x2) ⟨w.heap.size, none, 0, 0, [], ⟨b2, World.ownsRow_nil _ _ _ _, m1.ext0 x2, by simp [ownF], by simp [ownF]; omega, by omega⟩, QInv.empty, by simp [ownF]⟩ ?_
  intro b hb
  simp at hb; omega
theorem Len_c {w : World} {B p : Nat} {f : List Nat} {xs : List Wt} {next : Nat} (h : QAt w B p f xs next) {R : Ending → World → Prop} (k : R (.returned (.int .i64 (xs.length : Int))) w) : Calls Try.prog 22 #[.pointer (some ⟨p, 0, none⟩)] w R := by
  obtain ⟨r, A, n, c, m, q, i, rfl⟩ := h
  apply queue_Queue_Len_nf
  refine sel_false rfl (ptr_in ⟨_, _, _, cadd q.hdr rfl, ?_⟩)
  rw [own_len_xs q.own] at k; exact k
theorem Next_c {w : World} {B p : Nat} {f : List Nat} {xs : List Wt} {next : Nat} (h : QAt w B p f xs next) {R : Ending → World → Prop} (k : R (.returned (.int .i64 (next : Int))) w) : Calls Try.prog 23 #[.pointer (some ⟨p, 0, none⟩)] w R := by
  obtain ⟨r, A, n, c, m, q, i, rfl⟩ := h
  apply queue_Queue_Next_nf
  exact sel_false rfl (ptr_in ⟨_, cadd q.hdr rfl, k⟩)
/-- A list of pods of the call's own, in new memory. -/
def OwnW (w : World) (B : Nat) (A : Option Addr) (n c : Nat) (xs : List Wt) : Prop := w.ownsRow B 34 6 (.slice A n c) n (flatW xs)
theorem List_c {w : World} {B p : Nat} {f : List Nat} {xs : List Wt} {next : Nat} (h : QAt w B p f xs next) {R : Ending → World → Prop}
    (k : ∀ A' c' w', Ext [] w w' → OwnW w' w.heap.size A' xs.length c' xs → R (.returned (.slice A' xs.length c')) w') : Calls Try.prog 19 #[.pointer (some ⟨p, 0, none⟩)] w R := by
  obtain ⟨r, A, n, c, m, q, i, rfl⟩ := h
  apply queue_Queue_List_nf
  have hxl := own_len_xs q.own
  have hl := i.len
  refine sel_false rfl ?_
  intro w1 h1
  obtain ⟨b1, x1, z1⟩ := box_new (cs := []) h1
  have q1 := q.ext0 x1
  refine ptr_in ⟨_, _, _, cadd q1.hdr rfl, ?_⟩
  have o1 : w1.ownsRow w.heap.size 34 6 (.slice (some ⟨w.heap.size, 0, none⟩) 0 0) 0 [] := own_of b1 (Nat.le_refl _) (Nat.le_refl _) (by simp only [maxLen]; omega) rfl rfl
  obtain ⟨A', c', w2, hr, ho, he, hat⟩ := appR (P := Try.prog) (ty := 29) (m := n) (cy := c) (Y := A) u29 i34 z34s (by omega) (by omega) o1 (ys := flatW xs) (by rw [flatW_len, hxl]) (own_cells q1.own) (WL.flat_one _) (by omega) (by omega)
  rw [Nat.zero_add] at hr ho
  refine ⟨_, _, _, _, hr, ?_⟩
  have e2 : Ext [] w w2 := x1.trans' he (fun b hb => .inr (by simp [ownF] at hb; omega))
  have := k A' c' w2 e2 (by rw [hxl]; unfold OwnW; simpa using ho)
  rw [hxl] at this; exact this
/-- What Ready tells. -/
def readyV (xs : List Wt) (now : Int) : ByteArray × Bool :=
  if now < 0 ∨ now > 1099511627776 then (ByteArray.empty, false) else
  match xs.find? (fun x => !x.asleep && decide (x.til ≤ now)) with
  | some x => (x.name, true)
  | none => (ByteArray.empty, false)
theorem find_at {xs : List Wt} {P : Wt → Bool} {i : Nat} {x : Wt} (hi : xs[i]? = some x) (hx : P x = true) (hlo : ∀ (k : Nat) (y : Wt), xs[k]? = some y → k < i → P y = false) : xs.find? P = some x := by
  induction xs generalizing i with
  | nil => simp at hi
  | cons a xs ih =>
    cases i with
    | zero => simp at hi; subst hi; simp [List.find?_cons, hx]
    | succ i =>
      have h0 := hlo 0 a (by simp) (by omega)
      rw [List.find?_cons, h0]
      exact ih (by simpa using hi) (fun k y hk hki => hlo (k + 1) y (by simpa using hk) (by omega))
theorem find_no {xs : List Wt} {P : Wt → Bool} (h : ∀ (k : Nat) (y : Wt), xs[k]? = some y → P y = false) : xs.find? P = none := by
  rw [List.find?_eq_none]
  intro x hx
  obtain ⟨k, hk⟩ := List.mem_iff_getElem?.1 hx
  rw [h k x hk]; simp
theorem Ready_c {w : World} {B p : Nat} {f : List Nat} {xs : List Wt} {next : Nat} (h : QAt w B p f xs next) (now : Int) {R : Ending → World → Prop}
    (k : ∀ w', Ext [] w w' → R (.returned (.tuple #[.string (readyV xs now).1, .bool (readyV xs now).2])) w') : Calls Try.prog 20 #[.pointer (some ⟨p, 0, none⟩), .int .i64 now] w R := by
  obtain ⟨r, A, n, c, m, q, i, rfl⟩ := h
  apply queue_Queue_Ready_nf
  have hxl := own_len_xs q.own
  have hl := i.len
  have k0 : ∀ w', Ext [] w w' → (readyV xs now) = (ByteArray.empty, false) → R (.returned (.tuple #[.string ByteArray.empty, .bool false])) w' := fun w' e h => by
    have := k w' e
    rw [h] at this; exact this
  refine sel_false rfl (sel_dec (fun h => k0 w (Ext.refl _ _) (by simp [readyV, h])) (fun h0 => sel_dec (fun h => k0 w (Ext.refl _ _) (by simp [readyV, h])) (fun h1 => ?_)))
  have hno : ¬ (now < 0 ∨ now > 1099511627776) := by omega
  refine ptr_in ⟨_, _, _, cadd q.hdr rfl, ?_⟩
  refine ⟨fun t w' => ∃ a : Nat, t = a ∧ a ≤ n ∧ Ext [] w w' ∧ ∀ k y, xs[k]? = some y → k < a → (!y.asleep && decide (y.til ≤ now)) = false, fun t _ => n - t.toNat, ⟨0, rfl, by omega, Ext.refl _ _, fun _ _ _ h => by omega⟩, ?_⟩
  rintro _ _ w1 ⟨a, rfl, ha, e1, lo⟩
  have q1 := q.ext0 e1
  refine sel_dec (fun hlt => ?_) (fun hge => ?_)
  · obtain ⟨y, hy⟩ : ∃ y, xs[a]? = some y := ⟨xs[a]'(by omega), List.getElem?_eq_getElem (by omega)⟩
    obtain ⟨ad, rfl, rdy⟩ := WL.read (own_cells q1.own) hy
    rw [WLsz] at rdy
    have rdy : cellsC (fun a v => w1.cell? a = some v) (ad.add (Int.toNat (a : Int) * 6)) y.cells := by rw [Int.toNat_natCast]; exact rdy
    refine when_dec ⟨by omega, by omega⟩ (ptr_in ⟨_, _, _, _, _, _, rdy, ?_⟩)
    intro w2 h2
    obtain ⟨b2, x2, z2⟩ := box_new (cs := Wt.zero.cells) h2
    obtain ⟨w3, hr3, b3, e3⟩ := storeW (P := Try.prog) (t := 34) (n := 6) (vs := y.cells) i34s b2 rfl rfl (WL.one y)
    have e13 : Ext [] w1 w3 := x2.trans' e3 (fun b hb => .inr (by simp at hb; omega))
    have e03 := e1.trans e13
    refine ⟨_, hr3, _, cadd b3 rfl, ?_⟩
    have step : (!y.asleep && decide (y.til ≤ now)) = false → (fun (t : Int) (w' : World) => ∃ a : Nat, t = a ∧ a ≤ n ∧ Ext [] w w' ∧ ∀ k y, xs[k]? = some y → k < a → (!y.asleep && decide (y.til ≤ now)) = false) (IntKind.wrap .i64 ((a : Int) + 1)) w3 ∧ n - (IntKind.wrap .i64 ((a : Int) + 1)).toNat < n - (a : Int).toNat := fun hf => by
      rw [up64 a (by omega)]
      refine ⟨⟨a + 1, rfl, by omega, e03, fun k z hk hk2 => ?_⟩, by simp only [Int.toNat_natCast]; omega⟩
      by_cases hka : k = a
      · subst hka; rw [hy] at hk; cases hk; exact hf
      · exact lo k z hk (by omega)
    refine sel_intro (fun h2 => ?_) (fun h2 => step (by rw [h2]; rfl))
    refine ⟨_, cadd b3 rfl, sel_dec (fun h3 => ?_) (fun h3 => step (by simp [h3]))⟩
    refine ⟨_, cadd b3 rfl, ?_⟩
    have hv : readyV xs now = (y.name, true) := by
      unfold readyV
      rw [if_neg hno, find_at hy (by rw [h2]; simp [h3]) lo]
    have := k w3 e03
    rw [hv] at this; exact this
  · refine k0 w1 e1 ?_
    unfold readyV
    rw [if_neg hno, find_no fun k y hk => lo k y hk (by have := (List.getElem?_eq_some_iff.1 hk).1; omega)]
/-- 2 to the power (tries - 1), at most 64. -/
def waitV (t : Int) : Int := ((2 ^ (min (t - 1).toNat 6) : Nat) : Int)
theorem waitV_le (t : Int) : 1 ≤ waitV t ∧ waitV t ≤ 64 := by
  unfold waitV
  have h1 : 0 < 2 ^ (min (t - 1).toNat 6) := Nat.pow_pos (by omega)
  have h2 : 2 ^ (min (t - 1).toNat 6) ≤ 2 ^ 6 := Nat.pow_le_pow_right (by omega) (by omega)
  omega
theorem wait_c (t : Int) (h0 : 0 ≤ t) (h1 : t ≤ 1099511627776) {w : World} {R : Ending → World → Prop} (k : R (.returned (.int .i64 (waitV t))) w) : Calls Try.prog 33 #[.int .i64 t] w R := by
  apply queue_wait_nf
  refine ⟨fun u n w' => w' = w ∧ ∃ j N : Nat, j ≤ 6 ∧ N = 2 ^ j ∧ n = (N : Int) ∧ u = t - j ∧ ((j : Int) ≤ t - 1 ∨ j = 0), fun u _ _ => u.toNat, ⟨rfl, 0, 1, by omega, rfl, rfl, by omega, .inr rfl⟩, ?_⟩
  rintro _ _ _ w1 ⟨rfl, j, N, hj, hN, rfl, rfl, hjt⟩
  have hp : N ≤ 64 := by rw [hN]; exact Nat.pow_le_pow_right (n := 2) (by omega) hj
  have fin : j = min (t - 1).toNat 6 → R (.returned (.int .i64 (N : Int))) w1 := fun e => by
    unfold waitV at k
    rw [← e, ← hN] at k; exact k
  refine sel_dec (fun h => sel_dec (fun h2 => ?_) (fun h2 => fin ?_)) (fun h => fin (by omega))
  · have hj6 : j < 6 := by
      rcases Nat.lt_or_ge j 6 with h' | h'
      · exact h'
      · have : j = 6 := by omega
        subst this; omega
    rw [w64 (x := t - (j : Int) - 1) (by omega) (by omega), w64 (x := (N : Int) * 2) (by omega) (by omega)]
    exact ⟨⟨rfl, j + 1, N * 2, by omega, by rw [hN, Nat.pow_succ], by omega, by omega, .inl (by omega)⟩, by simp only []; omega⟩
  · have hj6 : j = 6 := by
      rcases Nat.lt_or_ge j 6 with h' | h'
      · exfalso
        have : N ≤ 32 := by rw [hN]; exact Nat.pow_le_pow_right (n := 2) (i := j) (j := 5) (by omega) (by omega)
        omega
      · omega
    omega
end Go.Proofs.Ytfjgiaimlmnepaa
