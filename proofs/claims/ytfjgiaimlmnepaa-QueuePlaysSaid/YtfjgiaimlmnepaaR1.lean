/- The document's queue, call by call. -/
import Derived.Test.YtfjgiaimlmnepaaQ11
set_option linter.unusedVariables false
set_option linter.unusedSimpArgs false
namespace Go.Proofs.Ytfjgiaimlmnepaa
open Go Go.V Go.B

theorem i56s : (Try.prog.info? 56).map (·.size) = some 2 := by kernel_rfl
def rq (A : Option Addr) (n c : Nat) (next : Int) : List Value := [.slice A n c, .int .i64 next]
theorem rq_one (A : Option Addr) (n c : Nat) (next : Int) : ∀ v ∈ rq A n c next, v.oneCell' = true := by
  intro v hv
  simp only [rq, List.mem_cons, List.not_mem_nil, or_false] at hv
  rcases hv with rfl | rfl <;> rfl
def findV (xs : List Wt) (name : ByteArray) : Int := match xs.findIdx? (named name) with
  | some i => (i : Int)
  | none => -1
theorem idx_at {xs : List Wt} {P : Wt → Bool} {a : Nat} {x : Wt} (h : xs[a]? = some x) (hp : P x = true) (hlo : ∀ (k : Nat) (y : Wt), xs[k]? = some y → k < a → P y = false) : xs.findIdx? P = some a := by
  obtain ⟨hl, e⟩ := List.getElem?_eq_some_iff.1 h
  rw [List.findIdx?_eq_some_iff_getElem]
  refine ⟨hl, by rw [e]; exact hp, fun k hk => ?_⟩
  have := hlo k _ (List.getElem?_eq_getElem (by omega)) hk
  simp [this]
theorem idx_none {xs : List Wt} {P : Wt → Bool} (h : ∀ (k : Nat) (y : Wt), xs[k]? = some y → P y = false) : xs.findIdx? P = none := by
  rw [List.findIdx?_eq_none_iff]
  intro x hx
  obtain ⟨k, hk⟩ := List.mem_iff_getElem?.1 hx
  exact h k x hk
theorem find_c {w : World} {A : Option Addr} {n c : Nat} {xs : List Wt} (hx : Cells w A (flatW xs)) (hn : xs.length = n) (hb : n < 4611686018427387904) (name : ByteArray) {R : Ending → World → Prop} (k : R (.returned (.int .i64 (findV xs name))) w) :
    Calls Try.prog 53 #[.slice A n c, .string name] w R := by
  apply berthref25_find_nf
  refine ⟨fun t w' => ∃ a : Nat, t = a ∧ a ≤ n ∧ w' = w ∧ ∀ (k : Nat) (y : Wt), xs[k]? = some y → k < a → named name y = false, fun t _ => n - t.toNat, ⟨0, rfl, by omega, rfl, fun _ _ _ h => by omega⟩, ?_⟩
  rintro _ _ w1 ⟨a, rfl, ha, rfl, hlo⟩
  refine sel_dec (fun hlt => ?_) (fun hge => ?_)
  · obtain ⟨x, ad, hxx, rfl, rx⟩ := rowW hx hn (a := a) (by omega)
    refine when_dec ⟨by omega, by omega⟩ (ptr_in ⟨_, rx 0 _ rfl, ?_⟩)
    rw [beqBytes]
    refine sel_dec (fun h => ?_) (fun h => ?_)
    · unfold findV at k
      rw [idx_at hxx (decide_eq_true h) hlo] at k
      exact k
    · rw [up64 a (by omega)]
      refine ⟨⟨a + 1, rfl, by omega, rfl, fun kk z hz hk => ?_⟩, by simp only [Int.toNat_natCast]; omega⟩
      by_cases e : kk = a
      · subst e; rw [hxx] at hz; cases hz; exact decide_eq_false h
      · exact hlo kk z hz (by omega)
  · unfold findV at k
    rw [idx_none fun kk z hz => hlo kk z hz (by have := (List.getElem?_eq_some_iff.1 hz).1; omega)] at k
    exact k
theorem refAhead_c (a b : Wt) {w : World} {R : Ending → World → Prop} (k : ∀ w', Ext [] w w' → R (.returned (.bool (ahead a b))) w') : Calls Try.prog 52 #[a.val, b.val] w R := by
  unfold Wt.val
  apply berthref25_ahead_nf
  intro w1 h1 w2 h2
  obtain ⟨b1, x1, z1⟩ := box_new (cs := a.cells) h1
  obtain ⟨b2, x2, z2⟩ := box_new (cs := b.cells) h2
  replace b1 := b1.ext x2 (by simp)
  have hk := k w2 (x1.trans x2)
  unfold ahead at hk
  refine ⟨_, cadd b1 rfl, _, cadd b2 rfl, sel_dec (fun h => ?_) (fun h => ?_)⟩
  · rw [decide_eq_true (show b.pr < a.pr by omega), Bool.true_or] at hk; exact hk
  · rw [decide_eq_false (show ¬ b.pr < a.pr by omega), Bool.false_or] at hk
    refine ⟨_, cadd b1 rfl, _, cadd b2 rfl, sel_intro (fun h2 => ?_) (fun h2 => ?_)⟩
    · have h2 := eq_of_beq h2
      rw [decide_eq_true h2, Bool.true_and] at hk
      exact ⟨_, cadd b1 rfl, _, cadd b2 rfl, hk⟩
    · have h2 : ¬ a.pr = b.pr := fun e => by rw [e] at h2; simp at h2
      rw [decide_eq_false h2, Bool.false_and] at hk
      exact hk
theorem may_c (x : Wt) (next : Int) {w : World} {R : Ending → World → Prop} (k : ∀ w' b, (b = true ↔ soundV x next) → Ext [] w w' → R (.returned (.bool b)) w') : Calls Try.prog 51 #[x.val, .int .i64 next] w R := by
  unfold Wt.val
  apply berthref25_may_nf
  intro w1 h1
  obtain ⟨b1, x1, z1⟩ := box_new (cs := x.cells) h1
  have bad : ¬ soundV x next → R (.returned (.bool false)) w1 := fun h => k w1 false ⟨fun e => (by cases e), fun e => absurd e h⟩ x1
  unfold soundV at bad
  refine ⟨_, cadd b1 rfl, sel_dec (fun h => bad (by omega)) (fun h1 => ⟨_, cadd b1 rfl, sel_dec (fun h => bad (by omega)) (fun h2 => ⟨_, cadd b1 rfl, sel_dec (fun h => bad (by omega)) (fun h3 => ⟨_, cadd b1 rfl, sel_dec (fun h => bad (by omega)) (fun h4 => ⟨_, cadd b1 rfl, sel_dec (fun h5 => ⟨_, cadd b1 rfl, k w1 _ ?_ x1⟩) (fun h => bad (by omega))⟩)⟩)⟩)⟩)⟩
  rw [decide_eq_true_eq]
  unfold soundV
  omega
theorem refWait_c (t : Int) (h0 : 0 ≤ t) (h1 : t ≤ 1099511627776) {w : World} {R : Ending → World → Prop} (k : R (.returned (.int .i64 (waitV t))) w) : Calls Try.prog 54 #[.int .i64 t] w R := by
  apply berthref25_wait_nf
  refine ⟨fun u i w' => w' = w ∧ ∃ j N : Nat, j ≤ 6 ∧ N = 2 ^ j ∧ u = (N : Int) ∧ i = 1 + (j : Int) ∧ ((j : Int) ≤ t - 1 ∨ j = 0), fun _ i _ => (t - i).toNat, ⟨rfl, 0, 1, by omega, rfl, rfl, by omega, .inr rfl⟩, ?_⟩
  rintro _ _ _ w1 ⟨rfl, j, N, hj, hN, rfl, rfl, hjt⟩
  have hp : N ≤ 64 := by rw [hN]; exact Nat.pow_le_pow_right (n := 2) (by omega) hj
  have fin : j = min (t - 1).toNat 6 → R (.returned (.int .i64 (N : Int))) w1 := fun e => by
    unfold waitV at k
    rw [← e, ← hN] at k; exact k
  refine sel_dec (fun h => sel_dec (fun h2 => ?_) (fun h2 => fin ?_)) (fun h => fin (by omega))
  · have hj6 : j < 6 := by
      rcases Nat.lt_or_ge j 6 with h' | h'
      · exact h'
      · have : j = 6 := by omega
        subst this; omega
    rw [w64 (x := 1 + (j : Int) + 1) (by omega) (by omega), w64 (x := 2 * (N : Int)) (by omega) (by omega)]
    exact ⟨⟨rfl, j + 1, N * 2, by omega, by rw [hN, Nat.pow_succ], by omega, by omega, .inl (by omega)⟩, by simp only []; omega⟩
  · have hj6 : j = 6 := by
      rcases Nat.lt_or_ge j 6 with h' | h'
      · exfalso
        have : N ≤ 32 := by rw [hN]; exact Nat.pow_le_pow_right (n := 2) (i := j) (j := 5) (by omega) (by omega)
        omega
      · omega
    omega
theorem refReady_c {w : World} {A : Option Addr} {n c : Nat} {xs : List Wt} (hx : Cells w A (flatW xs)) (hn : xs.length = n) (hb : n < 4611686018427387904) (next now : Int) {R : Ending → World → Prop}
    (k : ∀ w', Ext [] w w' → R (.returned (.tuple #[.string (readyV xs now).1, .bool (readyV xs now).2])) w') : Calls Try.prog 37 #[.agg ⟨rq A n c next⟩, .int .i64 now] w R := by
  unfold rq
  apply berthref25_Ready_nf
  intro w1 h1
  obtain ⟨b1, x1, z1⟩ := box_new (cs := rq A n c next) h1
  have k0 : ∀ w', Ext [] w w' → (readyV xs now) = (ByteArray.empty, false) → R (.returned (.tuple #[.string ByteArray.empty, .bool false])) w' := fun w' e h => by
    have := k w' e
    rw [h] at this; exact this
  refine sel_dec (fun h => k0 w1 x1 (by simp [readyV, h])) (fun h0 => sel_dec (fun h => k0 w1 x1 (by simp [readyV, h])) (fun h1 => ?_))
  have hno : ¬ (now < 0 ∨ now > 1099511627776) := by omega
  refine ⟨fun t w' => ∃ a : Nat, t = a ∧ a ≤ n ∧ w' = w1 ∧ ∀ k y, xs[k]? = some y → k < a → (!y.asleep && decide (y.til ≤ now)) = false, fun t _ => n - t.toNat, ⟨0, rfl, by omega, rfl, fun _ _ _ h => by omega⟩, ?_⟩
  rintro _ _ w2 ⟨a, rfl, ha, rfl, lo⟩
  refine ⟨_, _, _, cadd b1 rfl, sel_dec (fun hlt => ⟨_, _, _, cadd b1 rfl, ?_⟩) (fun hge => ?_)⟩
  · obtain ⟨y, ad, hy, rfl, ry⟩ := rowW (hx.ext0 x1) hn (a := a) (by omega)
    have step : (!y.asleep && decide (y.til ≤ now)) = false → (fun (t : Int) (w' : World) => ∃ a : Nat, t = a ∧ a ≤ n ∧ w' = w2 ∧ ∀ k y, xs[k]? = some y → k < a → (!y.asleep && decide (y.til ≤ now)) = false) (IntKind.wrap .i64 ((a : Int) + 1)) w2 ∧ n - (IntKind.wrap .i64 ((a : Int) + 1)).toNat < n - (a : Int).toNat := fun hf => by
      rw [up64 a (by omega)]
      refine ⟨⟨a + 1, rfl, by omega, rfl, fun k z hk hk2 => ?_⟩, by simp only [Int.toNat_natCast]; omega⟩
      by_cases hka : k = a
      · subst hka; rw [hy] at hk; cases hk; exact hf
      · exact lo k z hk (by omega)
    refine when_dec ⟨by omega, by omega⟩ (ptr_in ⟨_, ry 5 _ rfl, sel_intro (fun h2 => ?_) (fun h2 => step (by rw [h2]; rfl))⟩)
    refine ⟨_, _, _, cadd b1 rfl, when_dec ⟨by omega, by omega⟩ (ptr_in ⟨_, ry 4 _ rfl, sel_dec (fun h3 => ?_) (fun h3 => step (by simp [h3]))⟩)⟩
    refine ⟨_, _, _, cadd b1 rfl, when_dec ⟨by omega, by omega⟩ (ptr_in ⟨_, ry 0 _ rfl, ?_⟩)⟩
    have hv : readyV xs now = (y.name, true) := by
      unfold readyV
      rw [if_neg hno, find_at hy (by rw [h2]; simp [h3]) lo]
    have := k w2 x1
    rw [hv] at this; exact this
  · refine k0 w2 x1 ?_
    unfold readyV
    rw [if_neg hno, find_no fun k y hk => lo k y hk (by have := (List.getElem?_eq_some_iff.1 hk).1; omega)]

/-! ### calls that change it -/
theorem rq_store {w : World} {b : Nat} {cs : List Value} (h : BlkT w b cs 56) (hl : cs.length = 2) (A : Option Addr) (n c : Nat) (next : Int) :
    ∃ w', Sem.run Try.prog (Instr.storeAt 56 (.pointer (some ⟨b, 0, none⟩)) (.agg ⟨rq A n c next⟩)) w = .ok () w' ∧ BlkT w' b (rq A n c next) 56 ∧ Ext [b] w w' :=
  storeW (P := Try.prog) (t := 56) (n := 2) (vs := rq A n c next) i56s h rfl hl (rq_one _ _ _ _)
theorem cells_drop {w : World} {B n c : Nat} {A : Option Addr} {xs : List Wt} (own : OwnW w B A n c xs) {a : Nat} (ha : a ≤ n) : Cells w (V.cut A c a 6) (flatW (xs.drop a)) := by
  have hl := own.len
  have hc := own_cap own
  have h1 := own.cells.cut (c := c) (l := a) (sz := 6) (fun e => by rw [flatW_len, hl]; exact Nat.mul_le_mul_right _ (by omega))
  have h2 := WL.flat_drop xs a
  rw [WLsz] at h2
  unfold flatW at h1 ⊢
  rw [h2] at h1
  exact h1
/-- append(rows, l[a:]...). -/
theorem appCut {w : World} {B B' n n' c c' : Nat} {A A' : Option Addr} {xs ys : List Wt} (own : OwnW w B A n c ys) (own' : OwnW w B' A' n' c' xs) {a : Nat} (ha : a ≤ n') (hB : B ≤ w.heap.size) (hn : n + n' ≤ 1000000) (cy : Nat) :
    ∃ A2 c2 w2, Sem.run Try.prog (Builtin.append_ #[29, 29] 29 #[.slice A n c, .slice (V.cut A' c' a 6) (n' - a) cy]) w = .ok (.slice A2 (n + (n' - a)) c2) w2 ∧ OwnW w2 B A2 (n + (n' - a)) c2 (ys ++ xs.drop a) ∧ Ext (ownF A) w w2 := by
  have hl := own'.len
  obtain ⟨A2, c2, w2, hr, ho, he, _⟩ := appR (P := Try.prog) (ty := 29) (m := n' - a) (cy := cy) (Y := V.cut A' c' a 6) u29 i34 z34s (by omega) (by omega) own (ys := flatW (xs.drop a)) (by rw [flatW_len, List.length_drop, hl]) (cells_drop own' ha) (WL.flat_one _) hB (by omega)
  refine ⟨A2, c2, w2, hr, ?_, he⟩
  unfold OwnW flatW
  rw [WL.flat_app]
  exact ho
theorem refPush_c {w : World} {B n c : Nat} {A : Option Addr} {s : QS} (own : OwnW w B A n c s.xs) (hB : B ≤ w.heap.size) (hn : n ≤ 100000) (hx : s.next ≤ 1099511627776) (name : ByteArray) (pr : Int) {R : Ending → World → Prop}
    (k : ∀ A' n' c' w', Ext [] w w' → OwnW w' B A' n' c' (pushV s name pr).1.xs → (∀ b ∈ ownF A', b ∈ ownF A ∨ w.heap.size ≤ b) → R (.returned (.tuple #[.agg ⟨rq A' n' c' (pushV s name pr).1.next⟩, .int .i64 (pushV s name pr).2])) w') :
    Calls Try.prog 44 #[.agg ⟨rq A n c s.next⟩, .string name, .int .i64 pr] w R := by
  unfold rq
  apply berthref25_Push_nf
  intro w1 h1 w2 h2
  obtain ⟨b1, x1, z1⟩ := box_new (cs := rq A n c s.next) h1
  obtain ⟨b2, x2, z2⟩ := box_new (cs := rq none 0 0 0) h2
  have b12 := b1.ext x2 (by simp)
  have x12 := x1.trans x2
  have own2 := OwnW.ext0 own x12
  have hxl := own.len
  refine ⟨_, _, _, cadd b12 rfl, find_c own2.cells hxl (by omega) name ⟨_, rfl, ?_⟩⟩
  obtain ⟨w3, hr3, b3, e3⟩ := rq_store b2 rfl A n c s.next
  have x3 : Ext [] w w3 := x12.trans' e3 (fun b hb => .inr (by simp at hb; omega))
  have back : ∀ code, pushV s name pr = (s, code) → ∃ A11, ∃ A11l, ∃ A11c, ∃ n12, V.cellsC (fun a_ x_ => World.cell? w2 a_ = some x_) ⟨w.heap.size, 0, none⟩ [(Value.slice A11 A11l A11c), (Value.int .i64 n12)] ∧
      ∃ w13, Sem.run Try.prog (Instr.storeAt 56 (Value.pointer (some ⟨w1.heap.size, 0, none⟩)) (Value.agg #[(Value.slice A11 A11l A11c), (Value.int .i64 n12)])) w2 = .ok () w13 ∧
      ∃ A14, ∃ A14l, ∃ A14c, ∃ n15, V.cellsC (fun a_ x_ => World.cell? w13 a_ = some x_) ⟨w1.heap.size, 0, none⟩ [(Value.slice A14 A14l A14c), (Value.int .i64 n15)] ∧
      R (Ending.returned (Value.tuple #[(Value.agg #[(Value.slice A14 A14l A14c), (Value.int .i64 n15)]), (Value.int .i64 code)])) w13 := fun code hv => by
    have := k A n c w3 x3 (by rw [hv]; exact OwnW.ext0 own x3) (fun b hb => .inl hb)
    rw [hv] at this
    exact ⟨_, _, _, _, cadd0 b12, w3, hr3, _, _, _, _, cadd0 b3, this⟩
  refine sel_dec (fun h => back 250 ?_) (fun h => ⟨_, _, _, cadd b12 rfl, sel_dec (fun h2 => back 251 ?_) (fun h2 => ⟨_, cadd b12 rfl, sel_dec (fun h3 => back 253 ?_) (fun h3 => ?_)⟩)⟩)
  · unfold findV at h
    cases hq : s.xs.findIdx? (named name) with
    | none => rw [hq] at h; simp at h
    | some i =>
      obtain ⟨hil, hi, _⟩ := List.findIdx?_eq_some_iff_getElem.1 hq
      have : s.xs.any (named name) = true := List.any_eq_true.2 ⟨_, List.getElem_mem hil, hi⟩
      unfold pushV; rw [this]; rfl
  all_goals
    have hno : s.xs.any (named name) = false := by
      unfold findV at h
      cases hq : s.xs.findIdx? (named name) with
      | none =>
        rw [List.any_eq_false]
        intro x hx
        have := List.findIdx?_eq_none_iff.1 hq x hx
        simp [this]
      | some i => rw [hq] at h; simp only [] at h; omega
  · unfold pushV; rw [hno, if_pos (show 2048 ≤ s.xs.length by omega)]; rfl
  · unfold pushV; rw [hno, if_neg (show ¬ 2048 ≤ s.xs.length by omega), if_pos (show 1099511627776 ≤ s.next by omega)]; rfl
  have hv : pushV s name pr = (⟨ins s.xs (Wt.new name pr s.next), s.next + 1⟩, 0) := by
    unfold pushV; rw [hno, if_neg (show ¬ 2048 ≤ s.xs.length by omega), if_neg (show ¬ 1099511627776 ≤ s.next by omega)]; rfl
  rw [hv] at k
  obtain ⟨one, hone⟩ : ∃ one, one = Wt.new name pr s.next := ⟨_, rfl⟩
  refine ⟨_, cadd b12 rfl, fun w4 h4 => ?_⟩
  obtain ⟨w5, hr5, b5, e5⟩ := wt_box (x := one) h4
  rw [hone] at hr5
  refine ⟨w5, hr5, ?_⟩
  have x5 := x12.trans e5
  have own5 := OwnW.ext0 own x5
  have b15 := b12.ext e5 (by simp)
  have b25 := b2.ext e5 (by simp)
  -- the rest is copied behind it
  have fin : ∀ (a : Nat) (A1 : Option Addr) (c1 : Nat) (w6 : World), a ≤ n → Ext [] w5 w6 → OwnW w6 w5.heap.size A1 a c1 (s.xs.take a) → (∀ (k : Nat) (y : Wt), s.xs[k]? = some y → k < a → ahead y one = true) → (∀ y, s.xs[a]? = some y → ahead y one = false) →
      ∃ s68, ∃ n69, ∃ n70, ∃ n71, ∃ n72, ∃ b73, V.cellsC (fun a_ x_ => World.cell? w6 a_ = some x_) ⟨w2.heap.size, 0, none⟩ [(Value.string s68), (Value.int .i64 n69), (Value.int .i64 n70), (Value.int .i64 n71), (Value.int .i64 n72), (Value.bool b73)] ∧
      ∀ w74, w74 = (World.alloc w6 (.cells #[(Value.string s68), (Value.int .i64 n69), (Value.int .i64 n70), (Value.int .i64 n71), (Value.int .i64 n72), (Value.bool b73)] 34)) →
      ∃ A75, ∃ A75l, ∃ A75c, ∃ w76, Sem.run Try.prog (Builtin.append_ #[29, 29] 29 #[(Value.slice A1 a c1), (Value.slice (some ⟨w6.heap.size, 0, none⟩) 1 1)]) w74 = .ok (Value.slice A75 A75l A75c) w76 ∧
      ∃ A77, ∃ A77l, ∃ A77c, World.cell? w76 (Addr.add ⟨w.heap.size, 0, none⟩ 0) = some (Value.slice A77 A77l A77c) ∧
      V.when (decide ((0 : Int) ≤ (a : Int) ∧ ((a : Int) : Int) ≤ ((A77l : Nat) : Int))) (∃ A78, ∃ A78l, ∃ A78c, ∃ w79, Sem.run Try.prog (Builtin.append_ #[29, 29] 29 #[(Value.slice A75 A75l A75c), (Value.slice (V.cut A77 A77c (Int.toNat (a : Int)) 6) (A77l - (Int.toNat (a : Int))) (A77c - (Int.toNat (a : Int))))]) w76 = .ok (Value.slice A78 A78l A78c) w79 ∧
      ∃ n80, World.cell? w79 (Addr.add ⟨w.heap.size, 0, none⟩ 1) = some (Value.int .i64 n80) ∧
      ∃ w81, Sem.run Try.prog (Instr.storeAt 56 (Value.pointer (some ⟨w1.heap.size, 0, none⟩)) (Value.agg #[(Value.slice A78 A78l A78c), (Value.int .i64 (IntKind.wrap .i64 (n80 + 1)))])) w79 = .ok () w81 ∧
      ∃ A82, ∃ A82l, ∃ A82c, ∃ n83, V.cellsC (fun a_ x_ => World.cell? w81 a_ = some x_) ⟨w1.heap.size, 0, none⟩ [(Value.slice A82 A82l A82c), (Value.int .i64 n83)] ∧
      R (Ending.returned (Value.tuple #[(Value.agg #[(Value.slice A82 A82l A82c), (Value.int .i64 n83)]), (Value.int .i64 0)])) w81) := fun a A1 c1 w6 ha e6 own6 hlo hhi => by
    refine ⟨_, _, _, _, _, _, cadd0 (b5.ext e6 (by simp)), fun w7 h7 => ?_⟩
    obtain ⟨b7, e7, z7⟩ := box_new (cs := one.cells) h7
    obtain ⟨A8, c8, w8, hr8, own8, e8, hat8⟩ := appW (w1 := w7) (own6.ext0 e7) b7 (Nat.le_trans e6.size e7.size) (by omega)
    have e68 : Ext [] w5 w8 := (e6.trans e7).trans' e8 (fun b hb => .inr (own6.base b hb).1)
    refine ⟨_, _, _, _, hr8, _, _, _, cadd (b15.ext e68 (by simp)) rfl, when_dec ⟨by omega, by omega⟩ ?_⟩
    rw [Int.toNat_natCast]
    obtain ⟨A9, c9, w9, hr9, own9, e9⟩ := appCut own8 (own5.ext0 e68) ha e68.size (by omega) (c - a)
    have e59 : Ext [] w5 w9 := e68.trans' e9 (fun b hb => .inr (own8.base b hb).1)
    have b29 := b25.ext e59 (by simp)
    obtain ⟨w10, hr10, b10, e10⟩ := rq_store b29 rfl A9 (a + 1 + (n - a)) c9 ((s.next + 1 : Nat) : Int)
    refine ⟨_, _, _, _, hr9, _, cadd (b15.ext e59 (by simp)) rfl, ?_⟩
    rw [up64 s.next (by omega)]
    have x10 : Ext [] w w10 := (x5.trans e59).trans' e10 (fun b hb => .inr (by simp at hb; omega))
    refine ⟨w10, hr10, _, _, _, _, cadd0 b10, k A9 _ c9 w10 x10 ?_ (fun b hb => .inr (by have := (own9.base b hb).1; have := x5.size; omega))⟩
    have hp : place s.xs one = a := place_of hlo hhi (by omega)
    have hins : ins s.xs (Wt.new name pr s.next) = s.xs.take a ++ [one] ++ s.xs.drop a := by
      rw [← hone]
      unfold ins
      rw [hp]
      simp
    show OwnW w10 B A9 _ c9 (ins s.xs (Wt.new name pr s.next))
    rw [hins]
    have h2 := b2.lt
    have h25 := e5.size
    refine own_weaken (own9.ext e10 (fun b hb hm => ?_)) (Nat.le_trans hB x5.size)
    simp at hm
    have := (own9.base b hb).1
    omega
  refine ⟨fun A1 l1 c1 t w' => ∃ a : Nat, t = a ∧ a ≤ n ∧ l1 = a ∧ Ext [] w5 w' ∧ OwnW w' w5.heap.size A1 a c1 (s.xs.take a) ∧ ∀ (k : Nat) (y : Wt), s.xs[k]? = some y → k < a → ahead y one = true, fun _ _ _ t _ => n - t.toNat, ⟨0, rfl, by omega, rfl, Ext.refl _ _, World.ownsRow_nil _ _ _ _, fun _ _ _ h => by omega⟩, ?_⟩
  rintro A1 l1 c1 _ _ w6 ⟨a, rfl, ha, rfl, e6, own6, hlo⟩
  have bS : ∀ w', Ext [] w5 w' → BlkT w' w.heap.size (rq A n c s.next) 56 := fun w' e => b15.ext e (by simp)
  refine ⟨fun w' => Ext [] w5 w', e6.drew, _, _, _, fun w' hS => cadd (bS w' hS) rfl, sel_dec (fun hlt => ?_) (fun hge => ?_)⟩
  · obtain ⟨y, ad, hy, rfl, -⟩ := rowW own5.cells hxl (a := l1) (by omega)
    have ryS : ∀ w', Ext [] w5 w' → cellsC (fun a v => w'.cell? a = some v) (ad.add (Int.toNat (l1 : Int) * 6)) y.cells := fun w' e => by
      obtain ⟨y', ad', hy', he, rd⟩ := rowW (own5.ext0 e).cells hxl (a := l1) (by omega)
      cases he
      rw [hy] at hy'
      cases hy'
      exact rd
    refine ⟨_, _, _, fun w' hS => cadd (bS w' hS) rfl, when_dec ⟨by omega, by omega⟩ (ptr_in ⟨_, _, _, _, _, _, cellsC_S ryS, _, _, _, _, _, _, cellsC_S (S := fun w' => Ext [] w5 w') (vs := one.cells) fun w' hS => cadd0 (b5.ext hS (by simp)), refAhead_c y one fun w7 e7 => ⟨_, rfl, e6.drew.trans e7, ?_⟩⟩)⟩
    have e57 := e6.drew.trans e7
    have own7 := (own6.ext0 (Ext.refl [] w6).drew).ext0 e7
    refine sel_intro (fun hah => ?_) (fun hah => fin l1 A1 c1 w7 ha e57 own7 hlo (fun z hz => by rw [hy] at hz; cases hz; exact hah))
    refine ⟨_, _, _, cadd (bS w7 e57) rfl, when_dec ⟨by omega, by omega⟩ (ptr_in ⟨_, _, _, _, _, _, ryS w7 e57, fun w8 h8 => ?_⟩)⟩
    obtain ⟨b8, e8, z8⟩ := box_new (cs := y.cells) h8
    obtain ⟨A9, c9, w9, hr9, own9, e9, hat9⟩ := appW (w1 := w8) (own7.ext0 e8) b8 (Nat.le_trans e57.size e8.size) (by omega)
    rw [up64 l1 (by omega)]
    refine ⟨_, _, _, _, hr9, ⟨l1 + 1, rfl, by omega, rfl, (e57.trans e8).trans' e9 (fun b hb => .inr (own7.base b hb).1), by rw [snoc_at hy]; exact own9, fun kk z hz hk => ?_⟩, by simp only [Int.toNat_natCast]; omega⟩
    by_cases e : kk = l1
    · subst e; rw [hy] at hz; cases hz; exact hah
    · exact hlo kk z hz (by omega)
  · exact fin l1 A1 c1 w6.drew ha e6.drew (own6.ext0 (Ext.refl [] w6).drew) hlo (fun z hz => by have := (List.getElem?_eq_some_iff.1 hz).1; omega)
end Go.Proofs.Ytfjgiaimlmnepaa
