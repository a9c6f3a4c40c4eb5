/- Lists that share no memory: written full, made longer, looked at. -/
import Derived.Test.YtbaglnffgbnekaaS13
import Derived.Test.YtbaglnffgbnekaaB3
set_option linter.unusedVariables false
set_option linter.unusedSimpArgs false
namespace Go.Proofs.Ytbaglnffgbnekaa
open Go Go.V Go.B

def flat (K : Nat) (A : Nat → Option Addr) : List Nat := (List.range K).flatMap fun j => ownF (A j)
theorem mem_flat {K : Nat} {A : Nat → Option Addr} {b : Nat} : b ∈ flat K A ↔ ∃ j, j < K ∧ b ∈ ownF (A j) := by
  unfold flat
  rw [List.mem_flatMap]
  simp only [List.mem_range]
theorem Ints.front {w : World} {k : IntKind} {A : Option Addr} {n m : Nat} {xs ys : List Int} (h : Ints w k A n (xs ++ ys)) (hm : m ≤ n) (hx : xs.length = m) : Ints w k A m xs :=
  ⟨hx, fun j hj => by
    obtain ⟨ad, ha, hc⟩ := h.cells j (by omega)
    refine ⟨ad, ha, ?_⟩
    rw [hc]
    simp [List.getD_eq_getElem?_getD, List.getElem?_append, hx, hj]⟩
theorem own_addr {w : World} {e : TypeId} {k : IntKind} {A : Option Addr} {n c : Nat} {xs : List Int} (h : Own w e k A n c xs) {b : Nat} (hb : b ∈ ownF A) : A = some ⟨b, 0, none⟩ := by
  rcases h.2 with ⟨hv, _⟩ | ⟨g, cap, cur, hv, _⟩
  · injection hv with hA _ _; subst hA; simp [ownF] at hb
  · injection hv with hA _ _; subst hA
    simp [ownF] at hb; subst hb; rfl

def markI1 (i k : Nat) : Int := IntKind.wrap .i64 ((IntKind.wrap .i64 ((-1000) * (IntKind.wrap .i64 ((i : Int) + 1)))) - (Int.tmod (k : Int) 7))
def markI2 (i k : Nat) : Int := IntKind.wrap .i64 ((IntKind.wrap .i64 (1000000 * (IntKind.wrap .i64 ((i : Int) + 1)))) + (k : Int))
theorem apartInts_c {K : Nat} {A : Nat → Option Addr} {n c : Nat → Nat} {f0 : Nat → List Int} (hK : K ≤ 100) {w : World} {L cL : Nat} (hL0 : ∀ j, j < K → w.cell? ⟨L, j, none⟩ = some (.slice (A j) (n j) (c j))) (hLb : L < w.heap.size)
    (own0 : ∀ j, j < K → Own w 3 .i64 (A j) (n j) (c j) (f0 j)) (disj : ∀ i j, i < K → j < K → i ≠ j → ∀ x ∈ ownF (A i), x ∉ ownF (A j)) (hLF : ∀ j, j < K → L ∉ ownF (A j)) (hn : ∀ j, j < K → n j ≤ 100000)
    {R : Ending → World → Prop} (k : ∀ w', Ext (flat K A) w w' → R (.returned (.bool true)) w') :
    Calls Try.prog 22 #[.slice (some ⟨L, 0, none⟩) K cL] w R := by
  apply berthlaw01_apartInts_nf
  have hLn : L ∉ flat K A := fun h => by obtain ⟨j, hj, hx⟩ := mem_flat.1 h; exact hLF j hj hx
  have hls : ∀ w', Ext (flat K A) w w' → ∀ j, j < K → w'.cell? (Addr.add ⟨L, 0, none⟩ j) = some (.slice (A j) (n j) (c j)) := fun w' e j hj => by
    rw [Addr.add0]; exact cell_ext e (hL0 j hj) hLn
  have alloc0 : ∀ j, j < K → ∀ b ∈ ownF (A j), b < w.heap.size := fun j hj b hb => (own0 j hj).lt b hb
  have hG : ∀ j, j < K → w.heap.size ∉ ownF (A j) := fun j hj h => Nat.lt_irrefl _ ((own0 j hj).lt _ h)
  refine when_dec ⟨by omega, by omega, by omega, by omega⟩ ?_
  have e0 : Ext (flat K A) w (w.alloc (.cells ⟨V.rep K [.slice none 0 0]⟩ 25)) := (Ext.refl _ _).alloc _
  have g0 : Blk (w.alloc (.cells ⟨V.rep K [.slice none 0 0]⟩ 25)) w.heap.size (V.rep K [.slice none 0 0]) := Blk.new _ _ _
  -- first all are written full
  refine ⟨fun i w' => ∃ (m : Nat) (f : Nat → List Int), i = m ∧ m ≤ K ∧ Ext (flat K A) w w' ∧ Blk w' w.heap.size (V.rep K [.slice none 0 0]) ∧ (∀ j, j < K → Own w' 3 .i64 (A j) (n j) (c j) (f j)) ∧ ∀ j, j < m → ∀ y, y < n j → (f j).getD y 0 = markI1 j y, fun i _ => K - i.toNat,
    ⟨0, f0, rfl, by omega, e0, g0, fun j hj => (own0 j hj).ext ((Ext.refl [] w).alloc _) (by simp), by omega⟩, ?_⟩
  rintro _ _ w1 ⟨m, f1, rfl, hm, e1, g1, own1, done1⟩
  refine sel_dec (fun hlt => ?_) (fun hge => ?_)
  · have hmK : m < K := by omega
    have hnm := hn m hmK
    refine ⟨fun q w' => ∃ (x : Nat) (f : Nat → List Int), q = x ∧ x ≤ n m ∧ Ext (flat K A) w w' ∧ Blk w' w.heap.size (V.rep K [.slice none 0 0]) ∧ (∀ j, j < K → Own w' 3 .i64 (A j) (n j) (c j) (f j)) ∧ (∀ j, j < m → ∀ y, y < n j → (f j).getD y 0 = markI1 j y) ∧ ∀ y, y < x → (f m).getD y 0 = markI1 m y, fun q _ => n m - q.toNat,
      ⟨0, f1, rfl, by omega, e1, g1, own1, done1, by omega⟩, ?_⟩
    rintro _ _ w2 ⟨x, f2, rfl, hx, e2, g2, own2, done2, row2⟩
    refine when_dec ⟨by omega, by omega⟩ (ptr_in ⟨_, _, _, by rw [Int.toNat_natCast, Nat.mul_one]; exact hls w2 e2 m hmK, sel_dec (fun hlt2 => ?_) (fun hge2 => ?_)⟩)
    · have hxn : x < n m := by omega
      refine when_dec ⟨by omega, by omega⟩ (ptr_in ⟨_, _, _, by rw [Int.toNat_natCast, Nat.mul_one]; exact hls w2 e2 m hmK, when_dec ⟨by omega, by omega⟩ ?_⟩)
      obtain ⟨g, hA, hcell, hfro, hown⟩ := (own2 m hmK).set hxn (markI1 m x)
      rw [hA]
      refine ptr_in ?_
      simp only [Int.toNat_natCast, Nat.mul_one, Addr.addAdd]
      have hgm : g ∈ ownF (A m) := by rw [hA]; simp [ownF]
      have hgF : g ∈ flat K A := mem_flat.2 ⟨m, hmK, hgm⟩
      have hs : Ext [g] w2 (w2.setCell ⟨g, x, none⟩ (.int .i64 (markI1 m x))) := (Ext.refl _ _).setCell _ _ (.inl (by simp))
      rw [up64 x (by omega)]
      refine ⟨hcell, hfro, ⟨x + 1, fun j => if j = m then (f2 m).set x (markI1 m x) else f2 j, rfl, by omega, e2.setCell _ _ (.inl hgF), ?_, fun j hj => ?_, fun j hj y hy => ?_, fun y hy => ?_⟩, down (by omega)⟩
      · refine g2.set_other _ (fun h => ?_)
        have : g = w.heap.size := h
        rw [this] at hgm
        exact hG m hmK hgm
      · by_cases hjm : j = m
        · subst hjm; simp only [if_true]; exact hown
        · simp only [hjm, if_false]
          refine (own2 j hj).ext hs fun b hb hbg => ?_
          simp only [List.mem_singleton] at hbg
          subst hbg
          exact disj m j hmK hj (Ne.symm hjm) b hgm hb
      · simp only [show j ≠ m by omega, if_false]
        exact done2 j hj y hy
      · simp only [if_true]
        have hl := (own2 m hmK).len
        by_cases hyx : y = x
        · subst hyx
          simp [List.getD_eq_getElem?_getD, show y < (f2 m).length by omega]
        · have := row2 y (by omega)
          simp only [List.getD_eq_getElem?_getD, List.getElem?_set] at this ⊢
          rw [if_neg (Ne.symm hyx)]; exact this
    · rw [up64 m (by omega)]
      refine ⟨⟨m + 1, f2, rfl, by omega, e2, g2, own2, fun j hj y hy => ?_⟩, down (by omega)⟩
      by_cases hjm : j = m
      · subst hjm; exact row2 y (by omega)
      · exact done2 j (by omega) y hy
  obtain rfl : m = K := by omega
  -- then each is made longer
  have hM : ∀ j, j < m → f1 j = (List.range (n j)).map (markI1 j) := fun j hj => by
    have hl := (own1 j hj).len
    apply List.ext_getElem (by simp [hl])
    intro y h1 h2
    have := done1 j hj y (by omega)
    simpa [List.getD_eq_getElem?_getD, h1] using this
  clear done1 own0
  refine ⟨fun i w' => ∃ (x : Nat) (B : Nat → Option Addr) (bc : Nat → Nat) (gs : List Value), i = x ∧ x ≤ m ∧ Ext (flat m A) w w' ∧ Blk w' w.heap.size gs ∧ gs.length = m ∧
      (∀ j, j < m → Ints w' .i64 (A j) (n j) (f1 j)) ∧
      (∀ j, j < x → gs[j]? = some (.slice (B j) (n j + 40) (bc j)) ∧ Own w' 3 .i64 (B j) (n j + 40) (bc j) (f1 j ++ (List.range 40).map (markI2 j))) ∧
      (∀ j, x ≤ j → j < m → B j = A j ∧ Own w' 3 .i64 (A j) (n j) (c j) (f1 j)) ∧
      (∀ j, j < m → ∀ b ∈ ownF (B j), b ≠ w.heap.size ∧ (b ∈ ownF (A j) ∨ w.heap.size ≤ b)) ∧
      (∀ i j, i < m → j < m → i ≠ j → ∀ b ∈ ownF (B i), b ∉ ownF (B j)), fun i _ => m - i.toNat,
    ⟨0, A, c, _, rfl, by omega, e1, g1, by simp [V.rep], fun j hj => (own1 j hj).read, fun j hj => by omega, fun j _ hj => ⟨rfl, own1 j hj⟩, fun j hj b hb => ⟨fun h => by rw [h] at hb; exact hG j hj hb, .inl hb⟩, disj⟩, ?_⟩
  clear g1
  rintro _ _ w3 ⟨x, B, bc, gs, rfl, hx, e3, g3, hgl, ints3, past3, todo3, blk3, disj3⟩
  have hsz3 := e3.size
  refine sel_dec (fun hlt => ?_) (fun hge => ?_)
  · have hxm : x < m := by omega
    have hnx := hn x hxm
    obtain ⟨hBx, ownx⟩ := todo3 x (Nat.le_refl _) hxm
    refine when_dec ⟨by omega, by omega⟩ (ptr_in ⟨_, _, _, by rw [Int.toNat_natCast, Nat.mul_one]; exact hls w3 e3 x hxm, ?_⟩)
    refine ⟨fun G gl gc q w' => ∃ y : Nat, q = y ∧ y ≤ 40 ∧ gl = n x + y ∧ Ext (flat m A) w w' ∧ Blk w' w.heap.size gs ∧ (∀ j, j < m → Ints w' .i64 (A j) (n j) (f1 j)) ∧
        (∀ j, j < x → Own w' 3 .i64 (B j) (n j + 40) (bc j) (f1 j ++ (List.range 40).map (markI2 j))) ∧ (∀ j, x < j → j < m → Own w' 3 .i64 (A j) (n j) (c j) (f1 j)) ∧
        Own w' 3 .i64 G (n x + y) gc (f1 x ++ (List.range y).map (markI2 x)) ∧ (∀ b ∈ ownF G, b ≠ w.heap.size ∧ (b ∈ ownF (A x) ∨ w.heap.size ≤ b)) ∧ (∀ j, j < m → j ≠ x → ∀ b ∈ ownF G, b ∉ ownF (B j)), fun _ _ _ q _ => 40 - q.toNat,
      ⟨0, rfl, by omega, rfl, e3, g3, ints3, fun j hj => (past3 j hj).2, fun j h1 h2 => (todo3 j (by omega) h2).2, by simpa using ownx, fun b hb => by rw [← hBx] at hb; exact blk3 x hxm b hb, fun j hj hjx b hb => by rw [← hBx] at hb; exact disj3 x j hxm hj (Ne.symm hjx) b hb⟩, ?_⟩
    rintro G _ gc _ _ w4 ⟨y, rfl, hy, rfl, e4, g4, ints4, past4, todo4, own4, blk4, disj4⟩
    have hsz4 := e4.size
    refine sel_dec (fun hlt2 => ?_) (fun hge2 => ?_)
    · obtain ⟨A', c', w5, hr, own5, hcase⟩ := own4.step (P := Try.prog) (t := 25) (ty := 25) (bytes := 8) (by kernel_rfl) (by kernel_rfl) (markI2 x y) (by omega) (by omega)
      refine ⟨_, _, _, _, hr, ?_⟩
      rw [up64 y (by omega)]
      have own6 : Own w5 3 .i64 A' (n x + (y + 1)) c' (f1 x ++ (List.range (y + 1)).map (markI2 x)) := by
        rw [List.range_succ, List.map_append, ← List.append_assoc]; exact own5
      have e45 : Ext (ownF G) w4 w5 := by
        rcases hcase with ⟨_, he⟩ | ⟨_, he⟩
        · exact he
        · exact he.weaken (by simp)
      have hGF : ∀ b ∈ ownF G, b ∈ flat m A ∨ w.heap.size ≤ b := fun b hb => by
        rcases (blk4 b hb).2 with h | h
        · exact .inl (mem_flat.2 ⟨x, hxm, h⟩)
        · exact .inr h
      have hrow : Ints w5 .i64 (A x) (n x) (f1 x) := by
        rcases hcase with ⟨hA', he⟩ | ⟨_, he⟩
        · by_cases hin : ∃ b, b ∈ ownF G ∧ b ∈ ownF (A x)
          · obtain ⟨b, hb1, hb2⟩ := hin
            have hGA : G = A x := (own_addr own4 hb1).trans (own_addr ownx hb2).symm
            rw [← hGA, ← hA']
            exact Ints.front own6.read (by omega) (by rw [(ints4 x hxm).len])
          · refine (ints4 x hxm).ext he fun ad had hmem => hin ⟨ad.block, hmem, by rw [had]; simp [ownF]⟩
        · exact (ints4 x hxm).ext0 he
      have hA'b : ∀ b ∈ ownF A', b ∈ ownF G ∨ w4.heap.size ≤ b := fun b hb => by
        rcases hcase with ⟨hA', _⟩ | ⟨hf, _⟩
        · rw [hA'] at hb; exact .inl hb
        · exact .inr (hf b hb)
      refine ⟨⟨y + 1, rfl, by omega, by omega, e4.trans' e45 hGF, g4.ext e45 (fun h => (blk4 _ h).1 rfl), fun j hj => ?_, fun j hj => (past4 j hj).ext e45 (fun b hb hG' => disj4 j (by omega) (by omega) b hG' hb), fun j h1 h2 => ?_, own6, fun b hb => ?_, fun j hj hjx b hb hbB => ?_⟩, down (by omega)⟩
      · by_cases hjx : j = x
        · subst hjx; exact hrow
        · refine (ints4 j hj).ext e45 fun ad had hmem => ?_
          have hbj : ad.block ∈ ownF (A j) := by rw [had]; simp [ownF]
          rcases (blk4 _ hmem).2 with h | h
          · exact disj j x hj hxm hjx _ hbj h
          · have := (own1 j hj).lt _ hbj
            have lt0 := alloc0 j hj _ hbj
            omega
      · refine (todo4 j h1 h2).ext e45 (fun b hb hG' => ?_)
        have := disj4 j h2 (by omega) b hG'
        rw [(todo3 j (by omega) h2).1] at this
        exact this hb
      · rcases hA'b b hb with h | h
        · exact blk4 b h
        · have hlt4 := g4.lt
          exact ⟨by omega, .inr (by omega)⟩
      · rcases hA'b b hb with h | h
        · exact disj4 j hj hjx b h hbB
        · by_cases hjlt : j < x
          · have := (past4 j hjlt).lt b hbB; omega
          · have := (todo4 j (by omega) hj).lt b (by rw [(todo3 j (by omega) hj).1] at hbB; exact hbB); omega
    · obtain rfl : y = 40 := by omega
      refine when_dec ⟨by omega, by omega⟩ ⟨?_, ?_, ?_⟩
      · simp only [Int.toNat_natCast, Nat.mul_one, Addr.addAdd]
        exact ⟨_, g4.cell (List.getElem?_eq_getElem (by omega))⟩
      · simp only [Int.toNat_natCast, Nat.mul_one, Addr.addAdd]
        exact g4.frozen _
      · simp only [Int.toNat_natCast, Nat.mul_one, Addr.addAdd]
        rw [up64 x (by omega)]
        have hs : Ext [w.heap.size] w4 (w4.setCell ⟨w.heap.size, x, none⟩ (.slice G (n x + 40) gc)) := (Ext.refl _ _).setCell _ _ (.inl (by simp))
        have hGB : ∀ j, j < m → j ≠ x → ∀ b ∈ ownF (B j), b ∉ [w.heap.size] := fun j hj hjx b hb => by
          simp only [List.mem_singleton]; exact (blk3 j hj b hb).1
        refine ⟨⟨x + 1, fun j => if j = x then G else B j, fun j => if j = x then gc else bc j, gs.set x (.slice G (n x + 40) gc), rfl, by omega, e4.setCell _ _ (.inr (Nat.le_refl _)), g4.set _ _, by simp [hgl], fun j hj => ?_, fun j hj => ?_, fun j h1 h2 => ?_, fun j hj b hb => ?_, fun i j hi hj hij b hb => ?_⟩, down (by omega)⟩
        · refine (ints4 j hj).ext hs fun ad had hmem => ?_
          simp only [List.mem_singleton] at hmem
          exact hG j hj (by rw [← hmem, had]; simp [ownF])
        · by_cases hjx : j = x
          · subst hjx
            simp only [if_true]
            refine ⟨by simp [hgl, hxm], own4.ext hs fun b hb => by simp only [List.mem_singleton]; exact (blk4 b hb).1⟩
          · simp only [hjx, if_false]
            refine ⟨?_, (past4 j (by omega)).ext hs (hGB j (by omega) hjx)⟩
            rw [List.getElem?_set, if_neg (Ne.symm hjx)]
            exact (past3 j (by omega)).1
        · simp only [show j ≠ x by omega, if_false]
          refine ⟨(todo3 j (by omega) h2).1, (todo4 j (by omega) h2).ext hs fun b hb => ?_⟩
          simp only [List.mem_singleton]
          intro h; rw [h] at hb; exact hG j h2 hb
        · by_cases hjx : j = x
          · subst hjx
            simp only [if_true] at hb
            exact blk4 b hb
          · simp only [hjx, if_false] at hb
            exact blk3 j hj b hb
        · by_cases hix : i = x
          · subst hix
            simp only [if_true] at hb
            simp only [Ne.symm hij, if_false]
            exact disj4 j hj (Ne.symm hij) b hb
          · simp only [hix, if_false] at hb
            by_cases hjx : j = x
            · subst hjx
              simp only [if_true]
              exact fun h => disj4 i hi hix b h hb
            · simp only [hjx, if_false]
              exact disj3 i j hi hj hij b hb
  obtain rfl : x = m := by omega
  -- then all is looked at
  refine ⟨fun i w' => ∃ y : Nat, i = y ∧ y ≤ x ∧ Ext [] w3 w', fun i _ => x - i.toNat, ⟨0, rfl, by omega, Ext.refl _ _⟩, ?_⟩
  rintro _ _ w5 ⟨m, rfl, hm, e5⟩
  have f5 : ∀ {w' : World}, Ext [] w3 w' → Ext (flat x A) w w' := fun e => e3.then e
  refine sel_dec (fun hlt => ?_) (fun hge => k _ (f5 e5))
  have hmx : m < x := by omega
  have hnm := hn m hmx
  refine ⟨fun q w' => ∃ y : Nat, q = y ∧ y ≤ n m ∧ Ext [] w3 w', fun q _ => n m - q.toNat, ⟨0, rfl, by omega, e5⟩, ?_⟩
  rintro _ _ w6 ⟨y, rfl, hy, e6⟩
  refine when_dec ⟨by omega, by omega⟩ (ptr_in ⟨_, _, _, by rw [Int.toNat_natCast, Nat.mul_one]; exact hls w6 (f5 e6) m hmx, sel_dec (fun hlt2 => ?_) (fun hge2 => ?_)⟩)
  · have hyn : y < n m := by omega
    refine when_dec ⟨by omega, by omega⟩ (ptr_in ⟨_, _, _, by rw [Int.toNat_natCast, Nat.mul_one]; exact hls w6 (f5 e6) m hmx, when_dec ⟨by omega, by omega⟩ (Ints.at ((ints3 m hmx).ext0 e6) hyn fun ad hc => ?_)⟩)
    try rw [Int.toNat_natCast, Nat.mul_one]
    refine ⟨_, hc, sel_false ?_ ?_⟩
    · rw [bne_eq_false_iff_eq, hM m hmx]
      simp [List.getD_eq_getElem?_getD, hyn]
      rfl
    · rw [up64 y (by omega)]
      exact ⟨⟨y + 1, rfl, by omega, e6⟩, down (by omega)⟩
  · refine ⟨fun q w' => ∃ z : Nat, q = z ∧ z ≤ 40 ∧ Ext [] w3 w', fun q _ => 40 - q.toNat, ⟨0, rfl, by omega, e6⟩, ?_⟩
    rintro _ _ w7 ⟨z, rfl, hz, e7⟩
    refine sel_dec (fun hlt3 => ?_) (fun hge3 => ?_)
    · obtain ⟨hgm, ownm⟩ := past3 m hmx
      have hz40 : z < 40 := by omega
      refine when_dec ⟨by omega, by omega⟩ ⟨_, _, _, by rw [Int.toNat_natCast, Nat.mul_one, Addr.add0]; exact (g3.ext e7 (by simp)).cell hgm, when_dec ⟨by omega, by omega⟩ (ptr_in ⟨_, _, _, by rw [Int.toNat_natCast, Nat.mul_one]; exact hls w7 (f5 e7) m hmx, ?_⟩)⟩
      have e8 : IntKind.wrap .i64 (((n m : Nat) : Int) + (z : Int)) = ((n m + z : Nat) : Int) := by rw [w64 (by omega) (by omega)]; omega
      rw [e8]
      refine when_dec ⟨by omega, by omega⟩ (Ints.at (ownm.read.ext0 e7) (show n m + z < n m + 40 by omega) fun ad hc => ?_)
      try rw [Int.toNat_natCast, Nat.mul_one]
      have hl := (ints3 m hmx).len
      refine ⟨_, hc, sel_false ?_ ?_⟩
      · rw [bne_eq_false_iff_eq]
        simp [List.getD_eq_getElem?_getD, List.getElem?_append, hl, hz40]
        rfl
      · rw [up64 z (by omega)]
        exact ⟨⟨z + 1, rfl, by omega, e7.drew⟩, down (by omega)⟩
    · rw [up64 m (by omega)]
      exact ⟨⟨m + 1, rfl, by omega, e7⟩, down (by omega)⟩

def markW1 (i k : Nat) : Int := IntKind.wrap .u64 ((IntKind.wrap .i64 ((IntKind.wrap .i64 (1000 * (IntKind.wrap .i64 ((i : Int) + 1)))) + (Int.tmod (k : Int) 7))))
def markW2 (i k : Nat) : Int := IntKind.wrap .u64 ((IntKind.wrap .i64 ((IntKind.wrap .i64 (1000000 * (IntKind.wrap .i64 ((i : Int) + 1)))) + (k : Int))))
theorem apartWords_c {K : Nat} {A : Nat → Option Addr} {n c : Nat → Nat} {f0 : Nat → List Int} (hK : K ≤ 100) {w : World} {L cL : Nat} (hL0 : ∀ j, j < K → w.cell? ⟨L, j, none⟩ = some (.slice (A j) (n j) (c j))) (hLb : L < w.heap.size)
    (own0 : ∀ j, j < K → Own w 51 .u64 (A j) (n j) (c j) (f0 j)) (disj : ∀ i j, i < K → j < K → i ≠ j → ∀ x ∈ ownF (A i), x ∉ ownF (A j)) (hLF : ∀ j, j < K → L ∉ ownF (A j)) (hn : ∀ j, j < K → n j ≤ 100000)
    {R : Ending → World → Prop} (k : ∀ w', Ext (flat K A) w w' → R (.returned (.bool true)) w') :
    Calls Try.prog 57 #[.slice (some ⟨L, 0, none⟩) K cL] w R := by
  apply berthlaw01_apartWords_nf
  have hLn : L ∉ flat K A := fun h => by obtain ⟨j, hj, hx⟩ := mem_flat.1 h; exact hLF j hj hx
  have hls : ∀ w', Ext (flat K A) w w' → ∀ j, j < K → w'.cell? (Addr.add ⟨L, 0, none⟩ j) = some (.slice (A j) (n j) (c j)) := fun w' e j hj => by
    rw [Addr.add0]; exact cell_ext e (hL0 j hj) hLn
  have alloc0 : ∀ j, j < K → ∀ b ∈ ownF (A j), b < w.heap.size := fun j hj b hb => (own0 j hj).lt b hb
  have hG : ∀ j, j < K → w.heap.size ∉ ownF (A j) := fun j hj h => Nat.lt_irrefl _ ((own0 j hj).lt _ h)
  refine when_dec ⟨by omega, by omega, by omega, by omega⟩ ?_
  have e0 : Ext (flat K A) w (w.alloc (.cells ⟨V.rep K [.slice none 0 0]⟩ 46)) := (Ext.refl _ _).alloc _
  have g0 : Blk (w.alloc (.cells ⟨V.rep K [.slice none 0 0]⟩ 46)) w.heap.size (V.rep K [.slice none 0 0]) := Blk.new _ _ _
  -- first all are written full
  refine ⟨fun i w' => ∃ (m : Nat) (f : Nat → List Int), i = m ∧ m ≤ K ∧ Ext (flat K A) w w' ∧ Blk w' w.heap.size (V.rep K [.slice none 0 0]) ∧ (∀ j, j < K → Own w' 51 .u64 (A j) (n j) (c j) (f j)) ∧ ∀ j, j < m → ∀ y, y < n j → (f j).getD y 0 = markW1 j y, fun i _ => K - i.toNat,
    ⟨0, f0, rfl, by omega, e0, g0, fun j hj => (own0 j hj).ext ((Ext.refl [] w).alloc _) (by simp), by omega⟩, ?_⟩
  rintro _ _ w1 ⟨m, f1, rfl, hm, e1, g1, own1, done1⟩
  refine sel_dec (fun hlt => ?_) (fun hge => ?_)
  · have hmK : m < K := by omega
    have hnm := hn m hmK
    refine ⟨fun q w' => ∃ (x : Nat) (f : Nat → List Int), q = x ∧ x ≤ n m ∧ Ext (flat K A) w w' ∧ Blk w' w.heap.size (V.rep K [.slice none 0 0]) ∧ (∀ j, j < K → Own w' 51 .u64 (A j) (n j) (c j) (f j)) ∧ (∀ j, j < m → ∀ y, y < n j → (f j).getD y 0 = markW1 j y) ∧ ∀ y, y < x → (f m).getD y 0 = markW1 m y, fun q _ => n m - q.toNat,
      ⟨0, f1, rfl, by omega, e1, g1, own1, done1, by omega⟩, ?_⟩
    rintro _ _ w2 ⟨x, f2, rfl, hx, e2, g2, own2, done2, row2⟩
    refine when_dec ⟨by omega, by omega⟩ (ptr_in ⟨_, _, _, by rw [Int.toNat_natCast, Nat.mul_one]; exact hls w2 e2 m hmK, sel_dec (fun hlt2 => ?_) (fun hge2 => ?_)⟩)
    · have hxn : x < n m := by omega
      refine when_dec ⟨by omega, by omega⟩ (ptr_in ⟨_, _, _, by rw [Int.toNat_natCast, Nat.mul_one]; exact hls w2 e2 m hmK, when_dec ⟨by omega, by omega⟩ ?_⟩)
      obtain ⟨g, hA, hcell, hfro, hown⟩ := (own2 m hmK).set hxn (markW1 m x)
      rw [hA]
      refine ptr_in ?_
      simp only [Int.toNat_natCast, Nat.mul_one, Addr.addAdd]
      have hgm : g ∈ ownF (A m) := by rw [hA]; simp [ownF]
      have hgF : g ∈ flat K A := mem_flat.2 ⟨m, hmK, hgm⟩
      have hs : Ext [g] w2 (w2.setCell ⟨g, x, none⟩ (.int .u64 (markW1 m x))) := (Ext.refl _ _).setCell _ _ (.inl (by simp))
      rw [up64 x (by omega)]
      refine ⟨hcell, hfro, ⟨x + 1, fun j => if j = m then (f2 m).set x (markW1 m x) else f2 j, rfl, by omega, e2.setCell _ _ (.inl hgF), ?_, fun j hj => ?_, fun j hj y hy => ?_, fun y hy => ?_⟩, down (by omega)⟩
      · refine g2.set_other _ (fun h => ?_)
        have : g = w.heap.size := h
        rw [this] at hgm
        exact hG m hmK hgm
      · by_cases hjm : j = m
        · subst hjm; simp only [if_true]; exact hown
        · simp only [hjm, if_false]
          refine (own2 j hj).ext hs fun b hb hbg => ?_
          simp only [List.mem_singleton] at hbg
          subst hbg
          exact disj m j hmK hj (Ne.symm hjm) b hgm hb
      · simp only [show j ≠ m by omega, if_false]
        exact done2 j hj y hy
      · simp only [if_true]
        have hl := (own2 m hmK).len
        by_cases hyx : y = x
        · subst hyx
          simp [List.getD_eq_getElem?_getD, show y < (f2 m).length by omega]
        · have := row2 y (by omega)
          simp only [List.getD_eq_getElem?_getD, List.getElem?_set] at this ⊢
          rw [if_neg (Ne.symm hyx)]; exact this
    · rw [up64 m (by omega)]
      refine ⟨⟨m + 1, f2, rfl, by omega, e2, g2, own2, fun j hj y hy => ?_⟩, down (by omega)⟩
      by_cases hjm : j = m
      · subst hjm; exact row2 y (by omega)
      · exact done2 j (by omega) y hy
  obtain rfl : m = K := by omega
  -- then each is made longer
  have hM : ∀ j, j < m → f1 j = (List.range (n j)).map (markW1 j) := fun j hj => by
    have hl := (own1 j hj).len
    apply List.ext_getElem (by simp [hl])
    intro y h1 h2
    have := done1 j hj y (by omega)
    simpa [List.getD_eq_getElem?_getD, h1] using this
  clear done1 own0
  refine ⟨fun i w' => ∃ (x : Nat) (B : Nat → Option Addr) (bc : Nat → Nat) (gs : List Value), i = x ∧ x ≤ m ∧ Ext (flat m A) w w' ∧ Blk w' w.heap.size gs ∧ gs.length = m ∧
      (∀ j, j < m → Ints w' .u64 (A j) (n j) (f1 j)) ∧
      (∀ j, j < x → gs[j]? = some (.slice (B j) (n j + 40) (bc j)) ∧ Own w' 51 .u64 (B j) (n j + 40) (bc j) (f1 j ++ (List.range 40).map (markW2 j))) ∧
      (∀ j, x ≤ j → j < m → B j = A j ∧ Own w' 51 .u64 (A j) (n j) (c j) (f1 j)) ∧
      (∀ j, j < m → ∀ b ∈ ownF (B j), b ≠ w.heap.size ∧ (b ∈ ownF (A j) ∨ w.heap.size ≤ b)) ∧
      (∀ i j, i < m → j < m → i ≠ j → ∀ b ∈ ownF (B i), b ∉ ownF (B j)), fun i _ => m - i.toNat,
    ⟨0, A, c, _, rfl, by omega, e1, g1, by simp [V.rep], fun j hj => (own1 j hj).read, fun j hj => by omega, fun j _ hj => ⟨rfl, own1 j hj⟩, fun j hj b hb => ⟨fun h => by rw [h] at hb; exact hG j hj hb, .inl hb⟩, disj⟩, ?_⟩
  clear g1
  rintro _ _ w3 ⟨x, B, bc, gs, rfl, hx, e3, g3, hgl, ints3, past3, todo3, blk3, disj3⟩
  have hsz3 := e3.size
  refine sel_dec (fun hlt => ?_) (fun hge => ?_)
  · have hxm : x < m := by omega
    have hnx := hn x hxm
    obtain ⟨hBx, ownx⟩ := todo3 x (Nat.le_refl _) hxm
    refine when_dec ⟨by omega, by omega⟩ (ptr_in ⟨_, _, _, by rw [Int.toNat_natCast, Nat.mul_one]; exact hls w3 e3 x hxm, ?_⟩)
    refine ⟨fun G gl gc q w' => ∃ y : Nat, q = y ∧ y ≤ 40 ∧ gl = n x + y ∧ Ext (flat m A) w w' ∧ Blk w' w.heap.size gs ∧ (∀ j, j < m → Ints w' .u64 (A j) (n j) (f1 j)) ∧
        (∀ j, j < x → Own w' 51 .u64 (B j) (n j + 40) (bc j) (f1 j ++ (List.range 40).map (markW2 j))) ∧ (∀ j, x < j → j < m → Own w' 51 .u64 (A j) (n j) (c j) (f1 j)) ∧
        Own w' 51 .u64 G (n x + y) gc (f1 x ++ (List.range y).map (markW2 x)) ∧ (∀ b ∈ ownF G, b ≠ w.heap.size ∧ (b ∈ ownF (A x) ∨ w.heap.size ≤ b)) ∧ (∀ j, j < m → j ≠ x → ∀ b ∈ ownF G, b ∉ ownF (B j)), fun _ _ _ q _ => 40 - q.toNat,
      ⟨0, rfl, by omega, rfl, e3, g3, ints3, fun j hj => (past3 j hj).2, fun j h1 h2 => (todo3 j (by omega) h2).2, by simpa using ownx, fun b hb => by rw [← hBx] at hb; exact blk3 x hxm b hb, fun j hj hjx b hb => by rw [← hBx] at hb; exact disj3 x j hxm hj (Ne.symm hjx) b hb⟩, ?_⟩
    rintro G _ gc _ _ w4 ⟨y, rfl, hy, rfl, e4, g4, ints4, past4, todo4, own4, blk4, disj4⟩
    have hsz4 := e4.size
    refine sel_dec (fun hlt2 => ?_) (fun hge2 => ?_)
    · obtain ⟨A', c', w5, hr, own5, hcase⟩ := own4.step (P := Try.prog) (t := 46) (ty := 46) (bytes := 8) (by kernel_rfl) (by kernel_rfl) (markW2 x y) (by omega) (by omega)
      refine ⟨_, _, _, _, hr, ?_⟩
      rw [up64 y (by omega)]
      have own6 : Own w5 51 .u64 A' (n x + (y + 1)) c' (f1 x ++ (List.range (y + 1)).map (markW2 x)) := by
        rw [List.range_succ, List.map_append, ← List.append_assoc]; exact own5
      have e45 : Ext (ownF G) w4 w5 := by
        rcases hcase with ⟨_, he⟩ | ⟨_, he⟩
        · exact he
        · exact he.weaken (by simp)
      have hGF : ∀ b ∈ ownF G, b ∈ flat m A ∨ w.heap.size ≤ b := fun b hb => by
        rcases (blk4 b hb).2 with h | h
        · exact .inl (mem_flat.2 ⟨x, hxm, h⟩)
        · exact .inr h
      have hrow : Ints w5 .u64 (A x) (n x) (f1 x) := by
        rcases hcase with ⟨hA', he⟩ | ⟨_, he⟩
        · by_cases hin : ∃ b, b ∈ ownF G ∧ b ∈ ownF (A x)
          · obtain ⟨b, hb1, hb2⟩ := hin
            have hGA : G = A x := (own_addr own4 hb1).trans (own_addr ownx hb2).symm
            rw [← hGA, ← hA']
            exact Ints.front own6.read (by omega) (by rw [(ints4 x hxm).len])
          · refine (ints4 x hxm).ext he fun ad had hmem => hin ⟨ad.block, hmem, by rw [had]; simp [ownF]⟩
        · exact (ints4 x hxm).ext0 he
      have hA'b : ∀ b ∈ ownF A', b ∈ ownF G ∨ w4.heap.size ≤ b := fun b hb => by
        rcases hcase with ⟨hA', _⟩ | ⟨hf, _⟩
        · rw [hA'] at hb; exact .inl hb
        · exact .inr (hf b hb)
      refine ⟨⟨y + 1, rfl, by omega, by omega, e4.trans' e45 hGF, g4.ext e45 (fun h => (blk4 _ h).1 rfl), fun j hj => ?_, fun j hj => (past4 j hj).ext e45 (fun b hb hG' => disj4 j (by omega) (by omega) b hG' hb), fun j h1 h2 => ?_, own6, fun b hb => ?_, fun j hj hjx b hb hbB => ?_⟩, down (by omega)⟩
      · by_cases hjx : j = x
        · subst hjx; exact hrow
        · refine (ints4 j hj).ext e45 fun ad had hmem => ?_
          have hbj : ad.block ∈ ownF (A j) := by rw [had]; simp [ownF]
          rcases (blk4 _ hmem).2 with h | h
          · exact disj j x hj hxm hjx _ hbj h
          · have := (own1 j hj).lt _ hbj
            have lt0 := alloc0 j hj _ hbj
            omega
      · refine (todo4 j h1 h2).ext e45 (fun b hb hG' => ?_)
        have := disj4 j h2 (by omega) b hG'
        rw [(todo3 j (by omega) h2).1] at this
        exact this hb
      · rcases hA'b b hb with h | h
        · exact blk4 b h
        · have hlt4 := g4.lt
          exact ⟨by omega, .inr (by omega)⟩
      · rcases hA'b b hb with h | h
        · exact disj4 j hj hjx b h hbB
        · by_cases hjlt : j < x
          · have := (past4 j hjlt).lt b hbB; omega
          · have := (todo4 j (by omega) hj).lt b (by rw [(todo3 j (by omega) hj).1] at hbB; exact hbB); omega
    · obtain rfl : y = 40 := by omega
      refine when_dec ⟨by omega, by omega⟩ ⟨?_, ?_, ?_⟩
      · simp only [Int.toNat_natCast, Nat.mul_one, Addr.addAdd]
        exact ⟨_, g4.cell (List.getElem?_eq_getElem (by omega))⟩
      · simp only [Int.toNat_natCast, Nat.mul_one, Addr.addAdd]
        exact g4.frozen _
      · simp only [Int.toNat_natCast, Nat.mul_one, Addr.addAdd]
        rw [up64 x (by omega)]
        have hs : Ext [w.heap.size] w4 (w4.setCell ⟨w.heap.size, x, none⟩ (.slice G (n x + 40) gc)) := (Ext.refl _ _).setCell _ _ (.inl (by simp))
        have hGB : ∀ j, j < m → j ≠ x → ∀ b ∈ ownF (B j), b ∉ [w.heap.size] := fun j hj hjx b hb => by
          simp only [List.mem_singleton]; exact (blk3 j hj b hb).1
        refine ⟨⟨x + 1, fun j => if j = x then G else B j, fun j => if j = x then gc else bc j, gs.set x (.slice G (n x + 40) gc), rfl, by omega, e4.setCell _ _ (.inr (Nat.le_refl _)), g4.set _ _, by simp [hgl], fun j hj => ?_, fun j hj => ?_, fun j h1 h2 => ?_, fun j hj b hb => ?_, fun i j hi hj hij b hb => ?_⟩, down (by omega)⟩
        · refine (ints4 j hj).ext hs fun ad had hmem => ?_
          simp only [List.mem_singleton] at hmem
          exact hG j hj (by rw [← hmem, had]; simp [ownF])
        · by_cases hjx : j = x
          · subst hjx
            simp only [if_true]
            refine ⟨by simp [hgl, hxm], own4.ext hs fun b hb => by simp only [List.mem_singleton]; exact (blk4 b hb).1⟩
          · simp only [hjx, if_false]
            refine ⟨?_, (past4 j (by omega)).ext hs (hGB j (by omega) hjx)⟩
            rw [List.getElem?_set, if_neg (Ne.symm hjx)]
            exact (past3 j (by omega)).1
        · simp only [show j ≠ x by omega, if_false]
          refine ⟨(todo3 j (by omega) h2).1, (todo4 j (by omega) h2).ext hs fun b hb => ?_⟩
          simp only [List.mem_singleton]
          intro h; rw [h] at hb; exact hG j h2 hb
        · by_cases hjx : j = x
          · subst hjx
            simp only [if_true] at hb
            exact blk4 b hb
          · simp only [hjx, if_false] at hb
            exact blk3 j hj b hb
        · by_cases hix : i = x
          · subst hix
            simp only [if_true] at hb
            simp only [Ne.symm hij, if_false]
            exact disj4 j hj (Ne.symm hij) b hb
          · simp only [hix, if_false] at hb
            by_cases hjx : j = x
            · subst hjx
              simp only [if_true]
              exact fun h => disj4 i hi hix b h hb
            · simp only [hjx, if_false]
              exact disj3 i j hi hj hij b hb
  obtain rfl : x = m := by omega
  -- then all is looked at
  refine ⟨fun i w' => ∃ y : Nat, i = y ∧ y ≤ x ∧ Ext [] w3 w', fun i _ => x - i.toNat, ⟨0, rfl, by omega, Ext.refl _ _⟩, ?_⟩
  rintro _ _ w5 ⟨m, rfl, hm, e5⟩
  have f5 : ∀ {w' : World}, Ext [] w3 w' → Ext (flat x A) w w' := fun e => e3.then e
  refine sel_dec (fun hlt => ?_) (fun hge => k _ (f5 e5))
  have hmx : m < x := by omega
  have hnm := hn m hmx
  refine ⟨fun q w' => ∃ y : Nat, q = y ∧ y ≤ n m ∧ Ext [] w3 w', fun q _ => n m - q.toNat, ⟨0, rfl, by omega, e5⟩, ?_⟩
  rintro _ _ w6 ⟨y, rfl, hy, e6⟩
  refine when_dec ⟨by omega, by omega⟩ (ptr_in ⟨_, _, _, by rw [Int.toNat_natCast, Nat.mul_one]; exact hls w6 (f5 e6) m hmx, sel_dec (fun hlt2 => ?_) (fun hge2 => ?_)⟩)
  · have hyn : y < n m := by omega
    refine when_dec ⟨by omega, by omega⟩ (ptr_in ⟨_, _, _, by rw [Int.toNat_natCast, Nat.mul_one]; exact hls w6 (f5 e6) m hmx, when_dec ⟨by omega, by omega⟩ (Ints.at ((ints3 m hmx).ext0 e6) hyn fun ad hc => ?_)⟩)
    try rw [Int.toNat_natCast, Nat.mul_one]
    refine ⟨_, hc, sel_false ?_ ?_⟩
    · rw [bne_eq_false_iff_eq, hM m hmx]
      simp [List.getD_eq_getElem?_getD, hyn]
      rfl
    · rw [up64 y (by omega)]
      exact ⟨⟨y + 1, rfl, by omega, e6⟩, down (by omega)⟩
  · refine ⟨fun q w' => ∃ z : Nat, q = z ∧ z ≤ 40 ∧ Ext [] w3 w', fun q _ => 40 - q.toNat, ⟨0, rfl, by omega, e6⟩, ?_⟩
    rintro _ _ w7 ⟨z, rfl, hz, e7⟩
    refine sel_dec (fun hlt3 => ?_) (fun hge3 => ?_)
    · obtain ⟨hgm, ownm⟩ := past3 m hmx
      have hz40 : z < 40 := by omega
      refine when_dec ⟨by omega, by omega⟩ ⟨_, _, _, by rw [Int.toNat_natCast, Nat.mul_one, Addr.add0]; exact (g3.ext e7 (by simp)).cell hgm, when_dec ⟨by omega, by omega⟩ (ptr_in ⟨_, _, _, by rw [Int.toNat_natCast, Nat.mul_one]; exact hls w7 (f5 e7) m hmx, ?_⟩)⟩
      have e8 : IntKind.wrap .i64 (((n m : Nat) : Int) + (z : Int)) = ((n m + z : Nat) : Int) := by rw [w64 (by omega) (by omega)]; omega
      rw [e8]
      refine when_dec ⟨by omega, by omega⟩ (Ints.at (ownm.read.ext0 e7) (show n m + z < n m + 40 by omega) fun ad hc => ?_)
      try rw [Int.toNat_natCast, Nat.mul_one]
      have hl := (ints3 m hmx).len
      refine ⟨_, hc, sel_false ?_ ?_⟩
      · rw [bne_eq_false_iff_eq]
        simp [List.getD_eq_getElem?_getD, List.getElem?_append, hl, hz40]
        rfl
      · rw [up64 z (by omega)]
        exact ⟨⟨z + 1, rfl, by omega, e7.drew⟩, down (by omega)⟩
    · rw [up64 m (by omega)]
      exact ⟨⟨m + 1, rfl, by omega, e7⟩, down (by omega)⟩
end Go.Proofs.Ytbaglnffgbnekaa
