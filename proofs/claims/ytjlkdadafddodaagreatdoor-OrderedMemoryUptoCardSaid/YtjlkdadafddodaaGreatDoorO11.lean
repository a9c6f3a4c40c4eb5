/- Ordered: played, fixed. -/
import Derived.Test.YtjlkdadafddodaaGreatDoorO10
set_option linter.unusedVariables false
set_option linter.unusedSimpArgs false
namespace Go.Proofs.YtjlkdadafddodaaGreatDoor
open Go Go.V Go.B

theorem Chg.rng {w w' : World} {F F' : List Nat} {cnt : Nat} {x x' : Ix} (r : Rng x) {key : ByteArray} {slot n : Int} {b : Bool} (h0 : -9223372036854775808 ≤ n) (h1 : n ≤ 9223372036854775807) (hv : ∀ k i, x'.val k i = if b = true ∧ k = key ∧ i = slot then some n else x.val k i) : Rng x' := fun k i m hm => by
  rw [hv] at hm
  split at hm
  · cases hm; exact ⟨h0, h1⟩
  · exact r k i m hm
theorem Rng.put {x x' : Ix} (r : Rng x) {key : ByteArray} {slot n : Int} (h0 : -9223372036854775808 ≤ n) (h1 : n ≤ 9223372036854775807) (hv : ∀ k i, x'.val k i = if putE x key slot = 0 ∧ k = key ∧ i = slot then some n else x.val k i) : Rng x' := fun k i m hm => by
  rw [hv] at hm
  split at hm
  · cases hm; exact ⟨h0, h1⟩
  · exact r k i m hm
theorem Rng.del {x x' : Ix} (r : Rng x) {key : ByteArray} {slot : Int} (hv : ∀ k i, x'.val k i = if delE x key slot = 0 ∧ k = key ∧ i = slot then none else x.val k i) : Rng x' := fun k i m hm => by
  rw [hv] at hm
  split at hm
  · cases hm
  · exact r k i m hm
/-- Every entry was put by some step. -/
def Src (ops : List Op) (x : Ix) : Prop := ∀ k i n, x.val k i = some n → ∃ o ∈ ops, o.kind = 2 ∧ o.key = k ∧ o.slot = i
theorem Src.more {ops : List Op} {x : Ix} {a : Nat} (h : Src (ops.take a) x) (o : Op) (ho : ops[a]? = some o) : Src (ops.take (a + 1)) x := fun k i n hv => by
  obtain ⟨q, hq, r⟩ := h k i n hv
  exact ⟨q, by rw [snoc_at ho]; simp [hq], r⟩
theorem Src.put {ops : List Op} {x x' : Ix} {a : Nat} (h : Src (ops.take a) x) {o : Op} (ho : ops[a]? = some o) (hk : o.kind = 2) {n : Int} (hv : ∀ k i, x'.val k i = if putE x o.key o.slot = 0 ∧ k = o.key ∧ i = o.slot then some n else x.val k i) : Src (ops.take (a + 1)) x' := fun k i m hm => by
  rw [hv] at hm
  split at hm
  · rename_i hh
    exact ⟨o, by rw [snoc_at ho]; simp, hk, hh.2.1.symm, hh.2.2.symm⟩
  · exact h.more o ho k i m hm
theorem Src.del {ops : List Op} {x x' : Ix} (h : Src ops x) {key : ByteArray} {slot : Int} (hv : ∀ k i, x'.val k i = if delE x key slot = 0 ∧ k = key ∧ i = slot then none else x.val k i) : Src ops x' := fun k i m hm => by
  rw [hv] at hm
  split at hm
  · cases hm
  · exact h k i m hm
def cores : ByteArray := ⟨#[99, 111, 114, 101, 115]⟩
theorem mi_of {S : SetV} {l : List Nat} (N : Nat) (hN : S.N = N) (h : ∀ i, i < N → (S.mem i = true ↔ i ∈ l)) (hl : l = (List.range N).filter (fun i => decide (i ∈ l))) : S.mi = l.map Int.ofNat := by
  unfold SetV.mi SetV.members
  rw [hN]
  conv => rhs; rw [hl]
  congr 1
  refine List.filter_congr fun i hi => ?_
  rw [Bool.eq_iff_iff, h i (List.mem_range.1 hi)]
  simp
set_option maxRecDepth 4000 in
theorem fixed_c {w : World} {R : Ending → World → Prop} (k : ∀ w', Ext [] w w' → R (.returned (.bool true)) w') : Calls Tryz.prog 4 #[] w R := by
  apply berthlaw08_fixed_nf
  have hce : cores ≠ ByteArray.empty := by decide
  refine NewIx_c (n := 8) (by omega) fun w4 F0 x0 e4 a4 k4 N4 v4 f4 => ⟨_, _, rfl, sel_false rfl (sel_false rfl ?_)⟩
  refine Put_c a4 k4 (by omega) cores 3 16 fun w7 F1 x1 c1 u1 => ⟨_, rfl, ?_⟩
  have p1 : putE x0 cores 3 = 0 := by unfold putE barV; rw [N4, v4]; simp [hce]
  have v1 : ∀ k i, x1.val k i = if k = cores ∧ i = 3 then some 16 else none := fun k i => by rw [u1, p1, v4]; simp
  have N1 := c1.N.trans N4
  rw [← c1.q]
  refine Put_c c1.at_ c1.ok (by omega) cores 5 4 fun w10 F2 x2 c2 u2 => ⟨_, rfl, ?_⟩
  have p2 : putE x1 cores 5 = 0 := by unfold putE barV; rw [N1, v1]; simp [hce]
  have v2 : ∀ k i, x2.val k i = if k = cores ∧ i = 5 then some 4 else if k = cores ∧ i = 3 then some 16 else none := fun k i => by rw [u2, p2, v1]; simp
  have N2 := c2.N.trans N1
  rw [← c2.q]
  refine Put_c c2.at_ c2.ok (by omega) cores 3 8 fun w13 F3 x3 c3 u3 => ⟨_, rfl, ?_⟩
  have p3 : putE x2 cores 3 = 82 := by unfold putE barV; rw [N2, v2]; simp [hce]
  have v3 : ∀ k i, x3.val k i = if k = cores ∧ i = 5 then some 4 else if k = cores ∧ i = 3 then some 16 else none := fun k i => by rw [u3, p3, v2]; simp
  have N3 := c3.N.trans N2
  rw [← c3.q]
  have r3 : Rng x3 := fun k i m hm => by
    rw [v3] at hm
    split at hm
    · cases hm; omega
    · split at hm
      · cases hm; omega
      · cases hm
  have g3 := c3.at_.g c3.ok (by omega) r3
  have e13 : Ext [] w w13 := ((e4.old f4 c1.ext).old (Grow.old e4 f4 c1.grow) c2.ext).old (Grow.old (e4.old f4 c1.ext) (Grow.old e4 f4 c1.grow) c2.grow) c3.ext
  refine Get_c g3.r cores 3 fun w17 e17 => ⟨_, _, rfl, ?_⟩
  have h3 : x3.val cores 3 = some 16 := by rw [v3]; simp
  rw [h3, p1, p2, p3]
  refine sel_true rfl (sel_true rfl (sel_true rfl (sel_true rfl (sel_true rfl ?_))))
  refine Find_c' (g3.ext0 e17) cores 6 5 (by omega) (by omega) fun p bw w20 S e20 hp hb hS => ⟨_, rfl, fun w21 h21 => ?_⟩
  obtain ⟨b21, x21, z21⟩ := box_new (cs := [.int .i64 3]) h21
  have m1 : S.mi = [3] := mi_of (l := [3]) 8 (hS.size.trans N3) (fun i hi => by
    rw [hS.mem]
    unfold findP
    simp only [v3]
    constructor
    · rintro ⟨a, h1, h2⟩
      split at h1
      · cases h1; unfold standsP at h2; omega
      · split at h1
        · rename_i h; have := h.2; simp; omega
        · cases h1
    · intro hi
      have : i = 3 := by simpa using hi
      subst this
      exact ⟨16, by simp, by unfold standsP; omega⟩) (by decide)
  have s1 : S.N = 8 := hS.size.trans N3
  refine isSet_c (hS.set.ext0 x21) s1 m1 (Ints.of_blk (xs := [3]) b21.blk (by intro j hj; simp at hj; subst hj; rfl)) fun w24 e24 => ⟨_, rfl, sel_true rfl ?_⟩
  refine Has_c' ((((g3.ext0 e17).ext0 e20).ext0 x21).ext0 e24) cores fun p2 bw2 w27 S2 e27 hp2 hb2 hS2 => ⟨_, rfl, fun w28 h28 => ?_⟩
  obtain ⟨b28, x28, z28⟩ := box_new (cs := [.int .i64 3, .int .i64 5]) h28
  have m2 : S2.mi = [3, 5] := mi_of (l := [3, 5]) 8 (hS2.size.trans N3) (fun i hi => by
    rw [hS2.mem]
    unfold hasP
    simp only [v3]
    constructor
    · rintro ⟨a, h1⟩
      split at h1
      · rename_i h; have := h.2; simp; omega
      · split at h1
        · rename_i h; have := h.2; simp; omega
        · cases h1
    · intro hi
      have : i = 3 ∨ i = 5 := by simpa using hi
      rcases this with rfl | rfl
      · exact ⟨16, by simp⟩
      · exact ⟨4, by simp⟩) (by decide)
  have s2 : S2.N = 8 := hS2.size.trans N3
  exact isSet_c (hS2.set.ext0 x28) s2 m2 (Ints.of_blk (xs := [3, 5]) b28.blk (by intro j hj; simp at hj; (rcases (by omega : j = 0 ∨ j = 1) with rfl | rfl) <;> rfl)) fun w31 e31 => ⟨_, rfl, k w31 (((((((e13.trans e17).trans e20).trans x21).trans e24).trans e27).trans x28).trans e31)⟩
end Go.Proofs.YtjlkdadafddodaaGreatDoor
