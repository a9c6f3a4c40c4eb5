/- Posting: enter. -/
import Derived.Test.YtpipenkaaodlgaaGreatDoorZ2
set_option linter.unusedVariables false
set_option linter.unusedSimpArgs false
namespace Go.Proofs.YtpipenkaaodlgaaGreatDoor
open Go Go.V Go.B

/-- The labels of the slots turned. -/
theorem PxAt.setLs {w w' : World} {F G : List Nat} {x : Px} (h : PxAt w F x) (e : Ext [x.Lm] w w') {ls : List (Int × Ent)} (hm : MapAt w' x.Lm (Value.int .i64) entV ls)
    (he : ∀ y ∈ ls, y ∈ x.ls ∨ (Cells w' y.2.A (LbL.flat y.2.l) ∧ y.2.l.length = y.2.n ∧ ∀ b ∈ ownF y.2.A, w.heap.size ≤ b ∧ b ∈ G)) (hG : ∀ b ∈ G, b < w'.heap.size) : PxAt w' (F ++ G) { x with ls := ls } := by
  have nd := h.nd
  have hlt := h.lt
  unfold Px.tops at nd
  simp only [List.nodup_cons, List.mem_cons, List.not_mem_nil, or_false, not_or] at nd
  obtain ⟨⟨n1, n2, n3, n4⟩, ⟨n5, n6, n7⟩, ⟨n8, n9⟩, n10, _⟩ := nd
  have nL : ∀ b, b ∉ x.tops → b ∉ [x.Lm] := fun b hb hm => hb (by simp at hm; subst hm; simp [Px.tops])
  obtain ⟨m, h1, h2⟩ := h.mp
  have n11 : x.Bm ≠ x.Lm := fun e => n10 e.symm
  refine ⟨h.hdr.ext e (by simp; exact n3), h.live.ext e (by simp; exact n6) (by simp; exact n8), hm, fun y hy => ?_, ⟨m, h1.ext e (by simp; exact n11), h2⟩, fun k C hk => (h.col k C hk).ext e (fun b hb => nL b (h.top k C hk b hb)), h.small, h.nd, h.top, h.dis, fun y hy b hb => ?_, fun b hb => List.mem_append.2 (.inl (h.covT b hb)), fun k C hk b hb => List.mem_append.2 (.inl (h.covC k C hk b hb)), fun y hy b hb => ?_, fun b hb => ?_⟩
  · rcases he y hy with hy | ⟨g1, g2, _⟩
    · exact ⟨(h.ent y hy).1.ext e (fun b hb => nL b (h.entT y hy b hb).1), (h.ent y hy).2⟩
    · exact ⟨g1, g2⟩
  · rcases he y hy with hy | ⟨_, _, g3⟩
    · exact h.entT y hy b hb
    · have := (g3 b hb).1
      exact ⟨fun hm => by have := hlt b (h.covT b hm); omega, fun k C hk hm => by have := hlt b (h.covC k C hk b hm); omega⟩
  · rcases he y hy with hy | ⟨_, _, g3⟩
    · exact List.mem_append.2 (.inl (h.covE y hy b hb))
    · exact List.mem_append.2 (.inr (g3 b hb).2)
  · rcases List.mem_append.1 hb with hb | hb
    · exact Nat.lt_of_lt_of_le (hlt b hb) e.size
    · exact hG b hb
/-- A key's values stand, and the set of one of them. -/
structure Mid (w w' : World) (F F' : List Nat) (x x' : Px) (k v : ByteArray) (C : Kc) (s : PS) : Prop where
  ex : Ext F w w'
  gr : Grow w F F'
  at_ : PxAt w' F' x'
  sm : Same7 x x'
  col : x'.cols k = some C
  ot : ∀ k', k' ≠ k → x'.cols k' = x.cols k'
  get : mget C.of v = some s
  pso : ∀ v', v' ≠ v → mget C.of v' = x.ps k v'
  psv : x.ps k v = some s ∨ (x.ps k v = none ∧ (∀ i, s.S.mem i = false) ∧ s.S.N = x.N)
theorem fpK_S {C : Kc} {v : ByteArray} {s : PS} (h : mget C.of v = some s) : s.b ∈ fpK C ∧ s.p ∈ fpK C := ⟨mem_fpK.2 (.inr ⟨_, mget_some h, .inr rfl⟩), mem_fpK.2 (.inr ⟨_, mget_some h, .inl rfl⟩)⟩
theorem Mid.add {w w' w'' : World} {F F' : List Nat} {x x' : Px} {k v : ByteArray} {C : Kc} {s : PS} (h : Mid w w' F F' x x' k v C s) {T : SetV} (e : Ext [s.b] w' w'') (hs : SetAt w'' s.p s.b T) (hN : T.N = s.S.N) {slot : Nat} (hslot : slot < x.N) (hm : ∀ j : Nat, T.mem j = (s.S.mem j || decide ((0 : Int) ≤ (slot : Int) ∧ (slot : Int) < (s.S.N : Int) ∧ (j : Int) = (slot : Int))))
    {E : ByteArray → ByteArray → Nat → Prop} (ok : ColsOk x E) : ∃ F3 x3, Ext F w w'' ∧ Grow w F F3 ∧ PxAt w'' F3 x3 ∧ Same7 x x3 ∧ ColsOk x3 (fun k' v' i => E k' v' i ∨ (k' = k ∧ v' = v ∧ i = slot)) := by
  have hC := h.at_.col k C h.col
  have hbF := (fpK_S h.get).1
  have hsF := h.at_.covC k C h.col _ hbF
  have c2 := hC.setS h.get e hs
  have eC : Ext (fpK C) w' w'' := e.weaken (fun b hb => by simp at hb; subst hb; exact .inl hbF)
  have gC : Grow w' (fpK C) (fpK ⟨C.m, upS C.of v T⟩) := fun b hb => .inl (upS_fp hb)
  have p2 := h.at_.upd h.col eC gC c2 rfl
  have sN : s.S.N = x.N := by
    rcases h.psv with h1 | ⟨_, _, h1⟩
    · exact (ok.set k v s h1).1
    · exact h1
  refine ⟨_, _, h.ex.trans' e (fun b hb => by simp at hb; subst hb; exact h.gr _ hsF), fun b hb => ?_, p2, h.sm.trans (Same7.setCol _ _ _), ?_⟩
  · rcases List.mem_append.1 hb with hb | hb
    · exact h.gr b hb
    · exact h.gr b (h.at_.covC k C h.col b (upS_fp hb))
  · have hps : ∀ v', (x'.setCol k (some ⟨C.m, upS C.of v T⟩)).ps k v' = mget (upS C.of v T) v' := fun v' => by rw [ps_setCol, if_pos rfl]; rfl
    refine ok.add (s' := { s with S := T }) (slot := slot) (by show x'.N = _; exact h.sm.N) (fun k' hk' => by rw [setCol_other _ _ hk']; exact h.ot k' hk') (fun k' v' hne => ?_) (by rw [hps, upS_get, if_pos rfl, h.get]; rfl) (hN.trans sN) (fun i => ?_)
    · by_cases e1 : k' = k
      · subst e1
        have e2 : v' ≠ v := fun e => hne ⟨rfl, e⟩
        rw [hps, upS_get, if_neg e2, h.pso v' e2]
      · rw [ps_setCol, if_neg e1]
        unfold Px.ps
        rw [h.ot k' e1]
    · show T.mem i = true ↔ _
      rw [hm, Bool.or_eq_true, decide_eq_true_eq]
      have : ((0 : Int) ≤ (slot : Int) ∧ (slot : Int) < (s.S.N : Int) ∧ (i : Int) = (slot : Int)) ↔ i = slot := by omega
      rw [this]
      rcases h.psv with h1 | ⟨h1, h2, _⟩
      · rw [h1]; simp
      · rw [h1, h2]; simp
end Go.Proofs.YtpipenkaaodlgaaGreatDoor
