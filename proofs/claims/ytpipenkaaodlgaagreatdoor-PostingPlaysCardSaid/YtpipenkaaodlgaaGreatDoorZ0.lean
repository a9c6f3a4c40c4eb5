/- Posting: how an index lies in memory. -/
import Derived.Test.YtpipenkaaodlgaaGreatDoorS5
import Derived.Test.YtpipenkaaodlgaaGreatDoorRg
import Derived.Test.YtpipenkaaodlgaaGreatDoorLbc
set_option linter.unusedVariables false
set_option linter.unusedSimpArgs false
namespace Go.Proofs.YtpipenkaaodlgaaGreatDoor
open Go Go.V Go.B

structure PS where
  p : Nat
  b : Nat
  S : SetV
/-- The values of a key. -/
structure Kc where
  m : Nat
  of : List (ByteArray × PS)
structure Ent where
  A : Option Addr
  n : Nat
  c : Nat
  l : List Lab
structure Px where
  q : Nat
  N : Nat
  lp : Nat
  lb : Nat
  L : SetV
  Lm : Nat
  Bm : Nat
  ls : List (Int × Ent)
  cols : ByteArray → Option Kc
def psV (s : PS) : Value := .pointer (some ⟨s.p, 0, none⟩)
def entV (e : Ent) : Value := .slice e.A e.n e.c
def mapV (m : Nat) : Value := .map (some m)
def fpK (C : Kc) : List Nat := C.m :: C.of.flatMap fun y => [y.2.p, y.2.b]
theorem mem_fpK {C : Kc} {b : Nat} : b ∈ fpK C ↔ b = C.m ∨ ∃ y ∈ C.of, b = y.2.p ∨ b = y.2.b := by simp [fpK]
def Px.tops (x : Px) : List Nat := [x.q, x.lp, x.lb, x.Lm, x.Bm]
structure KcAt (w : World) (C : Kc) : Prop where
  mp : MapAt w C.m Value.string psV C.of
  set : ∀ y ∈ C.of, SetAt w y.2.p y.2.b y.2.S
  nm : ∀ y ∈ C.of, y.2.p ≠ C.m ∧ y.2.b ≠ C.m
  rr : ∀ y ∈ C.of, ∀ z ∈ C.of, y.1 ≠ z.1 → y.2.p ≠ z.2.p ∧ y.2.p ≠ z.2.b ∧ y.2.b ≠ z.2.p ∧ y.2.b ≠ z.2.b
theorem KcAt.ext {G : List Nat} {w w' : World} {C : Kc} (h : KcAt w C) (e : Ext G w w') (hG : ∀ b ∈ fpK C, b ∉ G) : KcAt w' C :=
  ⟨h.mp.ext e (hG _ (mem_fpK.2 (.inl rfl))), fun y hy => (h.set y hy).ext e (hG _ (mem_fpK.2 (.inr ⟨y, hy, .inl rfl⟩))) (hG _ (mem_fpK.2 (.inr ⟨y, hy, .inr rfl⟩))), h.nm, h.rr⟩
theorem KcAt.lt {w : World} {C : Kc} (h : KcAt w C) : ∀ b ∈ fpK C, b < w.heap.size := fun b hb => by
  rcases mem_fpK.1 hb with rfl | ⟨y, hy, rfl | rfl⟩
  · exact h.mp.lt
  · exact (h.set y hy).hdr.lt
  · exact (h.set y hy).wrd.lt
structure PxAt (w : World) (F : List Nat) (x : Px) : Prop where
  hdr : BlkT w x.q [.int .i64 (x.N : Int), .pointer (some ⟨x.lp, 0, none⟩), .map (some x.Lm), .map (some x.Bm)] 73
  live : SetAt w x.lp x.lb x.L
  lists : MapAt w x.Lm (Value.int .i64) entV x.ls
  ent : ∀ y ∈ x.ls, Cells w y.2.A (LbL.flat y.2.l) ∧ y.2.l.length = y.2.n
  mp : ∃ m, MapAt w x.Bm Value.string mapV m ∧ ∀ k, mget m k = (x.cols k).map (·.m)
  col : ∀ k C, x.cols k = some C → KcAt w C
  small : x.N ≤ 65536
  nd : x.tops.Nodup
  top : ∀ k C, x.cols k = some C → ∀ b ∈ fpK C, b ∉ x.tops
  dis : ∀ k k' C C', x.cols k = some C → x.cols k' = some C' → k ≠ k' → ∀ b ∈ fpK C, b ∉ fpK C'
  entT : ∀ y ∈ x.ls, ∀ b ∈ ownF y.2.A, b ∉ x.tops ∧ ∀ k C, x.cols k = some C → b ∉ fpK C
  covT : ∀ b ∈ x.tops, b ∈ F
  covC : ∀ k C, x.cols k = some C → ∀ b ∈ fpK C, b ∈ F
  covE : ∀ y ∈ x.ls, ∀ b ∈ ownF y.2.A, b ∈ F
  lt : ∀ b ∈ F, b < w.heap.size
theorem PxAt.ext {F G : List Nat} {w w' : World} {x : Px} (h : PxAt w F x) (e : Ext G w w') (hF : ∀ b ∈ F, b ∉ G) : PxAt w' F x := by
  obtain ⟨m, h1, h2⟩ := h.mp
  have ht : ∀ b ∈ x.tops, b ∉ G := fun b hb => hF b (h.covT b hb)
  unfold Px.tops at ht
  exact ⟨h.hdr.ext e (ht _ (by simp)), h.live.ext e (ht _ (by simp)) (ht _ (by simp)), h.lists.ext e (ht _ (by simp)), fun y hy => ⟨(h.ent y hy).1.ext e (fun b hb => hF b (h.covE y hy b hb)), (h.ent y hy).2⟩, ⟨m, h1.ext e (ht _ (by simp)), h2⟩,
    fun k C hk => (h.col k C hk).ext e (fun b hb => hF b (h.covC k C hk b hb)), h.small, h.nd, h.top, h.dis, h.entT, h.covT, h.covC, h.covE, fun b hb => Nat.lt_of_lt_of_le (h.lt b hb) e.size⟩
theorem PxAt.ext0 {F : List Nat} {w w' : World} {x : Px} (h : PxAt w F x) (e : Ext [] w w') : PxAt w' F x := h.ext e (by simp)
theorem PxAt.weaken {F F' : List Nat} {w : World} {x : Px} (h : PxAt w F x) (hF : ∀ b ∈ F, b ∈ F') (hl : ∀ b ∈ F', b < w.heap.size) : PxAt w F' x :=
  ⟨h.hdr, h.live, h.lists, h.ent, h.mp, h.col, h.small, h.nd, h.top, h.dis, h.entT, fun b hb => hF b (h.covT b hb), fun k C hk b hb => hF b (h.covC k C hk b hb), fun y hy b hb => hF b (h.covE y hy b hb), hl⟩
def Px.setCol (x : Px) (key : ByteArray) (c : Option Kc) : Px := { x with cols := fun k => if k = key then c else x.cols k }
theorem setCol_same (x : Px) (key : ByteArray) (c : Option Kc) : (x.setCol key c).cols key = c := by simp [Px.setCol]
theorem setCol_other (x : Px) {key k : ByteArray} (c : Option Kc) (h : k ≠ key) : (x.setCol key c).cols k = x.cols k := by simp [Px.setCol, h]
theorem setCol_some {x : Px} {key k : ByteArray} {c : Option Kc} {C : Kc} (h : (x.setCol key c).cols k = some C) : (k = key ∧ c = some C) ∨ (k ≠ key ∧ x.cols k = some C) := by
  by_cases e : k = key
  · subst e
    rw [setCol_same] at h
    exact .inl ⟨rfl, h⟩
  · rw [setCol_other x c e] at h
    exact .inr ⟨e, h⟩
/-- What a change of some blocks leaves: the tops but for the map of the keys. -/
theorem PxAt.keepT {G : List Nat} {w w' : World} {F : List Nat} {x : Px} (h : PxAt w F x) (e : Ext G w w') (hT : ∀ b ∈ x.tops, b ≠ x.Bm → b ∉ G) (hE : ∀ y ∈ x.ls, ∀ b ∈ ownF y.2.A, b ∉ G) :
    BlkT w' x.q [.int .i64 (x.N : Int), .pointer (some ⟨x.lp, 0, none⟩), .map (some x.Lm), .map (some x.Bm)] 73 ∧ SetAt w' x.lp x.lb x.L ∧ MapAt w' x.Lm (Value.int .i64) entV x.ls ∧ (∀ y ∈ x.ls, Cells w' y.2.A (LbL.flat y.2.l) ∧ y.2.l.length = y.2.n) := by
  have nd := h.nd
  unfold Px.tops at hT nd
  simp only [List.nodup_cons, List.mem_cons, List.not_mem_nil, or_false, not_or] at nd
  obtain ⟨⟨n1, n2, n3, n4⟩, ⟨n5, n6, n7⟩, ⟨n8, n9⟩, n10, _⟩ := nd
  exact ⟨h.hdr.ext e (hT _ (by simp) n4), h.live.ext e (hT _ (by simp) n7) (hT _ (by simp) n9), h.lists.ext e (hT _ (by simp) n10), fun y hy => ⟨(h.ent y hy).1.ext e (hE y hy), (h.ent y hy).2⟩⟩
/-- A key's values turned. -/
theorem PxAt.upd {w w' : World} {F : List Nat} {x : Px} (h : PxAt w F x) {key : ByteArray} {C C' : Kc} (hk : x.cols key = some C) (e : Ext (fpK C) w w') (g : Grow w (fpK C) (fpK C')) (h' : KcAt w' C') (hm : C'.m = C.m) :
    PxAt w' (F ++ fpK C') (x.setCol key (some C')) := by
  have hlt := h.lt
  have ht := h.top key C hk
  have gt : ∀ b ∈ x.tops, b ∉ fpK C' := fun b hb hm => by
    rcases g _ hm with h4 | h4
    · exact ht b h4 hb
    · have := hlt b (h.covT b hb); omega
  have gk : ∀ k D, k ≠ key → x.cols k = some D → ∀ b ∈ fpK D, b ∉ fpK C' := fun k D hne hD b hb hm => by
    rcases g _ hm with h4 | h4
    · exact h.dis k key D C hD hk hne b hb h4
    · have := hlt b (h.covC k D hD b hb); omega
  obtain ⟨m, h1, h2⟩ := h.mp
  obtain ⟨k1, k2, k3, k4⟩ := h.keepT e (fun b hb _ hm => ht b hm hb) (fun y hy b hb => (h.entT y hy b hb).2 key C hk)
  refine ⟨k1, k2, k3, k4, ⟨m, h1.ext e (fun hm => ht _ hm (by simp [Px.tops])), fun k => ?_⟩, fun k D hD => ?_, h.small, h.nd, fun k D hD b hb => ?_, fun k k' D D' hD hD' hne b hb => ?_, fun y hy b hb => ⟨(h.entT y hy b hb).1, fun k D hD hm => ?_⟩, fun b hb => List.mem_append.2 (.inl (h.covT b hb)), fun k D hD b hb => ?_, fun y hy b hb => List.mem_append.2 (.inl (h.covE y hy b hb)), fun b hb => ?_⟩
  · by_cases ek : k = key
    · subst ek
      rw [setCol_same, h2, hk]
      simp [hm]
    · rw [setCol_other x _ ek, h2]
  · rcases setCol_some hD with ⟨_, hD⟩ | ⟨hne, hD⟩
    · cases hD; exact h'
    · exact (h.col k D hD).ext e (fun b hb => h.dis k key D C hD hk hne b hb)
  · rcases setCol_some hD with ⟨_, hD⟩ | ⟨hne, hD⟩
    · cases hD; exact fun hm => gt b hm hb
    · exact h.top k D hD b hb
  · rcases setCol_some hD with ⟨ek, hD⟩ | ⟨hn, hD⟩
    · cases hD
      rcases setCol_some hD' with ⟨ek', hD'⟩ | ⟨hn', hD'⟩
      · exact absurd (ek.trans ek'.symm) hne
      · exact fun hm => gk k' D' hn' hD' b hm hb
    · rcases setCol_some hD' with ⟨ek', hD'⟩ | ⟨hn', hD'⟩
      · cases hD'; exact gk k D hn hD b hb
      · exact h.dis k k' D D' hD hD' hne b hb
  · rcases setCol_some hD with ⟨_, hD⟩ | ⟨hne, hD⟩
    · cases hD
      rcases g b hm with h4 | h4
      · exact (h.entT y hy b hb).2 key C hk h4
      · have := hlt b (h.covE y hy b hb); omega
    · exact (h.entT y hy b hb).2 k D hD hm
  · rcases setCol_some hD with ⟨_, hD⟩ | ⟨hne, hD⟩
    · cases hD; exact List.mem_append.2 (.inr hb)
    · exact List.mem_append.2 (.inl (h.covC k D hD b hb))
  · rcases List.mem_append.1 hb with hb | hb
    · exact Nat.lt_of_lt_of_le (hlt b hb) e.size
    · exact h'.lt b hb
/-- A key more. -/
theorem PxAt.more {w w' : World} {F : List Nat} {x : Px} (h : PxAt w F x) {key : ByteArray} {C' : Kc} (hk : x.cols key = none) (e : Ext [x.Bm] w w') (g : ∀ b ∈ fpK C', w.heap.size ≤ b) (h' : KcAt w' C')
    {m : List (ByteArray × Nat)} (h2 : ∀ k, mget m k = (x.cols k).map (·.m)) (hm : MapAt w' x.Bm Value.string mapV (mput m key C'.m)) : PxAt w' (F ++ fpK C') (x.setCol key (some C')) := by
  have hlt := h.lt
  have gt : ∀ b ∈ x.tops, b ∉ fpK C' := fun b hb hm => by have := g b hm; have := hlt b (h.covT b hb); omega
  have gk : ∀ k D, x.cols k = some D → ∀ b ∈ fpK D, b ∉ fpK C' := fun k D hD b hb hm => by have := g b hm; have := hlt b (h.covC k D hD b hb); omega
  have nB : ∀ b, b ∉ x.tops → b ∉ [x.Bm] := fun b hb hm => hb (by simp at hm; subst hm; simp [Px.tops])
  obtain ⟨k1, k2, k3, k4⟩ := h.keepT e (fun b hb hne hm => hne (by simpa using hm)) (fun y hy b hb => nB b (h.entT y hy b hb).1)
  refine ⟨k1, k2, k3, k4, ⟨_, hm, fun k => ?_⟩, fun k D hD => ?_, h.small, h.nd, fun k D hD b hb => ?_, fun k k' D D' hD hD' hne b hb => ?_, fun y hy b hb => ⟨(h.entT y hy b hb).1, fun k D hD hm => ?_⟩, fun b hb => List.mem_append.2 (.inl (h.covT b hb)), fun k D hD b hb => ?_, fun y hy b hb => List.mem_append.2 (.inl (h.covE y hy b hb)), fun b hb => ?_⟩
  · rw [mget_mput]
    by_cases ek : k = key
    · subst ek
      rw [if_pos rfl, setCol_same]; rfl
    · rw [if_neg (fun e => ek e.symm), setCol_other x _ ek, h2]
  · rcases setCol_some hD with ⟨_, hD⟩ | ⟨hne, hD⟩
    · cases hD; exact h'
    · exact (h.col k D hD).ext e (fun b hb => nB b (h.top k D hD b hb))
  · rcases setCol_some hD with ⟨_, hD⟩ | ⟨hne, hD⟩
    · cases hD; exact fun hm => gt b hm hb
    · exact h.top k D hD b hb
  · rcases setCol_some hD with ⟨ek, hD⟩ | ⟨hn, hD⟩
    · cases hD
      rcases setCol_some hD' with ⟨ek', hD'⟩ | ⟨hn', hD'⟩
      · exact absurd (ek.trans ek'.symm) hne
      · exact fun hm => gk k' D' hD' b hm hb
    · rcases setCol_some hD' with ⟨ek', hD'⟩ | ⟨hn', hD'⟩
      · cases hD'; exact gk k D hD b hb
      · exact h.dis k k' D D' hD hD' hne b hb
  · rcases setCol_some hD with ⟨_, hD⟩ | ⟨hne, hD⟩
    · cases hD
      have := g b hm; have := hlt b (h.covE y hy b hb); omega
    · exact (h.entT y hy b hb).2 k D hD hm
  · rcases setCol_some hD with ⟨_, hD⟩ | ⟨hne, hD⟩
    · cases hD; exact List.mem_append.2 (.inr hb)
    · exact List.mem_append.2 (.inl (h.covC k D hD b hb))
  · rcases List.mem_append.1 hb with hb | hb
    · exact Nat.lt_of_lt_of_le (hlt b hb) e.size
    · exact h'.lt b hb
/-- A key less. -/
theorem PxAt.less {w w' : World} {F : List Nat} {x : Px} (h : PxAt w F x) {key : ByteArray} (e : Ext [x.Bm] w w')
    {m : List (ByteArray × Nat)} (h2 : ∀ k, mget m k = (x.cols k).map (·.m)) (hn : (mkeys m).Nodup) (hm : MapAt w' x.Bm Value.string mapV (mdel m key)) : PxAt w' F (x.setCol key none) := by
  have nB : ∀ b, b ∉ x.tops → b ∉ [x.Bm] := fun b hb hm => hb (by simp at hm; subst hm; simp [Px.tops])
  have some_of : ∀ k D, (x.setCol key none).cols k = some D → k ≠ key ∧ x.cols k = some D := fun k D hD => by
    rcases setCol_some hD with ⟨_, hD⟩ | h
    · cases hD
    · exact h
  obtain ⟨k1, k2, k3, k4⟩ := h.keepT e (fun b hb hne hm => hne (by simpa using hm)) (fun y hy b hb => nB b (h.entT y hy b hb).1)
  refine ⟨k1, k2, k3, k4, ⟨_, hm, fun k => ?_⟩, fun k D hD => ?_, h.small, h.nd, fun k D hD => h.top k D (some_of k D hD).2, fun k k' D D' hD hD' hne => h.dis k k' D D' (some_of k D hD).2 (some_of k' D' hD').2 hne, fun y hy b hb => ⟨(h.entT y hy b hb).1, fun k D hD => (h.entT y hy b hb).2 k D (some_of k D hD).2⟩, h.covT, fun k D hD => h.covC k D (some_of k D hD).2, h.covE, fun b hb => Nat.lt_of_lt_of_le (h.lt b hb) e.size⟩
  · rw [mget_mdel hn]
    by_cases ek : k = key
    · subst ek
      rw [if_pos rfl, setCol_same]; rfl
    · rw [if_neg (fun e => ek e.symm), setCol_other x _ ek, h2]
  · have hD := (some_of k D hD).2
    exact (h.col k D hD).ext e (fun b hb => nB b (h.top k D hD b hb))
end Go.Proofs.YtpipenkaaodlgaaGreatDoor
