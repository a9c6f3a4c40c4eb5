/- Posting: Live, Of, With, In, Has, Count. -/
import Derived.Test.YtpipenkaaodlgaaGreatDoorZ6
import Derived.Test.YtpipenkaaodlgaaGreatDoorRm
set_option linter.unusedVariables false
set_option linter.unusedSimpArgs false
namespace Go.Proofs.YtpipenkaaodlgaaGreatDoor
open Go Go.V Go.B

/-- An index that is looked at: nil, or one that stands. -/
structure PxV (w : World) (q : Option Addr) (x : Px) : Prop where
  r : PxR w q x
  ok : PxOk x
theorem PxV.ext0 {w w' : World} {q : Option Addr} {x : Px} (h : PxV w q x) (e : Ext [] w w') : PxV w' q x := ⟨h.r.ext0 e, h.ok⟩
theorem PxV.ext {F : List Nat} {w w' : World} {q : Option Addr} {x : Px} (h : PxV w q x) (e : Ext F w w') (hF : ∀ F', PxAt w F' x → ∀ b ∈ x.tops ++ F', b ∉ F) : PxV w' q x := by
  refine ⟨?_, h.ok⟩
  rcases h.r with h1 | ⟨F', h1, h2⟩
  · exact .inl h1
  · exact .inr ⟨F', h1, h2.ext e (fun b hb => hF F' h2 b (by simp [hb]))⟩
def nilX : Px := ⟨0, 0, 0, 0, ⟨0, []⟩, 0, 0, [], fun _ => none⟩
theorem nilX_ok : PxOk nilX := ⟨⟨fun k C hk => (by cases hk), fun k v s hk => (by cases hk), fun k v i => ⟨fun ⟨s, hk, _⟩ => (by cases hk), fun ⟨l, hk, _⟩ => (by cases hk)⟩⟩, rfl, fun i => ⟨fun hi => (by simp [nilX, SetV.mem] at hi), fun ⟨l, hk⟩ => (by cases hk)⟩, fun i l hk => (by cases hk)⟩
theorem nilX_v (w : World) : PxV w none nilX := ⟨.inl ⟨rfl, rfl, fun _ => rfl, rfl, rfl, ⟨by simp [nilX], by simp [nilX], by simp [nilX], by simp [nilX, SetV.mem]⟩⟩, nilX_ok⟩
theorem nilX_lab (i : Int) : nilX.lab i = none := rfl
theorem PxV.nil_lab {w : World} {x : Px} (h : PxV w none x) : x.N = 0 ∧ (∀ i, x.lab i = none) ∧ (∀ k, x.cols k = none) := by
  rcases h.r with ⟨_, h1, h2, h3, _⟩ | ⟨F, h1, _⟩
  · exact ⟨h1, fun i => by unfold Px.lab; rw [h3]; rfl, h2⟩
  · cases h1
theorem PxV.of {w : World} {F : List Nat} {x : Px} (h : PxAt w F x) (ok : PxOk x) : PxV w (some ⟨x.q, 0, none⟩) x := ⟨.inr ⟨F, rfl, h⟩, ok⟩
theorem PxOk.tell {x : Px} (ok : PxOk x) (k v : ByteArray) (i : Nat) : (∃ s, x.ps k v = some s ∧ s.S.mem i = true) ↔ ∃ l, x.lab (i : Int) = some l ∧ (k, v) ∈ l := ok.cols.tell k v i
theorem labels_c {w : World} {A : Option Addr} {n c : Nat} {l : List Lab} (h : Cells w A (LbL.flat l)) (hl : l.length = n) (hb : n * 32 ≤ 140737488355328) {R : Ending → World → Prop}
    (k : ∀ w' A' c', Ext [] w w' → OwnL LbL w' w.heap.size 33 A' n c' l → R (.returned (.slice A' n c')) w') : Calls Tryz.prog 7 #[.slice A n c] w R := by
  apply berthlaw07_labels_nf
  intro w2 h2
  obtain ⟨A3, c3, w4, hr, own, e⟩ := copyL (L := LbL) (P := Tryz.prog) (ty := 22) (t := 22) (e := 33) (w := w) (m := n) uL infoL rfl (by omega) h hl h2 (by omega) c
  exact ⟨A3, n, c3, w4, hr, k w4 A3 c3 e own⟩
theorem Live_c {w : World} {q : Option Addr} {x : Px} (h : PxV w q x) {R : Ending → World → Prop}
    (k : ∀ p bw w' S, Ext [] w w' → w.heap.size ≤ p → w.heap.size ≤ bw → SetAt w' p bw S → S.N = x.N → (∀ i : Nat, S.mem i = (x.lab (i : Int)).isSome) → R (.returned (.pointer (some ⟨p, 0, none⟩))) w') :
    Calls Tryz.prog 36 #[.pointer q] w R := by
  apply posting_Index_Live_nf
  cases q with
  | none =>
    obtain ⟨h1, h2, h3⟩ := h.nil_lab
    exact sel_true rfl (none_c h.r fun p bw w' S e hp hb hs hN h0 => ⟨_, rfl, k p bw w' S e hp hb hs hN (fun i => by rw [h0, h2]; rfl)⟩)
  | some a =>
    rcases h.r with ⟨h1, _⟩ | ⟨F, h1, hx⟩
    · cases h1
    · cases h1
      refine sel_false rfl (ptr_in ⟨_, live_c hx, Clone_c hx.live.ref fun p bw w' e hp hb hs => ⟨_, rfl, k p bw w' x.L e hp hb hs h.ok.LN (fun i => ?_)⟩⟩)
      rw [← h.ok.has, SetV.has_nat]
theorem Of_c {w : World} {q : Option Addr} {x : Px} (h : PxV w q x) (i : Int) {R : Ending → World → Prop}
    (k : ∀ A n c w', Ext [] w w' → OwnL LbL w' w.heap.size 33 A n c ((x.lab i).getD []) → R (.returned (.tuple #[.slice A n c, .bool (x.lab i).isSome])) w') :
    Calls Tryz.prog 14 #[.pointer q, .int .i64 i] w R := by
  apply posting_Index_Of_nf
  cases q with
  | none =>
    obtain ⟨h1, h2, h3⟩ := h.nil_lab
    have := k none 0 0 w (Ext.refl _ _)
    rw [h2] at this
    exact sel_true rfl (this (OwnL.nil _ _ _))
  | some a =>
    rcases h.r with ⟨h1, _⟩ | ⟨F, h1, hx⟩
    · cases h1
    · cases h1
      refine sel_false rfl (ptr_in ⟨_, live_c hx, Has_c hx.live.ref i ⟨_, rfl, ?_⟩⟩)
      rw [h.ok.has]
      refine sel_intro (fun h1 => ?_) (fun h1 w8 h8 => ?_)
      · have h1 : x.lab i = none := by simpa using h1
        have := k none 0 0 w (Ext.refl _ _)
        rw [h1] at this
        exact this (OwnL.nil _ _ _)
      · obtain ⟨l, hl⟩ : ∃ l, x.lab i = some l := by
          cases hl : x.lab i with
          | none => rw [hl] at h1; cases h1
          | some l => exact ⟨l, rfl⟩
        obtain ⟨t, hg, rfl⟩ : ∃ t, mget x.ls i = some t ∧ t.l = l := by
          unfold Px.lab at hl
          cases hg : mget x.ls i with
          | none => rw [hg] at hl; cases hl
          | some t => rw [hg] at hl; exact ⟨t, rfl, by injection hl⟩
        obtain ⟨hcl, hln⟩ : Cells w t.A (LbL.flat t.l) ∧ t.l.length = t.n := hx.ent _ (mget_some hg)
        have okl := (h.ok.lab i _ hl).1.len
        have x8 : Ext [] w w8 := by rw [h8]; exact (Ext.refl _ _).alloc _
        obtain ⟨A3, c3, w4, hr, own, e⟩ := copyL (L := LbL) (P := Tryz.prog) (ty := 22) (t := 22) (e := 33) (w := w) (m := t.n) uL infoL rfl (by omega) hcl hln h8 (by omega) t.c
        have hx8 := hx.ext0 x8
        have := k A3 t.n c3 w4 e
        rw [hl] at this
        exact ptr_in ⟨_, cadd hx8.hdr rfl, _, _, _, w8, (look_yes kI um_il zL hx8.lists hg).1, _, _, _, w4, hr, this own⟩
/-- The set of a value, or nil. -/
theorem PxV.ps_ref {w : World} {q : Option Addr} {x : Px} (h : PxV w q x) (key v : ByteArray) : ∃ f T, RefAt w ((x.ps key v).map fun s => (⟨s.p, 0, none⟩ : Addr)) T f ∧ (∀ b ∈ f, b < w.heap.size) ∧ (∀ i : Nat, T.mem i = true ↔ ∃ l, x.lab (i : Int) = some l ∧ (key, v) ∈ l) ∧ (∀ i, T.mem i = true → i < x.N) := by
  cases hps : x.ps key v with
  | none =>
    refine ⟨[], SetV.nil, RefAt.nil w, by simp, fun i => ?_, fun i hi => by simp [SetV.nil, SetV.mem] at hi⟩
    rw [← h.ok.tell]
    constructor
    · intro hi; simp [SetV.nil, SetV.mem] at hi
    · rintro ⟨s, hs, _⟩; rw [hps] at hs; cases hs
  | some s =>
    obtain ⟨C, hcol, hv⟩ : ∃ C, x.cols key = some C ∧ mget C.of v = some s := by
      unfold Px.ps at hps
      cases hc : x.cols key with
      | none => rw [hc] at hps; cases hps
      | some C => rw [hc] at hps; exact ⟨C, rfl, hps⟩
    have hs := h.ok.cols.set key v s hps
    rcases h.r with ⟨rfl, _⟩ | ⟨F, h1, hx⟩
    · rw [h.nil_lab.2.2] at hcol; cases hcol
    · have sv := (hx.col key C hcol).set _ (mget_some hv)
      refine ⟨[s.p, s.b], s.S, sv.ref, fun b hb => ?_, fun i => ?_, fun i hi => by rw [← hs.1]; exact sv.ok.mem_lt hi⟩
      · simp at hb
        rcases hb with rfl | rfl
        · exact sv.hdr.lt
        · exact sv.wrd.lt
      · rw [← h.ok.tell]
        constructor
        · intro hi; exact ⟨s, hps, hi⟩
        · rintro ⟨s', hs', hi⟩; rw [hps] at hs'; cases hs'; exact hi
theorem With_c {w : World} {q : Option Addr} {x : Px} (h : PxV w q x) (key v : ByteArray) {R : Ending → World → Prop}
    (k : ∀ p bw w' S, Ext [] w w' → w.heap.size ≤ p → w.heap.size ≤ bw → SetAt w' p bw S → S.N = x.N → (∀ i : Nat, S.mem i = true ↔ ∃ l, x.lab (i : Int) = some l ∧ (key, v) ∈ l) → R (.returned (.pointer (some ⟨p, 0, none⟩))) w') :
    Calls Tryz.prog 24 #[.pointer q, .string key, .string v] w R := by
  apply posting_Index_With_nf
  refine none_c h.r fun p bw w6 S e6 hp hb hs hN h0 => ⟨_, rfl, ?_⟩
  have h6 := h.ext0 e6
  refine values_c h6.r key ⟨_, rfl, _, w6, value_look h6.r key v, ?_⟩
  obtain ⟨f, T, hT, hf, hTm, hTN⟩ := h.ps_ref key v
  refine OrWith_c hs hT.ok (Rd.other (hT.ext0 e6) (fun hm => by have := hf _ hm; omega)) fun w' C e' hC hCN hCm => ⟨rfl, k p bw w' C (e6.trans' e' (fun b hb' => by simp at hb'; subst hb'; exact .inr hb)) hp hb hC (hCN.trans hN) (fun i => ?_)⟩
  rw [hCm, h0, Bool.false_or, Bool.and_eq_true, decide_eq_true_eq, ← hTm, hN]
  exact ⟨fun h => h.2, fun h => ⟨hTN i h, h⟩⟩
theorem CountP_c {w : World} {q : Option Addr} {x : Px} (h : PxV w q x) (key v : ByteArray) {R : Ending → World → Prop}
    (k : ∀ T : SetV, T.Ok → (∀ i : Nat, T.mem i = true ↔ ∃ l, x.lab (i : Int) = some l ∧ (key, v) ∈ l) → (∀ i, T.mem i = true → i < x.N) → R (.returned (.int .i64 ((T.count : Nat) : Int))) w) :
    Calls Tryz.prog 25 #[.pointer q, .string key, .string v] w R := by
  apply posting_Index_Count_nf
  obtain ⟨f, T, hT, hf, hTm, hTN⟩ := h.ps_ref key v
  exact values_c h.r key ⟨_, rfl, _, w, value_look h.r key v, Count_c hT ⟨_, rfl, k T hT.ok hTm hTN⟩⟩
theorem In_c {w : World} {q : Option Addr} {x : Px} (h : PxV w q x) (key : ByteArray) {A : Option Addr} {n c : Nat} {vs : List ByteArray} (hv : ∀ j v, vs[j]? = some v → ∃ ad, A = some ad ∧ w.cell? (ad.add j) = some (.string v)) (hn : vs.length = n) (hb : n < 4611686018427387904) (hA : ∀ b ∈ ownF A, b < w.heap.size) {R : Ending → World → Prop}
    (k : ∀ p bw w' S, Ext [] w w' → w.heap.size ≤ p → w.heap.size ≤ bw → SetAt w' p bw S → S.N = x.N → (∀ i : Nat, S.mem i = true ↔ ∃ l, x.lab (i : Int) = some l ∧ ∃ v ∈ vs, (key, v) ∈ l) → R (.returned (.pointer (some ⟨p, 0, none⟩))) w') :
    Calls Tryz.prog 41 #[.pointer q, .string key, .slice A n c] w R := by
  apply posting_Index_In_nf
  refine none_c h.r fun p bw w6 S e6 hp hbw hs hN h0 => ⟨_, rfl, ?_⟩
  have h6 := h.ext0 e6
  have hbl := hs.wrd.lt
  have hc6 : Cells w6 A (vs.map Value.string) := by
    refine Cells.ext0 (fun j v hj => ?_) e6
    rw [List.getElem?_map] at hj
    cases hvj : vs[j]? with
    | none => rw [hvj] at hj; cases hj
    | some v' => rw [hvj] at hj; cases hj; exact hv j v' hvj
  refine ⟨fun t w' => ∃ a : Nat, t = a ∧ a ≤ n ∧ ∃ T, Ext [bw] w6 w' ∧ SetAt w' p bw T ∧ T.N = x.N ∧ (∀ i : Nat, T.mem i = true ↔ ∃ l, x.lab (i : Int) = some l ∧ ∃ v ∈ vs.take a, (key, v) ∈ l), fun t _ => n - t.toNat, ⟨0, rfl, by omega, S, Ext.refl _ _, hs, hN, fun i => by rw [h0]; simp⟩, ?_⟩
  rintro _ _ w11 ⟨a, rfl, ha, T, g1, g2, g3, g4⟩
  refine sel_dec (fun hlt => ?_) (fun hge => ?_)
  · obtain ⟨v, hva⟩ : ∃ v, vs[a]? = some v := ⟨vs[a]'(by omega), List.getElem?_eq_getElem (by omega)⟩
    have hnA : ∀ b ∈ ownF A, b ∉ [bw] := fun b hb' => by have := hA b hb'; simp; omega
    obtain ⟨ad, rfl, hcell⟩ := (hc6.ext g1 hnA) a (.string v) (by rw [List.getElem?_map, hva]; rfl)
    have v11 : PxV w11 q x := ⟨by
      rcases h6.r with h1 | ⟨F', h1, h2⟩
      · exact .inl h1
      · rcases h.r with ⟨h3, _⟩ | ⟨F, h3, h4⟩
        · rw [h1] at h3; cases h3
        · exact .inr ⟨F, h3, (h4.ext0 e6).ext g1 (fun b hb' => by have := h4.lt b hb'; simp; omega)⟩, h.ok⟩
    obtain ⟨f, U, hU, hf, hUm, hUN⟩ := h.ps_ref key v
    have hU11 := (hU.ext0 e6).ext g1 (fun b hb' => by have := hf b hb'; simp; omega)
    refine when_dec ⟨by omega, by omega⟩ (ptr_in ⟨v, by rw [Int.toNat_natCast, Nat.mul_one]; exact hcell, values_c v11.r key ⟨_, rfl, _, w11, value_look v11.r key v, ?_⟩⟩)
    refine OrWith_c g2 hU.ok (Rd.other hU11 (fun hm => by have := hf _ hm; omega)) fun w' C e' hC hCN hCm => ⟨rfl, ⟨a + 1, up64 a (by omega), by omega, C, g1.trans' e' (fun b hb' => .inl hb'), hC, hCN.trans g3, fun i => ?_⟩, by rw [up64 a (by omega)]; simp only [Int.toNat_natCast]; omega⟩
    rw [hCm, Bool.or_eq_true, Bool.and_eq_true, decide_eq_true_eq, g4, hUm, snoc_at hva, g3]
    constructor
    · rintro (⟨l, h1, v', h2, h3⟩ | ⟨_, l, h1, h2⟩)
      · exact ⟨l, h1, v', by simp [h2], h3⟩
      · exact ⟨l, h1, v, by simp, h2⟩
    · rintro ⟨l, h1, v', h2, h3⟩
      rcases List.mem_append.1 h2 with h2 | h2
      · exact .inl ⟨l, h1, v', h2, h3⟩
      · simp at h2; subst h2
        exact .inr ⟨hUN i ((hUm i).2 ⟨l, h1, h3⟩), l, h1, h3⟩
  · have : a = n := by omega
    subst this
    rw [List.take_of_length_le (by omega)] at g4
    exact k p bw w11 T (e6.trans' g1 (fun b hb' => by simp at hb'; subst hb'; exact .inr hbw)) hp hbw g2 g3 g4
/-- The map of a key's values. -/
theorem PxV.colmap {w : World} {q : Option Addr} {x : Px} (h : PxV w q x) (key : ByteArray) : ∃ m : List (ByteArray × PS), (((x.cols key).map (·.m)) = none ∧ m = [] ∨ ∃ b, ((x.cols key).map (·.m)) = some b ∧ MapAt w b Value.string psV m) ∧ (∀ y ∈ m, SetAt w y.2.p y.2.b y.2.S) ∧ (∀ v, mget m v = x.ps key v) := by
  cases hc : x.cols key with
  | none => exact ⟨[], .inl ⟨rfl, rfl⟩, by simp, fun v => by unfold Px.ps; rw [hc]; rfl⟩
  | some C =>
    rcases h.r with ⟨rfl, _⟩ | ⟨F, h1, hx⟩
    · rw [h.nil_lab.2.2] at hc; cases hc
    · have hC := hx.col key C hc
      exact ⟨C.of, .inr ⟨_, rfl, hC.mp⟩, hC.set, fun v => by unfold Px.ps; rw [hc]; rfl⟩
theorem HasP_c {w : World} {q : Option Addr} {x : Px} (h : PxV w q x) (key : ByteArray) {R : Ending → World → Prop}
    (k : ∀ p bw w' S, Ext [] w w' → w.heap.size ≤ p → w.heap.size ≤ bw → SetAt w' p bw S → S.N = x.N → (∀ i : Nat, S.mem i = true ↔ ∃ l, x.lab (i : Int) = some l ∧ ∃ v, (key, v) ∈ l) → R (.returned (.pointer (some ⟨p, 0, none⟩))) w') :
    Calls Tryz.prog 42 #[.pointer q, .string key] w R := by
  apply posting_Index_Has_nf
  refine none_c h.r fun p bw w5 S e5 hp hbw hs hN h0 => ⟨_, rfl, ?_⟩
  have h5 := h.ext0 e5
  have hpl := hs.hdr.lt
  have hbl := hs.wrd.lt
  refine values_c h5.r key ⟨_, rfl, ?_⟩
  obtain ⟨m, hm, hset, hget⟩ := h.colmap key
  have hmn : (mkeys m).Nodup := by
    rcases hm with ⟨_, rfl⟩ | ⟨b, _, h2⟩
    · simp [mkeys]
    · exact h2.nodup
  have hsl : ∀ y ∈ m, y.2.p < w.heap.size ∧ y.2.b < w.heap.size := fun y hy => ⟨(hset y hy).hdr.lt, (hset y hy).wrd.lt⟩
  have hml : ∀ b, ((x.cols key).map (·.m)) = some b → b < w.heap.size := fun b hb => by
    rcases hm with ⟨h1, _⟩ | ⟨b', h1, h2⟩
    · rw [hb] at h1; cases h1
    · rw [hb] at h1; cases h1; exact h2.lt
  have hm5 : ((x.cols key).map (·.m)) = none ∧ m = [] ∨ ∃ b, ((x.cols key).map (·.m)) = some b ∧ MapAt w5 b Value.string psV m := by
    rcases hm with h1 | ⟨b, h1, h2⟩
    · exact .inl h1
    · exact .inr ⟨b, h1, h2.ext0 e5⟩
  obtain ⟨w10, hr10, it10, x10⟩ := it_start (P := Tryz.prog) um_sp hm5
  refine ⟨_, w10, hr10, ?_⟩
  generalize hit : w5.heap.size = it at hr10 it10 ⊢
  have E10 := e5.trans x10
  have z5 := e5.size
  have z10 := x10.size
  refine ⟨fun w' => ∃ done T, Ext [bw, it] w10 w' ∧ ItAt w' it ((x.cols key).map (·.m)) Value.string psV m done ∧ SetAt w' p bw T ∧ T.N = x.N ∧ (∀ i : Nat, T.mem i = true ↔ ∃ y ∈ done, y.2.S.mem i = true), fun w' => m.length - itN w' it,
    ⟨[], S, Ext.refl _ _, it10, hs.ext0 x10, hN, fun i => by rw [h0]; simp⟩, ?_⟩
  rintro _ w14 ⟨done, T, g1, g2, g3, g4, g5⟩
  have hnum := g2.num
  have hitl := it10.lt
  have z14 := g1.size
  rcases it_next (P := Tryz.prog) g2 0 with ⟨hr, hd, _⟩ | ⟨z, w18, hr, hre, e18, g18, hzm, hlt⟩
  · refine .inl ⟨w14, hr, k p bw w14 T (E10.trans' g1 (fun b hb => by simp at hb; rcases hb with rfl | rfl; exact .inr hbw; exact .inr (by omega))) hp hbw g3 g4 fun i => ?_⟩
    rw [g5]
    constructor
    · rintro ⟨y, hy, hi⟩
      have hym := (hd y).1 hy
      obtain ⟨l, h1, h2⟩ := (h.ok.tell key y.1 i).1 ⟨y.2, by rw [← hget]; exact mget_of_mem hmn hym, hi⟩
      exact ⟨l, h1, y.1, h2⟩
    · rintro ⟨l, h1, v, h2⟩
      obtain ⟨s, hs1, hi⟩ := (h.ok.tell key v i).2 ⟨l, h1, h2⟩
      rw [← hget] at hs1
      exact ⟨(v, s), (hd _).2 (mget_some hs1), hi⟩
  · right
    have hbit : bw ≠ it := by omega
    have hpit : p ≠ it := by omega
    have hpb := hs.ne
    have sz := hsl z hzm
    have s18 := g3.ext e18 (by simp; exact hpit) (by simp; exact hbit)
    have sz18 : SetAt w18 z.2.p z.2.b z.2.S := (((hset z hzm).ext0 E10).ext g1 (by simp; omega) (by simp; omega)).ext e18 (by simp; omega) (by simp; omega)
    refine ⟨_, _, w18, hr, _, _, w18, hre, OrWith_c s18 sz18.ok (Rd.other sz18.ref (by simp; omega)) fun w' C e' hC hCN hCm => ⟨rfl, ⟨done ++ [z], C, ?_, g18.ext e' (by simp; exact fun e => hbit e.symm) (fun b hb => by have := hml b hb; simp; omega), hC, hCN.trans g4, fun i => ?_⟩, ?_⟩⟩
    · exact (g1.trans' e18 (fun b hb => by simp at hb; simp [hb])).trans' e' (fun b hb => by simp at hb; simp [hb])
    · rw [hCm, Bool.or_eq_true, Bool.and_eq_true, decide_eq_true_eq, g5]
      have hzN := (h.ok.cols.set key z.1 z.2 (by rw [← hget]; exact mget_of_mem hmn hzm)).1
      constructor
      · rintro (⟨y, hy, hi⟩ | ⟨_, hi⟩)
        · exact ⟨y, by simp [hy], hi⟩
        · exact ⟨z, by simp, hi⟩
      · rintro ⟨y, hy, hi⟩
        rcases List.mem_append.1 hy with hy | hy
        · exact .inl ⟨y, hy, hi⟩
        · simp at hy; subst hy
          exact .inr ⟨by have := sz18.ok.mem_lt hi; omega, hi⟩
    · have h18 := (g18.ext (F := [bw]) e' (by simp; exact fun e => hbit e.symm) (fun b hb => by have := hml b hb; simp; omega)).num
      show m.length - itN w' it < m.length - itN w14 it
      rw [h18, hnum]
      simp only [List.length_append, List.length_singleton]
      omega
end Go.Proofs.YtpipenkaaodlgaaGreatDoor
