/- Ordered: Among. -/
import Derived.Test.YtjlkdadafddodaaGreatDoorO4
set_option linter.unusedVariables false
set_option linter.unusedSimpArgs false
namespace Go.Proofs.YtjlkdadafddodaaGreatDoor
open Go Go.V Go.B

theorem close_many : ∀ {ds : List Nat} {w : World} {K : World → Prop}, (∀ d ∈ ds, Mrk w d) → ds.Nodup → (∀ w', Ext ds w w' → K w') → closeR ds w K
  | [], w, K, _, _, k => k w (Ext.refl _ _)
  | d :: ds, w, K, h, hn, k => by
    have hd := List.nodup_cons.1 hn
    refine ⟨h d (by simp), close_many (fun e he => (h e (by simp [he])).ext (putObj_ext w d _) (by simp; intro e1; subst e1; exact hd.1 he)) hd.2 fun w' x => k w' ?_⟩
    exact ((putObj_ext w d (.deferred none)).weaken (G := d :: ds) (fun b hb => .inl (by simp at hb; simp [hb]))).trans' x (fun b hb => .inl (by simp [hb]))
set_option maxRecDepth 4000 in
theorem Among_c' {w : World} {q : Option Addr} {x : Ix} (h : IxG w q x) (key : ByteArray) {A : Option Addr} {l cp : Nat} {ns : List Int} (hn : Ints w .i64 A l ns) (hA : ∀ ad, A = some ad → ad.block < w.heap.size) (hl : l * 8 ≤ 140737488355328) {R : Ending → World → Prop}
    (k : ∀ p bw w' S, Ext [] w w' → w.heap.size ≤ p → w.heap.size ≤ bw → Holds w' p bw x.N S (amongP x key ns) → R (.returned (.pointer (some ⟨p, 0, none⟩))) w') :
    Calls Tryz.prog 10 #[.pointer q, .string key, .slice A l cp] w R := by
  apply ordered_Index_Among_nf
  refine empty_c h.r fun p bw w6 e6 hp hbw s6 => ⟨_, rfl, fun w7 h7 => ?_⟩
  obtain ⟨b7, x7, z7⟩ := box_new (cs := [.pointer none]) h7
  obtain ⟨w8, hr8, b8, x8⟩ := store1 (P := Tryz.prog) (v := .pointer (some ⟨p, 0, none⟩)) i29s b7 (i := 0) (by simp) rfl rfl
  have hpl := s6.hdr.lt
  have hbl := s6.wrd.lt
  have hne := s6.ne
  have e68 : Ext [] w6 w8 := x7.trans' x8 (fun b hb => .inr (by simp at hb; omega))
  have e8 : Ext [] w w8 := e6.trans e68
  have z6 := e6.size
  have z8 := x8.size
  have hlx := hn.len
  refine ⟨w8, hr8, column_c h.r e8 key fun c f w11 e11 v11 hf hc => ⟨_, rfl, ?_⟩⟩
  have s11 := (s6.ext0 e68).ext0 e11
  have ob11 : BlkT w11 w6.heap.size [.pointer (some ⟨p, 0, none⟩)] 43 := by simpa using b8.ext0 e11
  have z11 := e11.size
  have hcl := v11.hdr
  have hcl : c < w11.heap.size := by obtain ⟨mo, hb, _⟩ := hcl; exact hb.lt
  have ok := h.ok.colOf key
  have hlen := h.r.rows h.few key
  have hf2 : ∀ b ∈ f, b ∉ [bw] := fun b hb => by have := hf b hb; simp; omega
  have hc2 : c ∉ [bw] := by simp; omega
  have hn11 : Ints w11 .i64 A l ns := hn.ext0 (e8.trans e11)
  refine ⟨fun t ds w' => ∃ a : Nat, t = a ∧ a ≤ l ∧ ∃ S, Ext [bw] w11 w' ∧ SetAt w' p bw S ∧ S.N = x.N ∧ (∀ i, S.mem i = true ↔ ∃ n ∈ ns.take a, ∃ r ∈ (x.colOf key).rows.filter (inR n n), r.S.mem i = true) ∧ (∀ d ∈ ds, Mrk w' d ∧ w11.heap.size ≤ d) ∧ ds.Nodup,
    fun t _ => l - t.toNat, ⟨0, rfl, by omega, _, Ext.refl _ _, s11, rfl, fun i => by rw [empty_mem]; simp, by simp, by simp⟩, ?_⟩
  rintro _ _ ds w17 ⟨a, rfl, hal, S0, g1, g2, g3, g4, g5, g6⟩
  have z17 := g1.size
  refine sel_dec (fun hlt => ?_) (fun hge => ?_)
  · have hlt : a < l := by omega
    have hn17 : Ints w17 .i64 A l ns := hn11.ext g1 (fun ad e => by have := hA ad e; simp; omega)
    obtain ⟨ad, hAd, hcell⟩ := hn17.cells a hlt
    have v17 := v11.ext g1 hc2 hf2
    rw [hAd]
    refine when_dec ⟨by omega, by omega⟩ (ptr_in ⟨_, by rw [Int.toNat_natCast, Nat.mul_one]; exact hcell, from_c v17 _ _ fun b0 b1 b2 w22 e22 n0 n1 n2 K22 => ⟨_, _, _, rfl, V.when_intro (by kernel_rfl) fun Rc l' w25 hl' h25 hy => ?_⟩⟩)
    have hna : ns[a]? = some (ns.getD a 0) := by
      rw [List.getD_eq_getElem?_getD, List.getElem?_eq_getElem (by omega)]; rfl
    generalize ns.getD a 0 = n at hcell K22 hna
    obtain ⟨l0, m0, x25, z25⟩ := enter_new hl' h25
    have z22 := e22.size
    have e1725 : Ext [] w17 w25 := e22.trans x25
    have K25 := K22.ext0 x25
    have s25 := g2.ext0 e1725
    have nF : ∀ {g : Nat}, g ≠ bw → g ≠ l' → g ∉ [bw, l'] := fun h1 h2 => by simp; exact ⟨h1, h2⟩
    have hf3 : ∀ b ∈ f, b ∉ [bw, l'] := fun b hb => by have := hf b hb; exact nF (by omega) (by omega)
    have hc3 : c ∉ [bw, l'] := nF (by omega) (by omega)
    have ob25 := (ob11.ext g1 (by simp; omega)).ext0 e1725
    refine (from_iter (c := c) (f := f) (lo := n) (hi := n) ok.1.rise hlen).range (I := fun ps w' => ∃ S, Ext [bw, l'] w25 w' ∧ SetAt w' p bw S ∧ S.N = x.N ∧ ∀ i, S.mem i = true ↔ S0.mem i = true ∨ ∃ r ∈ ps, r.S.mem i = true)
      (fun y W R' g1 g2 => hy y.n (some ⟨y.p, 0, none⟩) W R' g1 g2) l0 ⟨_, Ext.refl _ _, s25, g3, fun i => by simp⟩ ?_ ?_ ?_ ?_
    · rintro ps w1 w2 e ⟨S, q1, q2, q3, q4⟩
      exact ⟨S, q1.trans' e (fun b hb => .inl (by simp at hb; simp [hb])), q2.ext e (by simp; omega) (by simp; omega), q3, q4⟩
    · rintro ps w1 ⟨S, q1, q2, q3, q4⟩
      exact K25.ext q1 (nF (by omega) (by have := K22.h0.lt; omega)) (nF (by omega) (by have := K22.h1.lt; omega)) (nF (by omega) (by have := K22.h2.lt; omega)) hc3 hf3
    · rintro ps y rest W R' hsp hW hS ⟨S, q1, q2, q3, q4⟩ k1
      have ob := ob25.ext q1 (nF (by omega) (by omega))
      have hyr : y ∈ (x.colOf key).rows := (List.mem_filter.1 (by rw [hsp]; simp : y ∈ (x.colOf key).rows.filter (inR n n))).1
      have sy := (K25.v.ext q1 hc3 hf3).set y hyr
      have hyf := K25.v.fS y hyr
      have h1 := hf _ hyf.1
      have h2 := hf _ hyf.2
      refine ⟨hW, _, ob.cell (i := 0) rfl, OrWith_c q2 sy.ok (Rd.other sy.ref (by simp; omega)) fun w32 S' e32 s32 hN hm => ⟨rfl, LoopSt.ext hS e32 (by simp; omega), k1 w32 (LoopSt.ext hS e32 (by simp; omega)) ⟨S', q1.trans' e32 (fun b hb => .inl (by simp at hb; simp [hb])), s32, hN.trans q3, fun i => ?_⟩⟩⟩
      rw [hm i]
      have hyN := ok.1.size y hyr
      constructor
      · intro ht
        rcases Bool.or_eq_true_iff.1 ht with ht | ht
        · rcases (q4 i).1 ht with ht | ⟨r, hr, hrm⟩
          · exact .inl ht
          · exact .inr ⟨r, by simp [hr], hrm⟩
        · exact .inr ⟨y, by simp, (Bool.and_eq_true_iff.1 ht).2⟩
      · rintro (ht | ⟨r, hr, hrm⟩)
        · rw [(q4 i).2 (.inl ht)]; rfl
        · rcases List.mem_append.1 hr with hr | hr
          · rw [(q4 i).2 (.inr ⟨r, hr, hrm⟩)]; rfl
          · simp at hr; subst hr
            have := sy.ok.mem_lt hrm
            rw [hrm]; simp; right; omega
    · rintro w35 hl35 ⟨S, q1, q2, q3, q4⟩
      have x36 := setLoop_ext w35 l' Rc .exhausted none
      have hall := q1.trans' x36 (F := [bw, l']) (fun b hb => .inl (by simp at hb; simp [hb]))
      refine .inl ⟨hl35, ⟨a + 1, up64 a (by omega), by omega, S, ?_, q2.ext x36 (by simp; omega) (by simp; omega), q3, fun i => ?_, fun d hd => ?_, ?_⟩, ?_⟩
      · exact (g1.then e1725).trans' hall (fun b hb => by
          rcases List.mem_cons.1 hb with hb | hb
          · exact .inl (by simp [hb])
          · exact .inr (by simp at hb; omega))
      · rw [q4, g4, snoc_at hna]
        constructor
        · rintro (⟨m, hm, hr⟩ | hr)
          · exact ⟨m, by simp [hm], hr⟩
          · exact ⟨n, by simp, hr⟩
        · rintro ⟨m, hm, hr⟩
          rcases List.mem_append.1 hm with hm | hm
          · exact .inl ⟨m, hm, hr⟩
          · simp at hm; subst hm; exact .inr hr
      · rcases List.mem_cons.1 hd with rfl | hd
        · exact ⟨m0.ext hall (nF (by omega) (by omega)), by omega⟩
        · have hm := g5 d hd
          have := hm.1.lt
          exact ⟨(hm.1.ext e1725 (by simp)).ext hall (nF (by omega) (by omega)), hm.2⟩
      · refine List.nodup_cons.2 ⟨fun hm => ?_, g6⟩
        have := (g5 _ hm).1.lt; omega
      · rw [up64 a (by omega)]
        simp only [Int.toNat_natCast]; omega
  · have : a = l := by omega
    subst this
    have ob := ob11.ext g1 (by simp; omega)
    refine ⟨_, ob.cell (i := 0) rfl, close_many (fun d hd => (g5 d hd).1) g6 fun w37 x37 => ?_⟩
    have hnd : ∀ b, b < w11.heap.size → b ∉ ds := fun b hb hm => by have := (g5 b hm).2; omega
    refine k p bw w37 S0 ((((e8.trans e11).trans' g1 (fun b hb => .inr (by simp at hb; omega)))).trans' x37 (fun b hb => .inr (by have := (g5 b hb).2; have := (e8.trans e11).size; omega))) hp hbw ⟨g2.ext x37 (hnd _ (by omega)) (hnd _ (by omega)), g3, fun i => ?_⟩
    rw [g4, List.take_of_length_le (by omega)]
    unfold amongP
    constructor
    · rintro ⟨n, hnm, hr⟩
      obtain ⟨m, hm, h1, h2⟩ := (rows_tell ok.1 n n i).1 hr
      have : m = n := by omega
      subst this
      exact ⟨m, by rw [Ix.val_col]; exact hm, hnm⟩
    · rintro ⟨n, hv, hnm⟩
      rw [Ix.val_col] at hv
      exact ⟨n, hnm, (rows_tell ok.1 n n i).2 ⟨n, hv, by omega, by omega⟩⟩
end Go.Proofs.YtjlkdadafddodaaGreatDoor
