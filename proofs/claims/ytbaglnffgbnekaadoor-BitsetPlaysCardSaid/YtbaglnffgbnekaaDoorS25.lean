/- Sets: what berthlaw01.walk brings out of an iterator. -/
import Derived.Test.YtbaglnffgbnekaaDoorS21A
set_option linter.unusedVariables false
set_option linter.unusedSimpArgs false
namespace Go.Proofs.YtbaglnffgbnekaaDoor
open Go Go.V Go.B

def WO (w : World) (s7 s10 b : Nat) (n : Int) (A : Option Addr) (c : Nat) (S : SetV) (W : World) : Prop := Ext [] w W ∧ s10 ≤ W.heap.size ∧ Mrk W s7 ∧ Held W b A S.count c S.mi ∧ BlkT W w.heap.size [.int .i64 n] 3
def WL (s3 s10 : Nat) (xs : List Int) (W : World) : Prop := ∃ (Al : Option Addr) (ln cn : Nat), BlkT W s3 [.slice Al ln cn] 22 ∧ W.ownsRow s10 3 1 (.slice Al ln cn) ln (ints .i64 xs)
theorem WL.ext {s3 s10 : Nat} {xs : List Int} {W W' : World} {F : List Nat} (h : WL s3 s10 xs W) (e : Ext F W W') (h3 : s3 ∉ F) (hF : ∀ g ∈ F, g < s10) : WL s3 s10 xs W' := by
  obtain ⟨Al, ln, cn, h1, h2⟩ := h
  exact ⟨Al, ln, cn, h1.ext e h3, own_ext h2 e fun b hb hm => by have := own_base h2 b hb; have := hF b hm; omega⟩
set_option maxRecDepth 4000 in
theorem walk_c {w : World} {q : Option Addr} {S : SetV} {f : List Nat} (h : RefAt w q S f) (n : Int) {R : Ending → World → Prop}
    (k : ∀ A l c w', Ext [] w w' → w'.ownsRow w.heap.size 3 1 (.slice A l c) l (ints .i64 (S.mi.take (n.toNat + 1))) → R (.returned (.slice A l c)) w') :
    Calls Tryd.prog 26 #[.pointer q, .int .i64 n] w R := by
  have o := h.ok
  have hcn : S.count ≤ 65536 := by
    have := rank_le S S.N
    have := o.N
    unfold SetV.count; omega
  have hml := mi_length S
  apply berthlaw01_walk_nf
  intro w3 h3 w4 h4
  obtain ⟨b3, x3, z3⟩ := box_new (cs := [.int .i64 n]) h3
  obtain ⟨b4, x4, z4⟩ := box_new (cs := [.slice none 0 0]) h4
  refine All_c (h.ext0 (x3.trans x4)) fun b A c w7 e7 hb1 hb2 hH hA => ⟨_, #[], _, rfl, V.when_intro (by kernel_rfl) fun Rc l w10 hl h10 hy => ?_⟩
  obtain ⟨l0, m0, x10, z10⟩ := enter_new hl h10
  have s7 := e7.size
  have e10 : Ext [] w w10 := ((x3.trans x4).trans e7).trans x10
  have stay : ∀ {F : List Nat} {W W' : World}, (∀ g ∈ F, w10.heap.size ≤ g ∨ g = l ∨ g = w3.heap.size) → Ext F W W' → WO w w7.heap.size w10.heap.size b n A c S W → WO w w7.heap.size w10.heap.size b n A c S W' := by
    rintro F W W' hF e ⟨q1, q2, q3, q4, q5⟩
    have nF : ∀ g, g < w10.heap.size → g ≠ l → g ≠ w3.heap.size → g ∉ F := fun g h1 h2 h3 hm => by
      rcases hF g hm with h | h | h <;> omega
    have hbl := b3.lt
    exact ⟨q1.trans' e (fun g hg => .inr (by rcases hF g hg with h | h | h <;> omega)), Nat.le_trans q2 e.size, q3.ext e (nF _ (by omega) (by omega) (by omega)), q4.ext e (nF _ (by omega) (by omega) (by omega)) (fun g hg => by have := hA g hg; exact nF _ (by omega) (by omega) (by omega)), q5.ext e (nF _ (by omega) (by omega) (by omega))⟩
  have o10 : WO w w7.heap.size w10.heap.size b n A c S w10 := ⟨e10, Nat.le_refl _, m0, hH.ext x10 (by simp) (by simp), ((b3.ext0 x4).ext0 e7).ext0 x10⟩
  have l10 : WL w3.heap.size w10.heap.size [] w10 := ⟨none, 0, 0, ((b4.ext0 e7).ext0 x10), own_nil _ _ _⟩
  have fin : ∀ {W : World} (cd : Option Code), LoopSt W l Rc (if cd.isSome then .done else .ready) cd → WO w w7.heap.size w10.heap.size b n A c S W → WL w3.heap.size w10.heap.size (S.mi.take (n.toNat + 1)) W →
      ∃ A24, ∃ A24l, ∃ A24c, World.cell? (setLoop W l Rc .exhausted cd) ⟨w3.heap.size, 0, none⟩ = some (.slice A24 A24l A24c) ∧ V.closeR (w7.heap.size :: []) (setLoop W l Rc .exhausted cd) fun w25 => R (.returned (.slice A24 A24l A24c)) w25 := by
    intro W cd _ hO hL
    have x := setLoop_ext W l Rc .exhausted cd
    have hO2 := stay (F := [l]) (fun g hg => .inr (.inl (by simpa using hg))) x hO
    obtain ⟨Al, ln, cn, h1, h2⟩ := hL.ext x (by simp; omega) (fun g hg => by simp at hg; omega)
    refine ⟨Al, ln, cn, h1.cell (i := 0) rfl, close_one hO2.2.2.1 fun w25 x25 => k Al ln cn w25 (hO2.1.trans' x25 (fun g hg => .inr (by simp at hg; omega))) ?_⟩
    exact own_weaken (own_ext h2 x25 fun g hg => by have := own_base h2 g hg; simp; omega) (by omega)
  refine (All_iter (A := A) (b := b) (c := c) (xs := S.mi) hml hcn).range (I := fun ps w' => WO w w7.heap.size w10.heap.size b n A c S w' ∧ WL w3.heap.size w10.heap.size ps w' ∧ (ps = [] ∨ (ps.length : Int) ≤ n))
    (Q := fun p w' => p = .exit 0 ∧ WO w w7.heap.size w10.heap.size b n A c S w' ∧ WL w3.heap.size w10.heap.size (S.mi.take (n.toNat + 1)) w') (fun y W R' h1 h2 => hy y W R' h1 ⟨h1, h2⟩) l0 ⟨o10, l10, .inl rfl⟩ ?_ ?_ (fun ps w1 h => h.1.2.2.2.1) ?_ ?_ ?_
  · rintro ps w1 w2 e ⟨q1, q2, q3⟩
    exact ⟨stay (fun g hg => .inr (.inl (by simpa using hg))) e q1, q2.ext e (by simp; omega) (fun g hg => by simp at hg; omega), q3⟩
  · rintro p w1 w2 e ⟨q0, q1, q2⟩
    exact ⟨q0, stay (fun g hg => .inr (.inl (by simpa using hg))) e q1, q2.ext e (by simp; omega) (fun g hg => by simp at hg; omega)⟩
  · rintro ps y rest W R' hsp hW hS ⟨q1, q2, q3⟩ k1 k2
    obtain ⟨Al, ln, cn, h1, h2⟩ := q2
    have hps := split_lt hsp
    have hlen' : ln = ps.length := by have := h2.1; simp [ints] at this; omega
    refine ⟨_, _, _, h1.cell (i := 0) rfl, fun w15 h15 => ?_⟩
    obtain ⟨A', c', w17, hr17, own17, e17⟩ := app1 (P := Tryd.prog) (t := 22) (ty := 22) (e := 3) (bytes := 8) (z := .int .i64 0) (by kernel_rfl) (by kernel_rfl) rfl h2 (x := .int .i64 y) rfl q1.2.1 (by omega) (by omega)
    rw [← h15] at hr17
    have hbase := own_base h2
    have nA : ∀ g, g < w10.heap.size → g ∉ ownF Al := fun g hg hm => by have := hbase g hm; omega
    have hbl := b3.lt
    obtain ⟨w18, hr18, b18, x18⟩ := store1 (P := Tryd.prog) (v := .slice A' (ln + 1) c') i25s (h1.ext e17 (nA _ (by omega))) (i := 0) (by simp) rfl rfl
    have o18 := stay (F := [w3.heap.size]) (fun g hg => .inr (.inr (by simpa using hg))) x18 (stay (F := ownF Al) (fun g hg => .inl (hbase g hg).1) e17 q1)
    have l18 := (LoopSt.ext hS e17 (nA _ (by omega))).ext x18 (by simp; omega)
    have v18 : WL w3.heap.size w10.heap.size (ps ++ [y]) w18 := ⟨A', ln + 1, c', b18, by
      have := own_ext own17 x18 fun g hg => by have := own_base own17 g hg; simp; omega
      rwa [show ints .i64 ps ++ [Value.int .i64 y] = ints .i64 (ps ++ [y]) by simp [ints]] at this⟩
    refine ⟨A', _, c', w17, hr17, w18, hr18, _, _, _, b18.cell (i := 0) rfl, _, o18.2.2.2.2.cell (i := 0) rfl, sel_dec (fun hgt => ⟨l18, k2 w18 _ l18 ⟨rfl, o18, ?_⟩⟩) (fun hle => ⟨l18, k1 w18 l18 ⟨o18, v18, .inr ?_⟩⟩)⟩
    · have e1 : n.toNat = ps.length := by
        rcases q3 with rfl | h
        · simp at hlen' ⊢; omega
        · omega
      have : S.mi.take (n.toNat + 1) = ps ++ [y] := by
        rw [e1, hsp, List.take_append, List.take_of_length_le (by omega)]
        simp
      rw [this]; exact v18
    · rw [List.length_append, List.length_singleton]; omega
  · rintro w23 hl23 ⟨q1, q2, q3⟩
    refine .inl ⟨hl23, fin none hl23 q1 ?_⟩
    rw [List.take_of_length_le]
    · exact q2
    · rcases q3 with h | h
      · rw [h]; simp
      · omega
  · rintro w23 p hl23 ⟨rfl, q1, q2⟩
    exact .inr (.inl ⟨hl23, fin (some (.exit 0)) hl23 q1 q2⟩)
end Go.Proofs.YtbaglnffgbnekaaDoor
