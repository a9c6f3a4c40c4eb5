/- Ordered: Rows, and the walk over what it answers. -/
import Derived.Test.YtjlkdadafddodaaGreatDoorO11
set_option linter.unusedVariables false
set_option linter.unusedSimpArgs false
namespace Go.Proofs.YtjlkdadafddodaaGreatDoor
open Go Go.V Go.B

section
variable {P : Program} {gf : FuncId} {cap : List Value} {ys : List Rw} {K : World → Prop}
/-- An iterator that yields a number and a new set, one by one, wherever K holds. -/
def IterF (P : Program) (gf : FuncId) (cap : List Value) (ys : List Rw) (K : World → Prop) : Prop :=
  ∀ (yl : Nat) (w : World) (J : List Rw → World → Prop) (Q : World → Prop) (R : Ending → World → Prop),
    J [] w → (∀ ps w1 w2, Ext [] w1 w2 → J ps w1 → J ps w2) → (∀ ps w1, J ps w1 → K w1) →
    (∀ ps y rest w1, ys = ps ++ y :: rest → J ps w1 → ∀ (p bw : Nat) (w2 : World), Ext [] w1 w2 → w1.heap.size ≤ p → w1.heap.size ≤ bw → SetAt w2 p bw y.S → ∀ R' : Ending → World → Prop,
      (∀ G w3, (∀ b ∈ G, b < w1.heap.size ∨ b = p ∨ b = bw) → Ext G w2 w3 → J (ps ++ [y]) w3 → R' (.returned (.bool true)) w3) →
      (∀ G w3, (∀ b ∈ G, b < w1.heap.size ∨ b = p ∨ b = bw) → Ext G w2 w3 → Q w3 → R' (.returned (.bool false)) w3) → V.Yield P yl [.int .i64 y.n, .pointer (some ⟨p, 0, none⟩)] w2 R') →
    (∀ w1, J ys w1 → R (.returned undef) w1) → (∀ w1, Q w1 → R (.returned undef) w1) →
    Calls P gf ⟨[Value.func (.yield yl) #[] #[]] ++ cap⟩ w R
/-- A range over it. -/
theorem IterF.range (it : IterF P gf cap ys K) {l : Nat} {Rc : Loop} {w : World} {I : List Rw → World → Prop} {Q : Code → World → Prop} {Bd : Int → Option Addr → World → (Ending → World → Prop) → Prop} {FIN : World → Prop}
    (hy : ∀ n p W R', LoopSt W l Rc .ready none → Bd n p W R' → V.Yield P l [.int .i64 n, .pointer p] W R')
    (l0 : LoopSt w l Rc .ready none) (i0 : I [] w) (st : ∀ ps w1 w2, Ext [l] w1 w2 → I ps w1 → I ps w2) (stq : ∀ p w1 w2, Ext [l] w1 w2 → Q p w1 → Q p w2) (hK : ∀ ps w1, I ps w1 → K w1)
    (body : ∀ ps y rest w1 W p bw R', ys = ps ++ y :: rest → I ps w1 → l < w1.heap.size → Ext [] w1 W → w1.heap.size ≤ p → w1.heap.size ≤ bw → SetAt W p bw y.S → LoopSt W l Rc .ready none →
      (∀ G w2, LoopSt w2 l Rc .busy none → (∀ b ∈ G, b < w1.heap.size ∨ b = p ∨ b = bw) → Ext G W w2 → I (ps ++ [y]) w2 → R' (.returned (.bool true)) (setLoop w2 l Rc .ready none)) →
      (∀ G w2 c, LoopSt w2 l Rc .busy none → (∀ b ∈ G, b < w1.heap.size ∨ b = p ∨ b = bw) → Ext G W w2 → Q c w2 → R' (.returned (.bool false)) (setLoop w2 l Rc .done (some c))) → Bd y.n (some ⟨p, 0, none⟩) W R')
    (fin : ∀ w2, LoopSt w2 l Rc .ready none → I ys w2 → FIN w2) (fin2 : ∀ w2 p, LoopSt w2 l Rc .done (some p) → Q p w2 → FIN w2) :
    Calls P gf ⟨[Value.func (.yield l) #[] #[]] ++ cap⟩ w fun e w2 => (∃ v, e = .returned v) ∧ FIN w2 := by
  refine it l w (fun ps w1 => LoopSt w1 l Rc .ready none ∧ I ps w1) (fun w1 => ∃ p, LoopSt w1 l Rc .done (some p) ∧ Q p w1) _ ⟨l0, i0⟩ (fun ps w1 w2 e h => ⟨LoopSt.ext h.1 e (by simp), st ps w1 w2 e.up h.2⟩) (fun ps w1 h => hK ps w1 h.2) ?_ (fun w1 h => ⟨⟨_, rfl⟩, fin w1 h.1 h.2⟩) (fun w1 ⟨p, h⟩ => ⟨⟨_, rfl⟩, fin2 w1 p h.1 h.2⟩)
  rintro ps y rest w1 e ⟨h1, h2⟩ p bw W hW hp hb hs R' k1 k2
  have hl1 := LoopSt.lt h1
  have hready : LoopSt W l Rc .ready none := LoopSt.ext h1 hW (by simp)
  have ext2 : ∀ (G : List Nat) (w2 : World) (s : LoopState) (c : Option Code), (∀ b ∈ G, b < w1.heap.size ∨ b = p ∨ b = bw) → Ext G W w2 → Ext (l :: G) W (setLoop w2 l Rc s c) := fun G w2 s c hG hx => (hx.weaken (G := l :: G) (fun b hb => .inl (List.mem_cons_of_mem _ hb))).trans' (setLoop_ext w2 l Rc s c) (fun b hb => .inl (by simp at hb; simp [hb]))
  have inG : ∀ (G : List Nat), (∀ b ∈ G, b < w1.heap.size ∨ b = p ∨ b = bw) → ∀ b ∈ l :: G, b < w1.heap.size ∨ b = p ∨ b = bw := fun G hG b hb => by
    rcases List.mem_cons.1 hb with rfl | hb
    · exact .inl hl1
    · exact hG b hb
  refine hy y.n _ W R' hready (body ps y rest w1 W p bw R' e h2 hl1 hW hp hb hs hready (fun G w2 hl hG hx hi => k1 (l :: G) _ (inG G hG) (ext2 G w2 _ _ hG hx) ⟨setLoop_st _ _ (LoopSt.lt hl), st _ _ _ (setLoop_ext _ _ _ _ _) hi⟩) fun G w2 c hl hG hx hq => k2 (l :: G) _ (inG G hG) (ext2 G w2 _ _ hG hx) ⟨c, setLoop_st _ _ (LoopSt.lt hl), stq _ _ _ (setLoop_ext _ _ _ _ _) hq⟩)
end
theorem i99s : (Tryz.prog.info? 90).map (·.size) = some 2 := by kernel_rfl
/-- What the walk over Rows reads. -/
structure RowsK (w : World) (b0 : Nat) (A : Option Addr) (c : Nat) (rs : List Rw) : Prop where
  h0 : BlkT w b0 [.slice A rs.length c] 85
  cells : Cells w A (RL.flat rs)
  set : ∀ r ∈ rs, SetAt w r.p r.b r.S
def rowsF (b0 : Nat) (A : Option Addr) (rs : List Rw) : List Nat := b0 :: (ownF A ++ rs.flatMap fun r => [r.p, r.b])
theorem mem_rowsF {b0 : Nat} {A : Option Addr} {rs : List Rw} {b : Nat} : b ∈ rowsF b0 A rs ↔ b = b0 ∨ b ∈ ownF A ∨ ∃ r ∈ rs, b = r.p ∨ b = r.b := by simp [rowsF]
theorem RowsK.ext {F : List Nat} {w w' : World} {b0 : Nat} {A : Option Addr} {c : Nat} {rs : List Rw} (h : RowsK w b0 A c rs) (e : Ext F w w') (hF : ∀ b ∈ rowsF b0 A rs, b ∉ F) : RowsK w' b0 A c rs :=
  ⟨h.h0.ext e (hF _ (mem_rowsF.2 (.inl rfl))), h.cells.ext e (fun b hb => hF b (mem_rowsF.2 (.inr (.inl hb)))), fun r hr => (h.set r hr).ext e (hF _ (mem_rowsF.2 (.inr (.inr ⟨r, hr, .inl rfl⟩)))) (hF _ (mem_rowsF.2 (.inr (.inr ⟨r, hr, .inr rfl⟩))))⟩
theorem RowsK.ext0 {w w' : World} {b0 : Nat} {A : Option Addr} {c : Nat} {rs : List Rw} (h : RowsK w b0 A c rs) (e : Ext [] w w') : RowsK w' b0 A c rs := h.ext e (by simp)
theorem Rows_iter {b0 : Nat} {A : Option Addr} {c : Nat} {rs : List Rw} (hl : rs.length ≤ 8000000000000) :
    IterF Tryz.prog 83 [.pointer (some ⟨b0, 0, none⟩)] rs (fun w => RowsK w b0 A c rs) := by
  intro yl w J Q R j0 st hK hy k1 k2
  apply ordered_Index_Rows_l1_nf
  refine ptr_in ⟨_, _, _, (hK _ _ j0).h0.cell (i := 0) rfl, fun t w' => ∃ a : Nat, t = a ∧ a ≤ rs.length ∧ J (rs.take a) w', fun t _ => rs.length - t.toNat, ⟨0, rfl, by omega, j0⟩, ?_⟩
  rintro _ _ w8 ⟨a, rfl, ha, j8⟩
  refine sel_dec (fun hlt => ?_) (fun hge => ?_)
  · have hlt : a < rs.length := by omega
    have K8 := hK _ _ j8
    have hrow : rs[a]? = some (rs[a]'hlt) := List.getElem?_eq_getElem hlt
    generalize rs[a]'hlt = r at hrow
    have hrm := List.mem_of_getElem? hrow
    obtain ⟨ad, hA, rd⟩ := RL.read K8.cells hrow
    refine when_dec ⟨by omega, by omega⟩ ?_
    rw [hA]
    refine ptr_in ⟨_, _, by rw [Int.toNat_natCast]; exact rd, fun w12 h12 => ?_⟩
    obtain ⟨b12, x12, z12⟩ := box_new (cs := [.int .i64 0, .pointer none]) h12
    obtain ⟨w13, hr13, b13, x13⟩ := storeW (P := Tryz.prog) (t := 90) (n := 2) (vs := rowCells r) i99s b12 rfl rfl (RL.one r)
    have e13 : Ext [] w8 w13 := x12.trans' x13 (fun b hb => .inr (by simp at hb; omega))
    have z13 := x13.size
    have K13 := K8.ext0 e13
    refine ⟨w13, hr13, fun w' => BlkT w' w8.heap.size (rowCells r) 90, b13, _, fun w' h => cadd h rfl, _, fun w' h => cadd h rfl, ?_⟩
    refine Clone_c (w := w13.drew) (K13.set r hrm).drew.ref fun p bw w20 e20 hp hb s20 => ⟨_, rfl, ?_⟩
    have e20 : Ext [] w13 w20 := e20.undrew
    have hp : w13.heap.size ≤ p := hp
    have hb : w13.heap.size ≤ bw := hb
    have b20 := b13.ext0 e20
    refine ⟨b20, hy (rs.take a) r (rs.drop (a + 1)) w8 ?_ j8 p bw w20 (e13.trans e20) (by omega) (by omega) s20 _ (fun G w3 hG hx j3 => ⟨_, rfl, ?_, sel_false rfl ⟨?_, ?_⟩⟩) (fun G w3 hG hx q3 => ⟨_, rfl, ?_, sel_true rfl (k2 w3 q3)⟩)⟩
    · obtain ⟨hl', er⟩ := List.getElem?_eq_some_iff.1 hrow
      rw [← er, ← List.drop_eq_getElem_cons hl', List.take_append_drop]
    · exact b20.ext hx (fun hm => by rcases hG _ hm with h | h | h <;> omega)
    · rw [up64 a (by omega)]
      exact ⟨a + 1, rfl, by omega, by rw [snoc_at hrow]; exact j3⟩
    · rw [up64 a (by omega)]
      simp only [Int.toNat_natCast]; omega
    · exact b20.ext hx (fun hm => by rcases hG _ hm with h | h | h <;> omega)
  · have : a = rs.length := by omega
    subst this
    rw [List.take_of_length_le (Nat.le_refl _)] at j8
    exact k1 w8 j8
/-- What a row tells. -/
def Rw.tell (r : Rw) : Int × SetV := (r.n, r.S)
theorem filt_all {rows : List Rw} (h : ∀ r ∈ rows, -9223372036854775808 ≤ r.n ∧ r.n ≤ 9223372036854775807) : rows.filter (inR (-9223372036854775808) 9223372036854775807) = rows := by
  rw [List.filter_eq_self]
  intro r hr
  have := h r hr
  simp [inR]; omega
set_option maxRecDepth 4000 in
theorem Rows_c {w : World} {q : Option Addr} {x : Ix} (h : IxG w q x) (key : ByteArray) {R : Ending → World → Prop}
    (k : ∀ b0 A c rs w', Ext [] w w' → RowsK w' b0 A c rs → (∀ b ∈ rowsF b0 A rs, w.heap.size ≤ b ∧ b < w'.heap.size) → rs.map Rw.tell = (x.colOf key).rows.map Rw.tell → R (.returned (.func (.func 83) #[] #[.pointer (some ⟨b0, 0, none⟩)])) w') :
    Calls Tryz.prog 63 #[.pointer q, .string key] w R := by
  apply ordered_Index_Rows_nf
  intro w3 h3
  obtain ⟨b3, x3, z3⟩ := box_new (cs := [.slice none 0 0]) h3
  refine column_c h.r x3 key fun c f w6 e6 v6 hf hc => ⟨_, rfl, from_c v6 _ _ fun b0 b1 b2 w9 e9 n0 n1 n2 K9 => ⟨_, _, _, rfl, V.when_intro (by kernel_rfl) fun Rc l w12 hl h12 hy => ?_⟩⟩
  obtain ⟨l0, m0, x12, z12⟩ := enter_new hl h12
  have z6 := e6.size
  have z9 := e9.size
  have e312 : Ext [] w3 w12 := (e6.trans e9).trans x12
  have K12 := K9.ext0 x12
  have bb12 : BlkT w12 w.heap.size [.slice none 0 0] 85 := b3.ext0 e312
  have hcl : c < w6.heap.size := by obtain ⟨mo, hb, _⟩ := v6.hdr; exact hb.lt
  have ok := h.ok.colOf key
  have hlen := h.r.rows h.few key
  have nF : ∀ {g : Nat}, g ≠ w.heap.size → g ≠ l → g ∉ [w.heap.size, l] := fun h1 h2 => by simp; exact ⟨h1, h2⟩
  have hf2 : ∀ b ∈ f, b ∉ [w.heap.size, l] := fun b hb => by have := hf b hb; exact nF (by omega) (by omega)
  have hc2 : c ∉ [w.heap.size, l] := nF (by omega) (by omega)
  have hrng : ∀ r ∈ (x.colOf key).rows, -9223372036854775808 ≤ r.n ∧ r.n ≤ 9223372036854775807 := fun r hr => by
    obtain ⟨i, hi⟩ := ok.2 r hr
    exact h.rng key i r.n (by rw [Ix.val_col]; exact (ok.1.tell i r.n).2 ⟨r, hr, rfl, hi⟩)
  have hall := filt_all hrng
  refine (from_iter (c := c) (f := f) (lo := -9223372036854775808) (hi := 9223372036854775807) ok.1.rise hlen).range (I := fun ps w' => ∃ A n c' rs, Ext [w.heap.size, l] w12 w' ∧ BlkT w' w.heap.size [.slice A n c'] 85 ∧ OwnL RL w' w12.heap.size 90 A n c' rs ∧ rs.map Rw.tell = ps.map Rw.tell ∧ ∀ r ∈ rs, SetAt w' r.p r.b r.S ∧ w12.heap.size ≤ r.p ∧ w12.heap.size ≤ r.b ∧ r.p ∉ ownF A ∧ r.b ∉ ownF A)
    (fun y W R' g1 g2 => hy y.n (some ⟨y.p, 0, none⟩) W R' g1 g2) l0 ⟨none, 0, 0, [], Ext.refl _ _, bb12, OwnL.nil _ _ _, rfl, fun r hr => (by cases hr)⟩ ?_ ?_ ?_ ?_
  · rintro ps w1 w2 e ⟨A, n, c', rs, g1, g2, g3, g4, g5⟩
    have hb := g3.base
    refine ⟨A, n, c', rs, g1.trans' e (fun b hb => .inl (by simp at hb; simp [hb])), g2.ext e (by simp; omega), g3.ext e (fun b hb' => by have := (hb b hb').1; simp; omega), g4, fun r hr => ?_⟩
    obtain ⟨q1, q2, q3, q4, q5⟩ := g5 r hr
    exact ⟨q1.ext e (by simp; omega) (by simp; omega), q2, q3, q4, q5⟩
  · rintro ps w1 ⟨A, n, c', rs, g1, g2, g3, g4, g5⟩
    exact K12.ext g1 (nF (by omega) (by have := K9.h0.lt; omega)) (nF (by omega) (by have := K9.h1.lt; omega)) (nF (by omega) (by have := K9.h2.lt; omega)) hc2 hf2
  · rintro ps y rest W R' hsp hW hS ⟨A, n, c', rs, g1, g2, g3, g4, g5⟩ k1
    rw [hall] at hsp
    have hyr : y ∈ (x.colOf key).rows := by rw [hsp]; simp
    have sy := (K12.v.ext g1 hc2 hf2).set y hyr
    have hn : n + 1 ≤ 8000000000000 := by
      have h1 := g3.len
      have h2 := congrArg List.length g4
      have h3 := congrArg List.length hsp
      simp at h2 h3; omega
    have gb := g3.base
    generalize setLoop W l Rc .busy none = Wb at hS g1 g2 g3 g5 sy gb ⊢
    have zb := g1.size
    refine ⟨hW, fun w' => BlkT w' w.heap.size [.slice A n c'] 85, g2, _, _, _, fun w' h => h.cell (i := 0) rfl, Clone_c (w := Wb.drew) sy.drew.ref fun p bw w22 e22 hp hb s22 => ⟨_, rfl, ?_⟩⟩
    have e22 : Ext [] Wb w22 := e22.undrew
    have hp : Wb.heap.size ≤ p := hp
    have hb : Wb.heap.size ≤ bw := hb
    refine ⟨g2.ext0 e22, fun w23 h23 => ?_⟩
    obtain ⟨b23, x23, z23⟩ := box_new (cs := rowCells ⟨y.n, p, bw, y.S⟩) h23
    have z22 := e22.size
    have g2' := (g2.ext0 e22).ext0 x23
    refine ⟨g2', ?_⟩
    obtain ⟨A', c'', w25, hr25, own25, e25, hF25⟩ := ((g3.ext0 e22).ext0 x23).more (P := Tryz.prog) (ty := 85) (x := ⟨y.n, p, bw, y.S⟩) u29 i34 z34s (by omega) b23 (by omega) (by omega)
    have hbA : w.heap.size ∉ ownF A := fun hm => by have := (gb _ hm).1; omega
    have g25 := g2'.ext e25 hbA
    refine ⟨_, _, _, w25, hr25, g25, ?_⟩
    obtain ⟨w26, hr26, b26, x26⟩ := store1 (P := Tryz.prog) (v := .slice A' (n + 1) c'') i87s g25 (i := 0) (by simp) rfl rfl
    have z25 := e25.size
    have hpl := s22.hdr.lt
    have hbl := s22.wrd.lt
    have hll := LoopSt.lt hS
    have hA' : ∀ b ∈ ownF A', w12.heap.size ≤ b ∧ (b ∈ ownF A ∨ w23.heap.size ≤ b) := fun b hb => by
      rcases hF25 with e | e
      · rw [e] at hb; exact ⟨(gb b hb).1, .inl hb⟩
      · rw [e] at hb; simp at hb; exact ⟨by omega, .inr (by omega)⟩
    have nA : ∀ b, Wb.heap.size ≤ b → b ∉ ownF A := fun b hb hm => by have := (gb b hm).2; omega
    have hlA : l ∉ ownF A := fun hm => by have := (gb l hm).1; omega
    have l26 : LoopSt w26 l Rc .busy none := LoopSt.ext (LoopSt.ext (LoopSt.ext (LoopSt.ext hS e22 (by simp)) x23 (by simp)) e25 hlA) x26 (by simp; omega)
    refine ⟨w26, hr26, l26, k1 w26 l26 ⟨A', n + 1, c'', rs ++ [⟨y.n, p, bw, y.S⟩], ?_, b26, ?_, ?_, fun r hr => ?_⟩⟩
    · exact ((g1.then (e22.trans x23)).trans' e25 (fun b hb => .inr (gb b hb).1)).trans' x26 (fun b hb => .inl (by simp at hb; simp [hb]))
    · exact OwnL.ext (L := RL) own25 x26 (fun b hb => by have := (hA' b hb).1; simp; omega)
    · simp [g4, Rw.tell]
    · rcases List.mem_append.1 hr with hr | hr
      · obtain ⟨q1, q2, q3, q4, q5⟩ := g5 r hr
        have l1 := q1.hdr.lt
        have l2 := q1.wrd.lt
        exact ⟨(((q1.ext0 e22).ext0 x23).ext e25 q4 q5).ext x26 (by simp; omega) (by simp; omega), q2, q3, fun hm => by rcases (hA' _ hm).2 with h | h; exact q4 h; omega, fun hm => by rcases (hA' _ hm).2 with h | h; exact q5 h; omega⟩
      · simp at hr; subst hr
        exact ⟨((s22.ext0 x23).ext e25 (nA _ hp) (nA _ hb)).ext x26 (by simp; omega) (by simp; omega), by show _ ≤ p; omega, by show _ ≤ bw; omega, fun hm => by rcases (hA' _ hm).2 with h | h; exact nA _ hp h; exact absurd h (by show ¬ _ ≤ p; omega), fun hm => by rcases (hA' _ hm).2 with h | h; exact nA _ hb h; exact absurd h (by show ¬ _ ≤ bw; omega)⟩
  · rintro w29 hl29 ⟨A, n, c', rs, g1, g2, g3, g4, g5⟩
    rw [hall] at g4
    have x29 := setLoop_ext w29 l Rc .exhausted none
    have gb := g3.base
    have hall' := g1.trans' x29 (F := [w.heap.size, l]) (fun b hb => .inl (by simp at hb; simp [hb]))
    have mk := m0.ext hall' (nF (by omega) (by omega))
    have z29 := x29.size
    refine .inl ⟨hl29, close_one mk fun w30 x30 => ?_⟩
    have z30 := x30.size
    have hln := g3.len
    have zz := g1.size
    have nL : ∀ b, w12.heap.size ≤ b → b ∉ [l] := fun b hb => by simp; omega
    have nD : ∀ b, w12.heap.size ≤ b → b ∉ [w9.heap.size] := fun b hb => by simp; omega
    refine k w.heap.size A c' rs w30 (((x3.trans e312).trans' hall' (fun b hb => .inr (by simp at hb; omega))).trans' x30 (fun b hb => .inr (by simp at hb; omega))) ⟨?_, ?_, fun r hr => ?_⟩ (fun b hb => ?_) g4
    · rw [hln]
      exact (g2.ext x29 (by simp; omega)).ext x30 (by simp; omega)
    · exact (g3.cells.ext x29 (fun b hb => nL b (gb b hb).1)).ext x30 (fun b hb => nD b (gb b hb).1)
    · obtain ⟨q1, q2, q3, q4, q5⟩ := g5 r hr
      exact (q1.ext x29 (nL _ q2) (nL _ q3)).ext x30 (nD _ q2) (nD _ q3)
    · rcases mem_rowsF.1 hb with rfl | hb | ⟨r, hr, hb⟩
      · exact ⟨Nat.le_refl _, by omega⟩
      · have := gb b hb; exact ⟨by omega, by omega⟩
      · obtain ⟨q1, q2, q3, q4, q5⟩ := g5 r hr
        have l1 := q1.hdr.lt
        have l2 := q1.wrd.lt
        rcases hb with rfl | rfl <;> exact ⟨by omega, by omega⟩
end Go.Proofs.YtjlkdadafddodaaGreatDoor
