/- The world of four: a step that may change one of them. -/
import Derived.Test.YtjlkdadafddodaaE5
set_option linter.unusedVariables false
set_option linter.unusedSimpArgs false
namespace Go.Proofs.Ytjlkdadafddodaa
open Go Go.V Go.B

theorem wsCells_congr {es es' : Nat → En} (h : ∀ j, j < 4 → (es j).q = (es' j).q ∧ (es j).d = (es' j).d) : wsCells es = wsCells es' := by
  unfold wsCells
  rw [(h 0 (by omega)).1, (h 1 (by omega)).1, (h 2 (by omega)).1, (h 3 (by omega)).1, (h 0 (by omega)).2, (h 1 (by omega)).2, (h 2 (by omega)).2, (h 3 (by omega)).2]
theorem isNone_ne {α : Type} {q : Option α} (h : q ≠ none) : q.isNone = false := by
  cases q with
  | none => exact absurd rfl h
  | some a => rfl
set_option maxRecDepth 8000 in
set_option maxHeartbeats 2000000 in
theorem changes_c {w : World} {base g cap : Nat} {es : Nat → En} (h : WAt w base g cap es) (hcap : cap ≤ 3500000000000) (hbase : base ≤ w.heap.size) {i : Nat} (hi : i < 4) {o : Op} {w0 : World} (hin : o.In w0) {R : Ending → World → Prop}
    (k : ∀ es' w', WChg w w' base g (cap + 1) es es' i → (o.kind ≠ 1 → (es' i).x.N = (es i).x.N) → R (.returned (.bool true)) w') :
    Calls Try.prog 26 #[.pointer (some ⟨g, 0, none⟩), .agg #[.int .i64 o.kind, .int .i64 o.at_, .int .i64 o.to, .string o.key, .int .i64 o.slot, .int .i64 o.n, .int .i64 o.cmp, .slice o.A o.l o.c], .int .i64 (i : Int)] w R := by
  have hen := h.en i hi
  have hg := h.blk.lt
  have fin : ∀ (F' : List Nat) (x' : Ix) (d' : Doc) (ne e : Int) (w43 w72 : World) (bx : Nat), Ext (es i).F w w43 → Grow w (es i).F F' → IxAt w43 F' (2 * cap + 2) x' → IxOk x' → Rng x' → x'.q = (es i).x.q → x'.N = (es i).x.N → Ext [] w43 w72 → DocR w72 d' → d'.N = (es i).d.N → d'.l ≤ cap + 1 → Rel x' d'.rows →
      (∀ b ∈ ownF d'.A, b ∈ ownF (es i).d.A ∨ w43.heap.size ≤ b ∧ b < w72.heap.size) → BlkT w72 bx d'.cells 58 → w43.heap.size ≤ bx → (es i).q ≠ none → ne = e → (∃ S73 : World → Prop, S73 (World.drew w72) ∧
  V.ptr (some (⟨bx, 0, none⟩ : Addr)) fun a75 =>
  ∃ n76, ∃ A77, ∃ A77l, ∃ A77c, V.cellsC (fun a_ x_ => ∀ w74, S73 w74 → World.cell? w74 a_ = some x_) a75 [(Value.int .i64 n76), (Value.slice A77 A77l A77c)] ∧
  V.ptr (some (⟨g, 0, none⟩ : Addr)) fun a78 =>
  V.when (decide ((0 : Int) ≤ (i : Int) ∧ ((i : Int) : Int) < 4)) (∃ w79, Sem.run Try.prog (Instr.storeAt 58 (Value.pointer (some (Addr.add (Addr.add a78 4) ((Int.toNat (i : Int)) * 2)))) (Value.agg #[(Value.int .i64 n76), (Value.slice A77 A77l A77c)])) (World.drew w72) = .ok () w79 ∧
  S73 w79 ∧
  R (Ending.returned (Value.bool (ne == e))) w79)) := by
    intro F' x' d' ne e w43 w72 bx x1 gr at1 ok1 rng1 q1 N1 x2 doc2 dN dl rel2 hd bb hbx hq hne
    have z1 := x1.size
    have z2 := x2.size
    have bw : BlkT w72 g (wsCells es) 62 := (h.blk.ext x1 (h.gF i hi)).ext0 x2
    have E72 : Ext [] w43 w72.drew := x2.drew
    obtain ⟨w79, hr79, b79, x79⟩ := w_storeD (w := w72.drew) bw.drew hi d'
    refine ⟨fun w' => BlkT w' bx d'.cells 58, bb.drew, ptr_in ⟨_, _, _, _, cellsC_S (fun w' hw => cadd0 hw), ptr_in (when_dec ⟨by omega, by omega⟩ ⟨w79, hr79, bb.drew.ext x79 (by simp; omega), ?_⟩)⟩⟩
    rw [hne, beq_self_eq_true]
    have hs := hen.some_ hq
    refine k (upd es i ⟨(es i).q, x', F', d'⟩) w79 ⟨?_, ?_, ?_, ?_, fun j hj hne => upd_other es _ hne⟩ fun _ => ?_
    · refine WAt.upd h hi (e' := ⟨(es i).q, x', F', d'⟩) x1 gr at1.lt E72 ⟨fun hn => absurd hn hq, fun _ => ⟨by rw [hs.1, q1], (at1.ext0 E72).cnt (by omega)⟩, ok1, rng1, doc2.ext0 (Ext.refl _ _).drew, ?_, rel2, dl, fun b hb => ?_⟩ (fun b hb => ?_) hbase x79 ?_ (fun j hj => rfl) (by omega)
      · show d'.N = (x'.N : Int)
        rw [dN, hen.N, N1]
      · rcases hd b hb with h1 | h1
        · have := hen.dlt b h1
          show b < w72.heap.size; omega
        · exact h1.2
      · rcases hd b hb with h1 | h1
        · exact .inl h1
        · exact .inr h1.1
      · rw [wsCells_congr (es' := upd es i { es i with d := d' })]
        · exact b79
        · intro j hj
          unfold upd
          split <;> exact ⟨rfl, rfl⟩
    · exact ((x1.weaken (G := g :: (es i).F) (fun b hb => .inl (by simp [hb]))).then E72).trans' x79 (fun b hb => .inl (by simp at hb; simp [hb]))
    · rw [upd_same]; exact gr
    · rw [upd_same]
      intro b hb
      rcases hd b hb with h1 | h1
      · exact .inl h1
      · exact .inr (by omega)
    · rw [upd_same]; exact N1
  apply berthlaw08_World_changes_nf
  intro w11 h11
  obtain ⟨b11, x11, z11⟩ := box_new (cs := o.cells) h11
  have bw11 := h.blk.ext0 x11
  have ob : w.heap.size ∉ (es i).F := fun hm => by have := hen.lt _ hm; omega
  refine ⟨_, cadd b11 rfl, sel_intro (fun hk => ?_) (fun hk1 => sel_intro (fun hk => ?_) (fun hk2 => sel_intro (fun hk => ?_) (fun hk3 => k es w11 (WChg.same h x11 (by omega) i) fun _ => rfl)))⟩
  · have hk : o.kind = 1 := eq_of_beq hk
    refine ⟨_, cadd b11 rfl, ?_⟩
    by_cases ho : 0 ≤ o.to ∧ o.to ≤ 65536
    · obtain ⟨n, hn⟩ : ∃ n : Nat, o.to = n := ⟨o.to.toNat, by omega⟩
      rw [hn]
      refine NewIx_c (n := n) (by omega) fun w17 F x e17 a17 k17 N17 v17 f17 => ⟨_, _, rfl, (n : Int), ?_, NewDoc_ok (n := n) (by omega) fun w23 e23 => ⟨_, _, _, _, _, rfl, fun w24 h24 => ?_⟩⟩
      · rw [← hn]; exact cadd (b11.ext0 e17) rfl
      obtain ⟨b24, x24, z24⟩ := doc_box (d := ⟨0, none, 0, 0, []⟩) h24
      obtain ⟨w25, hr25, b25, x25⟩ := doc_store b24 rfl ⟨(n : Int), none, 0, 0, []⟩
      have e17' := x11.trans e17
      have z17 := e17'.size
      have z23 := e23.size
      have E25 : Ext [] w17 w25.drew := ((e23.trans x24).trans' x25 (fun b hb => .inr (by simp at hb; omega))).drew
      refine ⟨w25, hr25, sel_false rfl (sel_false rfl (sel_true rfl ?_))⟩
      obtain ⟨w32, hr32, b32, x32⟩ := w_storeQ (h.blk.ext0 (e17'.trans E25)) hi (some ⟨x.q, 0, none⟩)
      obtain ⟨w33, hr33, b33, x33⟩ := w_storeD b32 hi ⟨(n : Int), none, 0, 0, []⟩
      have ng : w23.heap.size ∉ [g] := by simp; omega
      refine ⟨fun w' => BlkT w' w23.heap.size (Doc.cells ⟨(n : Int), none, 0, 0, []⟩) 58, b25.drew, _, _, _, _, cellsC_S (fun w' hw => cadd0 hw), ptr_in (when_dec ⟨by omega, by omega⟩ (ptr_in ⟨w32, hr32, b25.drew.ext x32 ng, when_dec ⟨by omega, by omega⟩ ⟨w33, hr33, (b25.drew.ext x32 ng).ext x33 ng, ?_⟩⟩))⟩
      have x3 : Ext [g] w25.drew w33 := x32.trans' x33 (fun b hb => .inl hb)
      have gr : Grow w (es i).F F := fun b hb => .inr (by have := f17 b hb; have := x11.size; omega)
      refine k (upd es i ⟨some ⟨x.q, 0, none⟩, x, F, ⟨(n : Int), none, 0, 0, []⟩⟩) w33 ⟨?_, ?_, ?_, ?_, fun j hj hne => upd_other es _ hne⟩ fun hn => absurd hk hn
      · refine WAt.upd h hi (e' := ⟨some ⟨x.q, 0, none⟩, x, F, ⟨(n : Int), none, 0, 0, []⟩⟩) e17'.up gr a17.lt E25 ⟨fun hn => (by cases hn), fun _ => ⟨rfl, (a17.ext0 E25).cnt (by omega)⟩, k17, fun k' j m hv => (by rw [v17] at hv; cases hv), ⟨Cells.nil _ _, rfl⟩, ?_, Rel.nil v17, Nat.zero_le _, fun b hb => (by cases hb)⟩ (fun b hb => (by cases hb)) hbase x3 ?_ (fun j hj => rfl) (by omega)
        · show (n : Int) = (x.N : Int)
          rw [N17]
        · refine (congrArg (fun cs => BlkT w33 g cs 62) (wsCells_congr fun j hj => ?_)).mp b33
          unfold upd
          by_cases e : j = i
          · subst e; simp
          · simp [e]
      · exact (e17'.trans E25).up.trans' x3 (fun b hb => .inl (by simp at hb; simp [hb]))
      · rw [upd_same]; exact gr
      · rw [upd_same]; intro b hb; cases hb
    · have hb : o.to < 0 ∨ 65536 < o.to := by omega
      refine NewIx_bad hb ⟨_, _, rfl, _, cadd b11 rfl, NewDoc_bad hb fun w23 e23 => ⟨_, _, _, _, _, rfl, fun w24 h24 => ?_⟩⟩
      obtain ⟨b24, x24, z24⟩ := doc_box (d := ⟨0, none, 0, 0, []⟩) h24
      obtain ⟨w25, hr25, b25, x25⟩ := doc_store b24 rfl ⟨0, none, 0, 0, []⟩
      have E25 : Ext [] w w25 := ((x11.trans e23).trans x24).trans' x25 (fun b hb => .inr (by have := (x11.trans e23).size; simp at hb; omega))
      exact ⟨w25, hr25, sel_false rfl (sel_false rfl (sel_false rfl (k es w25 (WChg.same h E25 (by omega) i) fun hn => absurd hk hn)))⟩
  · have hk : o.kind = 2 := eq_of_beq hk
    refine ⟨fun w' => BlkT w' g (wsCells es) 62 ∧ BlkT w' w.heap.size o.cells 50, ⟨bw11.drew, b11.drew⟩, ptr_in (when_dec ⟨by omega, by omega⟩ ⟨_, fun w' hw => w_ptr hw.1 hi, _, fun w' hw => cadd hw.2 rfl, _, fun w' hw => cadd hw.2 rfl, _, fun w' hw => cadd hw.2 rfl, ?_⟩)⟩
    by_cases hq : (es i).q = none
    · have hp := w_ptr (w := w11.drew) bw11.drew hi
      rw [hq] at hp ⊢
      exact Put_nil _ _ _ ⟨_, rfl, ⟨bw11.drew, b11.drew⟩, ptr_in (when_dec ⟨by omega, by omega⟩ ⟨_, hp, sel_true rfl (k es w11.drew (WChg.same h x11.drew (by omega) i) fun _ => rfl)⟩)⟩
    · obtain ⟨hq', hat⟩ := hen.some_ hq
      have d11 : Ext [] w w11.drew := x11.drew
      rw [hq']
      refine Put_c (hat.ext0 d11) hen.ok (by omega) o.key o.slot o.n fun w43 F' x' ch hv => ?_
      have x1 : Ext (es i).F w w43 := d11.up.trans' ch.ext (fun b hb => .inl hb)
      have z1 := x1.size
      have z43 : w.heap.size + 1 ≤ w43.heap.size := by
        have h1 : w11.heap.size ≤ w43.heap.size := ch.ext.size
        omega
      have bw43 := bw11.drew.ext ch.ext (h.gF i hi)
      have ob43 := b11.drew.ext ch.ext ob
      have doc43 := (hen.doc.ext0 d11).ext ch.ext (fun b hb => h.doc i i hi hi b hb)
      have gr : Grow w (es i).F F' := fun b hb => by
        rcases ch.grow b hb with h1 | h1
        · exact .inl h1
        · exact .inr (by have := d11.size; omega)
      have hbd : (es i).d.l ≤ 4000000000000 := by have := hen.dl; omega
      have hcl : ∀ (d' : Doc) (e : Int), PutD (es i).d d' o.key o.slot o.n e → d'.l ≤ cap + 1 := fun d' e pd => by
        have := hen.dl
        rcases pd.alt with ⟨_, _, h1, _⟩ | ⟨_, _, h1⟩ <;> omega
      refine ⟨_, rfl, ⟨bw43, ob43⟩, ptr_in (when_dec ⟨by omega, by omega⟩ ⟨_, w_ptr bw43 hi, sel_false (isNone_ne hq) ?_⟩)⟩
      refine ⟨fun m f w' => ∃ (d' : Doc) (bx : Nat), m = some ⟨bx, 0, none⟩ ∧ Ext [] w43 w' ∧ DocR w' d' ∧ d'.N = (es i).d.N ∧ d'.l ≤ cap + 1 ∧ putE (es i).x o.key o.slot = f ∧ Rel x' d'.rows ∧ (∀ b ∈ ownF d'.A, b ∈ ownF (es i).d.A ∨ w43.heap.size ≤ b ∧ b < w'.heap.size) ∧ BlkT w' bx d'.cells 58 ∧ w43.heap.size ≤ bx, ?_, ?_⟩
      · refine ⟨fun w' => BlkT w' g (wsCells es) 62 ∧ BlkT w' w.heap.size o.cells 50, ⟨bw43.drew, ob43.drew⟩, ptr_in (when_dec ⟨by omega, by omega⟩ ⟨_, _, _, _, cellsC_S (fun w' hw => w_doc hw.1 hi), _, fun w' hw => cadd hw.2 rfl, _, fun w' hw => cadd hw.2 rfl, _, fun w' hw => cadd hw.2 rfl, ?_, ?_, trivial⟩)⟩
        · refine DocPut_c (w := w43.drew) hen.N (doc43.ext0 (Ext.refl _ _).drew) hbd o.key o.slot o.n fun d' e w59 e59 r59 pd h1 h2 hf => ⟨_, _, _, _, _, rfl, ⟨bw43.drew.ext0 e59, ob43.drew.ext0 e59⟩, fun w60 h60 => ?_⟩
          obtain ⟨b60, x60, z60⟩ := doc_box (d := ⟨0, none, 0, 0, []⟩) h60
          obtain ⟨w61, hr61, b61, x61⟩ := doc_store b60 rfl d'
          have e59' : Ext [] w43 w59 := e59.undrew
          have z59 := e59'.size
          have z61 := x61.size
          have hp := hen.rel.put pd h1 h2 hv
          refine ⟨⟨(bw43.drew.ext0 e59).ext0 x60, (ob43.drew.ext0 e59).ext0 x60⟩, w61, hr61, ⟨((bw43.drew.ext0 e59).ext0 x60).ext x61 (by simp; omega), ((ob43.drew.ext0 e59).ext0 x60).ext x61 (by simp; omega)⟩, d', _, rfl, ?_, ?_, pd.N, hcl d' e pd, hp.1, hp.2, fun b hb => ?_, b61, z59⟩
          · exact (e59'.trans x60).trans' x61 (fun b hb => .inr (by simp at hb; omega))
          · refine (r59.ext0 x60).ext x61 (fun b hb => ?_)
            rcases hf b hb with h3 | h3
            · have := hen.dlt b h3; simp; omega
            · simp; omega
          · rcases hf b hb with h3 | h3
            · exact .inl h3
            · exact .inr ⟨h3.1, by omega⟩
        · intro w62 h62
          obtain ⟨b62, x62, z62⟩ := doc_box (d := ⟨0, none, 0, 0, []⟩) h62
          refine ⟨⟨bw43.drew.ext0 x62, ob43.drew.ext0 x62⟩, ?_⟩
          refine DocPut_c (w := w62) hen.N ((doc43.ext0 (Ext.refl _ _).drew).ext0 x62) hbd o.key o.slot o.n fun d' e w67 e67 r67 pd h1 h2 hf => ⟨_, _, _, _, _, rfl, ⟨(bw43.drew.ext0 x62).ext0 e67, (ob43.drew.ext0 x62).ext0 e67⟩, ?_⟩
          obtain ⟨w68, hr68, b68, x68⟩ := doc_store (b62.ext0 e67) rfl d'
          have x62' : Ext [] w43 w62 := x62.undrew
          have z62' : w62.heap.size = w43.heap.size + 1 := z62
          have z67 := e67.size
          have z68 := x68.size
          have hbx : (World.drew w43).heap.size = w43.heap.size := rfl
          have hp := hen.rel.put pd h1 h2 hv
          refine ⟨w68, hr68, ⟨((bw43.drew.ext0 x62).ext0 e67).ext x68 (by simp; omega), ((ob43.drew.ext0 x62).ext0 e67).ext x68 (by simp; omega)⟩, d', _, rfl, ?_, ?_, pd.N, hcl d' e pd, hp.1, hp.2, fun b hb => ?_, b68, by omega⟩
          · exact (x62'.trans e67).trans' x68 (fun b hb => .inr (by simp at hb; omega))
          · refine r67.ext x68 (fun b hb => ?_)
            rcases hf b hb with h3 | h3
            · have := hen.dlt b h3; simp; omega
            · simp; omega
          · rcases hf b hb with h3 | h3
            · exact .inl h3
            · exact .inr ⟨by omega, by omega⟩
      · rintro _ e _ w72 ⟨d', bx, rfl, g1, g2, g3, g4, g5, g6, g7, g8, g9⟩
        exact fin F' x' d' _ e w43 w72 bx x1 gr (ch.at_.cnt (by omega)) ch.ok (hen.rng.put hin.n0 hin.n1 hv) ch.q ch.N g1 g2 g3 g4 g6 g7 g8 g9 hq g5
  · have hk : o.kind = 3 := eq_of_beq hk
    refine ⟨fun w' => BlkT w' g (wsCells es) 62 ∧ BlkT w' w.heap.size o.cells 50, ⟨bw11.drew, b11.drew⟩, ptr_in (when_dec ⟨by omega, by omega⟩ ⟨_, fun w' hw => w_ptr hw.1 hi, _, fun w' hw => cadd hw.2 rfl, _, fun w' hw => cadd hw.2 rfl, ?_⟩)⟩
    by_cases hq : (es i).q = none
    · have hp := w_ptr (w := w11.drew) bw11.drew hi
      rw [hq] at hp ⊢
      exact Del_nil _ _ ⟨_, rfl, ⟨bw11.drew, b11.drew⟩, ptr_in (when_dec ⟨by omega, by omega⟩ ⟨_, hp, sel_true rfl (k es w11.drew (WChg.same h x11.drew (by omega) i) fun _ => rfl)⟩)⟩
    · obtain ⟨hq', hat⟩ := hen.some_ hq
      have d11 : Ext [] w w11.drew := x11.drew
      rw [hq']
      refine Del_c (hat.ext0 d11) hen.ok (by omega) o.key o.slot fun w43 F' x' ch hv => ?_
      have x1 : Ext (es i).F w w43 := d11.up.trans' ch.ext (fun b hb => .inl hb)
      have z1 := x1.size
      have z43 : w.heap.size + 1 ≤ w43.heap.size := by
        have h1 : w11.heap.size ≤ w43.heap.size := ch.ext.size
        omega
      have bw43 := bw11.drew.ext ch.ext (h.gF i hi)
      have ob43 := b11.drew.ext ch.ext ob
      have doc43 := (hen.doc.ext0 d11).ext ch.ext (fun b hb => h.doc i i hi hi b hb)
      have gr : Grow w (es i).F F' := fun b hb => by
        rcases ch.grow b hb with h1 | h1
        · exact .inl h1
        · exact .inr (by have := d11.size; omega)
      have hbd : (es i).d.l ≤ 4000000000000 := by have := hen.dl; omega
      have hcl : ∀ (d' : Doc) (e : Int), DelD (es i).d d' o.key o.slot e → d'.l ≤ cap + 1 := fun d' e pd => by
        have := hen.dl
        have := pd.l
        omega
      refine ⟨_, rfl, ⟨bw43, ob43⟩, ptr_in (when_dec ⟨by omega, by omega⟩ ⟨_, w_ptr bw43 hi, sel_false (isNone_ne hq) ?_⟩)⟩
      refine ⟨fun m f w' => ∃ (d' : Doc) (bx : Nat), m = some ⟨bx, 0, none⟩ ∧ Ext [] w43 w' ∧ DocR w' d' ∧ d'.N = (es i).d.N ∧ d'.l ≤ cap + 1 ∧ delE (es i).x o.key o.slot = f ∧ Rel x' d'.rows ∧ (∀ b ∈ ownF d'.A, b ∈ ownF (es i).d.A ∨ w43.heap.size ≤ b ∧ b < w'.heap.size) ∧ BlkT w' bx d'.cells 58 ∧ w43.heap.size ≤ bx, ?_, ?_⟩
      · refine ⟨fun w' => BlkT w' g (wsCells es) 62 ∧ BlkT w' w.heap.size o.cells 50, ⟨bw43.drew, ob43.drew⟩, ptr_in (when_dec ⟨by omega, by omega⟩ ⟨_, _, _, _, cellsC_S (fun w' hw => w_doc hw.1 hi), _, fun w' hw => cadd hw.2 rfl, _, fun w' hw => cadd hw.2 rfl, ?_, ?_, trivial⟩)⟩
        · refine DocDel_c (w := w43.drew) hen.N (doc43.ext0 (Ext.refl _ _).drew) hbd o.key o.slot fun d' e w59 e59 r59 pd h1 h2 hf => ⟨_, _, _, _, _, rfl, ⟨bw43.drew.ext0 e59, ob43.drew.ext0 e59⟩, fun w60 h60 => ?_⟩
          obtain ⟨b60, x60, z60⟩ := doc_box (d := ⟨0, none, 0, 0, []⟩) h60
          obtain ⟨w61, hr61, b61, x61⟩ := doc_store b60 rfl d'
          have e59' : Ext [] w43 w59 := e59.undrew
          have z59 := e59'.size
          have z61 := x61.size
          have hp := hen.rel.del pd h1 h2 hv
          refine ⟨⟨(bw43.drew.ext0 e59).ext0 x60, (ob43.drew.ext0 e59).ext0 x60⟩, w61, hr61, ⟨((bw43.drew.ext0 e59).ext0 x60).ext x61 (by simp; omega), ((ob43.drew.ext0 e59).ext0 x60).ext x61 (by simp; omega)⟩, d', _, rfl, ?_, ?_, pd.N, hcl d' e pd, hp.1, hp.2, fun b hb => ?_, b61, z59⟩
          · exact (e59'.trans x60).trans' x61 (fun b hb => .inr (by simp at hb; omega))
          · refine (r59.ext0 x60).ext x61 (fun b hb => ?_)
            rcases hf b hb with h3 | h3
            · have := hen.dlt b h3; simp; omega
            · simp; omega
          · rcases hf b hb with h3 | h3
            · exact .inl h3
            · exact .inr ⟨h3.1, by omega⟩
        · intro w62 h62
          obtain ⟨b62, x62, z62⟩ := doc_box (d := ⟨0, none, 0, 0, []⟩) h62
          refine ⟨⟨bw43.drew.ext0 x62, ob43.drew.ext0 x62⟩, ?_⟩
          refine DocDel_c (w := w62) hen.N ((doc43.ext0 (Ext.refl _ _).drew).ext0 x62) hbd o.key o.slot fun d' e w67 e67 r67 pd h1 h2 hf => ⟨_, _, _, _, _, rfl, ⟨(bw43.drew.ext0 x62).ext0 e67, (ob43.drew.ext0 x62).ext0 e67⟩, ?_⟩
          obtain ⟨w68, hr68, b68, x68⟩ := doc_store (b62.ext0 e67) rfl d'
          have x62' : Ext [] w43 w62 := x62.undrew
          have z62' : w62.heap.size = w43.heap.size + 1 := z62
          have z67 := e67.size
          have z68 := x68.size
          have hbx : (World.drew w43).heap.size = w43.heap.size := rfl
          have hp := hen.rel.del pd h1 h2 hv
          refine ⟨w68, hr68, ⟨((bw43.drew.ext0 x62).ext0 e67).ext x68 (by simp; omega), ((ob43.drew.ext0 x62).ext0 e67).ext x68 (by simp; omega)⟩, d', _, rfl, ?_, ?_, pd.N, hcl d' e pd, hp.1, hp.2, fun b hb => ?_, b68, by omega⟩
          · exact (x62'.trans e67).trans' x68 (fun b hb => .inr (by simp at hb; omega))
          · refine r67.ext x68 (fun b hb => ?_)
            rcases hf b hb with h3 | h3
            · have := hen.dlt b h3; simp; omega
            · simp; omega
          · rcases hf b hb with h3 | h3
            · exact .inl h3
            · exact .inr ⟨by omega, by omega⟩
      · rintro _ e _ w72 ⟨d', bx, rfl, g1, g2, g3, g4, g5, g6, g7, g8, g9⟩
        exact fin F' x' d' _ e w43 w72 bx x1 gr (ch.at_.cnt (by omega)) ch.ok (hen.rng.del hv) ch.q ch.N g1 g2 g3 g4 g6 g7 g8 g9 hq g5
end Go.Proofs.Ytjlkdadafddodaa
