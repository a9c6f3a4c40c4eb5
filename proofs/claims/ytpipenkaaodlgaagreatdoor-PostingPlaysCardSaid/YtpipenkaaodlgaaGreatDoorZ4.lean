/- Posting: enter, the walk. -/
import Derived.Test.YtpipenkaaodlgaaGreatDoorZ3
set_option linter.unusedVariables false
set_option linter.unusedSimpArgs false
namespace Go.Proofs.YtpipenkaaodlgaaGreatDoor
open Go Go.V Go.B

theorem PxAt.bm {F G : List Nat} {w w' : World} {x : Px} (h : PxAt w F x) (e : Ext G w w') (hG : x.q ∉ G) : w'.cell? (Addr.add ⟨x.q, 0, none⟩ 3) = some (.map (some x.Bm)) := cadd (h.hdr.ext e hG) rfl
/-- The key's values, as they are looked up. -/
theorem PxAt.look1 {F : List Nat} {w : World} {x : Px} (h : PxAt w F x) (k : ByteArray) : (Instr.lookup 71 (.map (some x.Bm)) (.string k) false).run Tryz.prog w = .ok (.map ((x.cols k).map (·.m))) w := by
  obtain ⟨m, hm, hg⟩ := h.mp
  cases hc : x.cols k with
  | none => exact (look_no kS um_sm zM hm (by rw [hg, hc]; rfl)).1
  | some C => exact (look_yes kS um_sm zM hm (by rw [hg, hc]; rfl)).1
theorem KcAt.look1 {w : World} {C : Kc} (h : KcAt w C) (v : ByteArray) : (Instr.lookup 92 (.map (some C.m)) (.string v) false).run Tryz.prog w = .ok (.pointer ((mget C.of v).map fun s => ⟨s.p, 0, none⟩)) w := by
  cases hv : mget C.of v with
  | none => exact (look_no kS um_sp zP h.mp hv).1
  | some s => exact (look_yes kS um_sp zP h.mp hv).1
/-- A key's values stand. -/
structure Mid0 (w w' : World) (F F' : List Nat) (x x' : Px) (k : ByteArray) (C : Kc) : Prop where
  ex : Ext F w w'
  gr : Grow w F F'
  at_ : PxAt w' F' x'
  sm : Same7 x x'
  col : x'.cols k = some C
  ot : ∀ k', k' ≠ k → x'.cols k' = x.cols k'
  pso : ∀ v', mget C.of v' = x.ps k v'
theorem Mid0.ext0 {w w' w'' : World} {F F' : List Nat} {x x' : Px} {k : ByteArray} {C : Kc} (h : Mid0 w w' F F' x x' k C) (e : Ext [] w' w'') : Mid0 w w'' F F' x x' k C := ⟨h.ex.then e, h.gr, h.at_.ext0 e, h.sm, h.col, h.ot, h.pso⟩
theorem Mid0.have {w w' : World} {F F' : List Nat} {x x' : Px} {k v : ByteArray} {C : Kc} {s : PS} (h : Mid0 w w' F F' x x' k C) (hv : mget C.of v = some s) : Mid w w' F F' x x' k v C s := ⟨h.ex, h.gr, h.at_, h.sm, h.col, h.ot, hv, fun v' _ => h.pso v', .inl ((h.pso v).symm.trans hv)⟩
theorem Mid0.put {w w' w1 w2 : World} {F F' : List Nat} {x x' : Px} {k v : ByteArray} {C : Kc} (h : Mid0 w w' F F' x x' k C) (hv : mget C.of v = none) {p bw : Nat} {S : SetV} (e1 : Ext [] w' w1) (hp : w'.heap.size ≤ p) (hb : w'.heap.size ≤ bw) (hs : SetAt w1 p bw S) (hN : S.N = x'.N) (h0 : ∀ i, S.mem i = false) (e2 : Ext [C.m] w1 w2) (hm : MapAt w2 C.m Value.string psV (mput C.of v ⟨p, bw, S⟩)) :
    ∃ F2 x2 C2, Mid w w2 F F2 x x2 k v C2 ⟨p, bw, S⟩ := by
  have hC := h.at_.col k C h.col
  obtain ⟨c2, g2⟩ := hC.put hv e1 hp hb hs e2 hm
  have hmF : C.m ∈ fpK C := mem_fpK.2 (.inl rfl)
  have eC : Ext (fpK C) w' w2 := (e1.up (F := fpK C)).trans' e2 (fun b hb => by simp at hb; subst hb; exact .inl hmF)
  have p2 := h.at_.upd h.col eC g2 c2 rfl
  have z := h.ex.size
  refine ⟨_, _, _, h.ex.trans' eC (fun b hb => h.gr _ (h.at_.covC k C h.col b hb)), fun b hb => ?_, p2, h.sm.trans (Same7.setCol _ _ _), setCol_same _ _ _, fun k' hk' => by rw [setCol_other _ _ hk']; exact h.ot k' hk', by show mget (mput C.of v _) v = _; rw [mget_mput, if_pos rfl], fun v' hv' => by show mget (mput C.of v _) v' = _; rw [mget_mput, if_neg (fun e => hv' e.symm)]; exact h.pso v', .inr ⟨(h.pso v).symm.trans hv, h0, by show S.N = _; rw [hN]; exact h.sm.N⟩⟩
  rcases List.mem_append.1 hb with hb | hb
  · exact h.gr b hb
  · rcases g2 b hb with hb | hb
    · exact h.gr b (h.at_.covC k C h.col b hb)
    · exact .inr (by omega)
set_option maxRecDepth 4000 in
theorem enter_c {w : World} {F : List Nat} {x : Px} (h : PxAt w F x) {s : Nat} (hs : s < x.N) {A : Option Addr} {n c : Nat} {l : List Lab} (hc : Cells w A (LbL.flat l)) (hl : l.length = n) (hbig : n * 32 ≤ 140737488355328) (hA : ∀ b ∈ ownF A, b ∉ F)
    {E : ByteArray → ByteArray → Nat → Prop} (ok : ColsOk x E) {R : Ending → World → Prop}
    (k : ∀ w' F' x' A' c', Ext F w w' → Grow w F F' → PxAt w' F' x' → Same7 { x with ls := mput x.ls (s : Int) ⟨A', n, c', l⟩ } x' → ColsOk x' (fun k v i => E k v i ∨ ((k, v) ∈ l ∧ i = s)) → R (.returned undef) w') :
    Calls Tryz.prog 30 #[.pointer (some ⟨x.q, 0, none⟩), .int .i64 (s : Int), .slice A n c] w R := by
  apply posting_Index_enter_nf
  have d0 : Ext [] w w.drew := (Ext.refl _ _).drew
  have hc0 := hc.ext0 d0
  have hd0 := h.ext0 d0
  generalize w.drew = w0 at d0 hc0 hd0 ⊢
  refine ⟨fun w' => Ext [] w0 w', Ext.refl _ _, ptr_in ⟨_, fun w' e => cadd (hd0.hdr.ext0 e) rfl, fun w8 h8 => ?_⟩⟩
  have x8 : Ext [] w0 w8 := by rw [h8]; exact (Ext.refl _ _).alloc _
  obtain ⟨A9, c9, w10, hr10, own10, e10⟩ := copyL (L := LbL) (P := Tryz.prog) (ty := 22) (t := 22) (e := 33) (w := w0) (m := n) uL infoL rfl (by omega) hc0 hl h8 (by omega) c
  obtain ⟨w11, hr11, mp11, x11⟩ := store_map kI um_il (hd0.lists.ext0 e10) (s : Int) (⟨A9, n, c9, l⟩ : Ent)
  refine ⟨x8, A9, n, c9, w10, hr10, e10, w11, hr11, ?_⟩
  have e11 : Ext [x.Lm] w0 w11 := (e10.up (F := [x.Lm])).trans x11
  have hLF : x.Lm ∈ F := h.covT _ (by simp [Px.tops])
  have gb := own10.base
  have z10 := e10.size
  have z11 := x11.size
  have oc11 : Cells w11 A9 (LbL.flat l) := own10.cells.ext x11 (fun b hb => by have := gb b hb; have := h.lt _ hLF; have := d0.size; simp; omega)
  have p11 := hd0.setLs (G := ownF A9) e11 mp11 (fun y hy => by
    rcases mem_mput hy with rfl | hy
    · exact .inr ⟨oc11, hl, fun b hb => ⟨(gb b hb).1, hb⟩⟩
    · exact .inl hy) (fun b hb => by have := gb b hb; omega)
  have ok11 : ColsOk { x with ls := mput x.ls (s : Int) ⟨A9, n, c9, l⟩ } E := ⟨ok.ne, ok.set, ok.tell⟩
  have g11 : Grow w F (F ++ ownF A9) := fun b hb => by
    rcases List.mem_append.1 hb with hb | hb
    · exact .inl hb
    · have := gb b hb; have := d0.size; exact .inr (by omega)
  have eF11 : Ext F w w11 := (d0.up (F := F)).trans' e11 (fun b hb => by simp at hb; subst hb; exact .inl hLF)
  have k' : ∀ w' F' x', Ext F w w' → Grow w F F' → PxAt w' F' x' → Same7 { x with ls := mput x.ls (s : Int) ⟨A9, n, c9, l⟩ } x' → ColsOk x' (fun k v i => E k v i ∨ ((k, v) ∈ l ∧ i = s)) → R (.returned undef) w' := fun w' F' x' a b c' d e => k w' F' x' A9 c9 a b c' d e
  have hsx : s < ({ x with ls := mput x.ls (s : Int) ⟨A9, n, c9, l⟩ } : Px).N := hs
  have hq0 : ({ x with ls := mput x.ls (s : Int) ⟨A9, n, c9, l⟩ } : Px).q = x.q := rfl
  generalize ({ x with ls := mput x.ls (s : Int) ⟨A9, n, c9, l⟩ } : Px) = x0 at p11 ok11 k' hsx hq0
  let I : Nat → World → Prop := fun a w' => ∃ F' x', Ext F w w' ∧ Grow w F F' ∧ PxAt w' F' x' ∧ Same7 x0 x' ∧ ColsOk x' (fun k v i => E k v i ∨ ((k, v) ∈ l.take a ∧ i = s))
  refine ⟨fun t w' => ∃ a : Nat, t = a ∧ a ≤ n ∧ I a w', fun t _ => n - t.toNat, ⟨0, rfl, by omega, _, _, eF11, g11, p11, Same7.refl _, ok11.mono fun k v i => by simp⟩, ?_⟩
  rintro _ _ w16 ⟨a, rfl, ha, F', x', e16, g16, p16, s16, ok16⟩
  refine sel_dec (fun hlt => when_dec ⟨by omega, by omega⟩ (take_lab (hc.ext e16 hA) hl (by omega) fun y w21 hy by_ ey => ?_)) (fun hge => ?_)
  rotate_left
  · have : a = n := by omega
    subst this
    rw [List.take_of_length_le (by omega)] at ok16
    exact k' w16 F' x' e16 g16 p16 s16 ok16
  have p21 := p16.ext0 ey
  have z21 := ey.size
  have hbx : w16.heap.size ∉ F' := fun hm => by have := p16.lt _ hm; omega
  -- the end of a round
  have fin : ∀ w69, (∃ F2 x2 C2 s2, Mid w21 w69 F' F2 x' x2 y.1 y.2 C2 s2) →
      ∃ S70 : World → Prop, S70 (World.drew w69) ∧
      V.ptr (some ⟨x.q, 0, none⟩) fun a72 =>
      ∃ m73, (∀ w71, S70 w71 → World.cell? w71 (Addr.add a72 3) = some (Value.map m73)) ∧
      ∃ s74, (∀ w71, S70 w71 → World.cell? w71 (Addr.add ⟨Array.size (World.heap w16), 0, none⟩ 0) = some (Value.string s74)) ∧
      ∃ s75, (∀ w71, S70 w71 → World.cell? w71 (Addr.add ⟨Array.size (World.heap w16), 0, none⟩ 1) = some (Value.string s75)) ∧
      ∃ m76, ∃ w77, Sem.run Tryz.prog (Instr.lookup 71 (Value.map m73) (Value.string s74) false) (World.drew w69) = .ok (Value.map m76) w77 ∧
      S70 w77 ∧
      ∃ p78, ∃ w79, Sem.run Tryz.prog (Instr.lookup 92 (Value.map m76) (Value.string s75) false) w77 = .ok (Value.pointer p78) w79 ∧
      S70 w79 ∧
      Calls Tryz.prog 29 #[(Value.pointer p78), (Value.int .i64 (s : Int))] w79 fun e81 w82 =>
      ∃ b80, e81 = Ending.returned (Value.bool b80) ∧
      S70 w82 ∧
      (∃ b : Nat, IntKind.wrap .i64 ((a : Int) + 1) = b ∧ b ≤ n ∧ I b w82) ∧ n - (IntKind.wrap .i64 ((a : Int) + 1)).toNat < n - ((a : Int)).toNat := by
    rintro w69 ⟨F2, x2, C2, s2, mid⟩
    have hq : x2.q = x.q := mid.sm.q.trans (s16.q.trans hq0)
    have pd := mid.at_.ext0 ((Ext.refl _ _).drew)
    have exd : Ext F' w21 w69.drew := mid.ex.drew
    have hC := pd.col _ _ mid.col
    have hsb := (fpK_S mid.get).1
    have hqb : x2.q ∉ [s2.b] := fun hm => by
      simp at hm
      exact pd.top _ _ mid.col _ hsb (by rw [← hm]; simp [Px.tops])
    have hxb : w16.heap.size ∉ [s2.b] := fun hm => by
      simp at hm
      rcases mid.gr _ (mid.at_.covC _ _ mid.col _ hsb) with h1 | h1
      · exact hbx (hm ▸ h1)
      · have := by_.lt; omega
    have bd := by_.ext exd hbx
    refine ⟨fun w' => Ext [s2.b] w69.drew w', Ext.refl _ _, ptr_in ⟨_, fun w' e => by rw [← hq]; exact pd.bm e hqb, _, fun w' e => cadd (bd.ext e hxb) rfl, _, fun w' e => cadd (bd.ext e hxb) rfl, _, _, pd.look1 _, Ext.refl _ _, ?_⟩⟩
    rw [mid.col]
    refine ⟨_, _, hC.look1 _, Ext.refl _ _, ?_⟩
    rw [mid.get]
    refine Add_c (hC.set _ (mget_some mid.get)) (s : Int) fun w82 T t e82 s82 hTN hTm _ => ⟨_, rfl, e82, ?_⟩
    obtain ⟨F3, x3, q1, q2, q3, q4, q5⟩ := mid.add ((Ext.refl _ _).drew.trans e82) s82 hTN (slot := s) (by rw [s16.N]; exact hsx) hTm ok16
    rw [up64 a (by omega)]
    refine ⟨⟨a + 1, rfl, by omega, F3, x3, (e16.then ey).trans' q1 (fun b hb => g16 b hb), g16.trans (fun b hb => ?_) e16.size, q3, s16.trans q4, q5.mono fun k v i => ?_⟩, by simp only [Int.toNat_natCast]; omega⟩
    · rcases q2 b hb with h1 | h1
      · exact .inl h1
      · exact .inr (by omega)
    · rw [snoc_at hy]
      simp only [List.mem_append, List.mem_singleton]
      constructor
      · rintro ((h1 | ⟨h1, h2⟩) | ⟨rfl, rfl, h2⟩)
        · exact .inl h1
        · exact .inr ⟨.inl h1, h2⟩
        · exact .inr ⟨.inr rfl, h2⟩
      · rintro (h1 | ⟨h1 | h1, h2⟩)
        · exact .inl (.inl h1)
        · exact .inl (.inr ⟨h1, h2⟩)
        · cases h1; exact .inr ⟨rfl, rfl, h2⟩
  have hq : x'.q = x.q := s16.q.trans hq0
  refine ⟨fun w' => ∃ F1 x1 C1, Mid0 w21 w' F' F1 x' x1 y.1 C1, ?_, ?_⟩
  · have pd := p21.ext0 ((Ext.refl _ _).drew)
    have d21 : Ext [] w21 w21.drew := (Ext.refl _ _).drew
    have bd := by_.ext0 d21
    generalize w21.drew = w22 at pd d21 bd ⊢
    refine ⟨fun w' => Ext [] w22 w', Ext.refl _ _, ptr_in ⟨_, fun w' e => by rw [← hq]; exact pd.bm e (by simp), _, fun w' e => cadd (bd.ext0 e) rfl, _, _, pd.look1 _, Ext.refl _ _, ?_⟩⟩
    cases hcol : x'.cols y.1 with
    | some C => exact sel_false rfl ⟨F', x', C, d21.up, Grow.refl _ _, pd, Same7.refl _, hcol, fun _ _ => rfl, fun v' => by unfold Px.ps; rw [hcol]; rfl⟩
    | none =>
      refine sel_true rfl ?_
      have d22 : Ext [] w22 w22.drew := (Ext.refl _ _).drew
      have pd2 := pd.ext0 d22
      have bd2 := bd.ext0 d22
      generalize w22.drew = w23 at pd2 d22 bd2 ⊢
      refine ⟨fun w' => Ext [] w23 w', Ext.refl _ _, ptr_in ⟨_, fun w' e => by rw [← hq]; exact pd2.bm e (by simp), _, fun w' e => cadd (bd2.ext0 e) rfl, fun w35 h35 => ?_⟩⟩
      have x35 : Ext [] w23 w35 := by rw [h35]; exact (Ext.refl _ _).alloc _
      have m35 : MapAt w35 w23.heap.size Value.string psV [] := by rw [h35]; exact MapAt.new _ _ _
      obtain ⟨m, hm, hg⟩ := pd2.mp
      obtain ⟨w36, hr36, mp36, x36⟩ := store_map kS um_sm (hm.ext0 x35) y.1 (w23.heap.size : Nat)
      have hBl := hm.lt
      have e36 : Ext [x'.Bm] w23 w36 := (x35.up (F := [x'.Bm])).trans x36
      have hBF : x'.Bm ∈ F' := pd2.covT _ (by simp [Px.tops])
      have c36 : KcAt w36 ⟨w23.heap.size, []⟩ := ⟨m35.ext x36 (by simp; omega), fun y hy => by simp at hy, fun y hy => by simp at hy, fun y hy => by simp at hy⟩
      have p36 := pd2.more (C' := ⟨w23.heap.size, []⟩) hcol e36 (fun b hb => by simp [fpK] at hb; omega) c36 hg mp36
      refine ⟨x35, w36, hr36, _, _, _, (d21.trans d22).up.trans' e36 (fun b hb => by simp at hb; subst hb; exact .inl hBF), fun b hb => ?_, p36, Same7.setCol _ _ _, setCol_same _ _ _, fun k' hk' => setCol_other _ _ hk', fun v' => ?_⟩
      · rcases List.mem_append.1 hb with hb | hb
        · exact .inl hb
        · have := (d21.trans d22).size
          simp [fpK] at hb; exact .inr (by omega)
      · unfold Px.ps
        rw [hcol]; rfl
  · rintro _ w38 ⟨F1, x1, C1, mid⟩
    have hq1 : x1.q = x.q := mid.sm.q.trans (s16.q.trans hq0)
    have hb38 := by_.ext mid.ex hbx
    have md := mid.ext0 ((Ext.refl _ _).drew)
    have bd := hb38.ext0 ((Ext.refl _ _).drew)
    generalize w38.drew = w39 at md bd ⊢
    refine ⟨fun w' => Ext [] w39 w', Ext.refl _ _, ptr_in ⟨_, fun w' e => by rw [← hq1]; exact md.at_.bm e (by simp), _, fun w' e => cadd (bd.ext0 e) rfl, _, fun w' e => cadd (bd.ext0 e) rfl, _, _, md.at_.look1 _, Ext.refl _ _, ?_⟩⟩
    rw [md.col]
    have hC := md.at_.col _ _ md.col
    refine ⟨_, _, hC.look1 _, Ext.refl _ _, ?_⟩
    cases hv : mget C1.of y.2 with
    | some s2 => exact sel_false rfl (fin w39 ⟨_, _, _, _, md.have hv⟩)
    | none =>
      refine sel_true rfl ?_
      refine ⟨fun w' => ∃ F2 x2 C2 s2, Mid w21 w' F' F2 x' x2 y.1 y.2 C2 s2, ?_, fun _ w69 hm => fin w69 hm⟩
      have md2 := md.ext0 ((Ext.refl _ _).drew)
      have bd2 := bd.ext0 ((Ext.refl _ _).drew)
      generalize w39.drew = w40 at md2 bd2 ⊢
      have hC2 := md2.at_.col _ _ md2.col
      refine ⟨fun w' => Ext [] w40 w', Ext.refl _ _, ptr_in ⟨_, fun w' e => by rw [← hq1]; exact md2.at_.bm e (by simp), _, fun w' e => cadd (bd2.ext0 e) rfl, _, fun w' e => cadd (bd2.ext0 e) rfl, ?_, ?_, trivial⟩⟩
      · refine ⟨_, _, md2.at_.look1 _, Ext.refl _ _, ?_⟩
        rw [md2.col]
        rw [← hq1]
        refine none_c (.inr ⟨_, rfl, md2.at_⟩) fun p bw w60 S e60 hp hb hs60 hN h0 => ⟨_, rfl, e60, ?_⟩
        obtain ⟨w61, hr61, mp61, x61⟩ := store_map kS um_sp (hC2.mp.ext0 e60) y.2 (⟨p, bw, S⟩ : PS)
        obtain ⟨F2, x2, C2, h2⟩ := md2.put hv e60 hp hb hs60 hN h0 x61 mp61
        exact ⟨w61, hr61, F2, x2, C2, _, h2⟩
      · rw [← hq1]
        refine none_c (.inr ⟨_, rfl, md2.at_⟩) fun p bw w60 S e60 hp hb hs60 hN h0 => ⟨_, rfl, e60, _, _, (md2.at_.ext0 e60).look1 _, e60, ?_⟩
        rw [md2.col]
        obtain ⟨w61, hr61, mp61, x61⟩ := store_map kS um_sp (hC2.mp.ext0 e60) y.2 (⟨p, bw, S⟩ : PS)
        obtain ⟨F2, x2, C2, h2⟩ := md2.put hv e60 hp hb hs60 hN h0 x61 mp61
        exact ⟨w61, hr61, F2, x2, C2, _, h2⟩
end Go.Proofs.YtpipenkaaodlgaaGreatDoor
