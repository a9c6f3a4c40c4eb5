/- Posting: leave. -/
import Derived.Test.YtpipenkaaodlgaaGreatDoorZ4
set_option linter.unusedVariables false
set_option linter.unusedSimpArgs false
namespace Go.Proofs.YtpipenkaaodlgaaGreatDoor
open Go Go.V Go.B

theorem count0 {S : SetV} (h : S.Ok) : S.count = 0 ↔ ∀ i, S.mem i = false := by
  rw [← members_length, List.length_eq_zero_iff]
  constructor
  · intro e i
    cases hm : S.mem i with
    | false => rfl
    | true => have := (mem_members h i).2 hm; rw [e] at this; cases this
  · intro hh
    rw [List.eq_nil_iff_forall_not_mem]
    intro i hi
    have := (mem_members h i).1 hi
    rw [hh i] at this; cases this
theorem count_pos {S : SetV} (h : S.Ok) (hn : S.count ≠ 0) : ∃ i, S.mem i = true := by
  apply Classical.byContradiction
  intro hne
  exact hn ((count0 h).2 fun j => by
    cases hj : S.mem j with
    | false => rfl
    | true => exact absurd ⟨j, hj⟩ hne)
/-- A slot is taken out of a value's set. -/
structure Out (w w' : World) (C C2 : Kc) (v : ByteArray) (s : PS) (slot : Nat) : Prop where
  ex : Ext (fpK C) w w'
  fp : ∀ b ∈ fpK C2, b ∈ fpK C
  at_ : KcAt w' C2
  m : C2.m = C.m
  ot : ∀ v', v' ≠ v → mget C2.of v' = mget C.of v'
  alt : (mget C2.of v = none ∧ ∀ i, s.S.mem i = true → i = slot) ∨ ∃ s', mget C2.of v = some s' ∧ s'.S.N = s.S.N ∧ (∃ i, s'.S.mem i = true) ∧ ∀ i, s'.S.mem i = (s.S.mem i && !decide (i = slot))
theorem Out.rem {w w' : World} {F : List Nat} {x : Px} {k v : ByteArray} {C C2 : Kc} {s : PS} {slot : Nat} (h : Out w w' C C2 v s slot) (p : PxAt w F x) (hk : x.cols k = some C) (hv : mget C.of v = some s) {E : ByteArray → ByteArray → Nat → Prop} (ok : ColsOk x E) (c' : Option Kc) (hc : (c' = some C2 ∧ C2.of ≠ []) ∨ (c' = none ∧ C2.of = [])) :
    ColsOk (x.setCol k c') (fun k' v' i => E k' v' i ∧ ¬ (k' = k ∧ v' = v ∧ i = slot)) := by
  have hps : ∀ v', (x.setCol k c').ps k v' = mget C2.of v' := fun v' => by
    rw [ps_setCol, if_pos rfl]
    rcases hc with ⟨rfl, _⟩ | ⟨rfl, h0⟩
    · rfl
    · rw [h0]; rfl
  have hx : ∀ v', x.ps k v' = mget C.of v' := fun v' => by unfold Px.ps; rw [hk]; rfl
  have hs := ok.set k v s ((hx v).trans hv)
  refine ok.rem rfl (fun k' D hD => ?_) (fun k' v' hne => ?_) ?_
  · rcases setCol_some hD with ⟨_, e⟩ | ⟨_, e⟩
    · rcases hc with ⟨rfl, h0⟩ | ⟨rfl, h0⟩
      · cases e; exact h0
      · cases e
    · exact ok.ne k' D e
  · by_cases e1 : k' = k
    · subst e1
      have e2 : v' ≠ v := fun e => hne ⟨rfl, e⟩
      rw [hps, h.ot v' e2, hx]
    · rw [ps_setCol, if_neg e1]
  · rcases h.alt with ⟨h1, h2⟩ | ⟨s', h1, h2, h3, h4⟩
    · refine .inl ⟨(hps v).trans h1, fun s0 i h0 hi => ?_⟩
      rw [hx, hv] at h0
      cases h0
      exact h2 i hi
    · exact .inr ⟨s, s', (hx v).trans hv, (hps v).trans h1, h2.trans hs.1, h3, h4⟩
set_option maxRecDepth 4000 in
theorem leave_c {w : World} {F : List Nat} {x : Px} (h : PxAt w F x) {s : Nat} {t : Ent} (hg : mget x.ls (s : Int) = some t) {E : ByteArray → ByteArray → Nat → Prop} (ok : ColsOk x E) (hE : ∀ y ∈ t.l, E y.1 y.2 s) (hnd : t.l.Nodup) (hbig : t.n < 4611686018427387904) {R : Ending → World → Prop}
    (k : ∀ w' F' x', Ext F w w' → Grow w F F' → PxAt w' F' x' → Same7 { x with ls := mdel x.ls (s : Int) } x' → ColsOk x' (fun k v i => E k v i ∧ ¬ ((k, v) ∈ t.l ∧ i = s)) → R (.returned undef) w') :
    Calls Tryz.prog 31 #[.pointer (some ⟨x.q, 0, none⟩), .int .i64 (s : Int)] w R := by
  apply posting_Index_leave_nf
  refine ptr_in ⟨_, cadd h.hdr rfl, _, _, _, w, (look_yes kI um_il zL h.lists hg).1, ?_⟩
  let I : Nat → World → Prop := fun a w' => ∃ F' x', Ext F w w' ∧ Grow w F F' ∧ PxAt w' F' x' ∧ Same7 x x' ∧ ColsOk x' (fun k v i => E k v i ∧ ¬ ((k, v) ∈ t.l.take a ∧ i = s))
  refine ⟨fun z w' => ∃ a : Nat, z = a ∧ a ≤ t.n ∧ I a w', fun z _ => t.n - z.toNat, ⟨0, rfl, by omega, F, x, Ext.refl _ _, Grow.refl _ _, h, Same7.refl _, ok.mono fun k v i => by simp⟩, ?_⟩
  rintro _ _ w11 ⟨a, rfl, ha, F', x', e11, g11, p11, s11, ok11⟩
  have hin := mget_some hg
  have hin' : ((s : Int), t) ∈ x'.ls := by rw [s11.ls]; exact hin
  obtain ⟨hcl, hln⟩ : Cells w11 t.A (LbL.flat t.l) ∧ t.l.length = t.n := p11.ent _ hin'
  have hq : x'.q = x.q := s11.q
  refine sel_dec (fun hlt => when_dec ⟨by omega, by omega⟩ (take_lab hcl hln (by omega) fun y w16 hy by_ ey => ?_)) (fun hge => ?_)
  rotate_left
  · have hat : a = t.n := by omega
    rw [List.take_of_length_le (by omega)] at ok11
    obtain ⟨w51, hr51, mp51, x51⟩ := drop_map (ty := 0) (tk := 3) kI um_il p11.lists (s : Int)
    have p51 := p11.setLs (G := []) x51 mp51 (fun y hy => .inl (mem_mdel hy)) (by simp)
    have hLF : x'.Lm ∈ F' := p11.covT _ (by simp [Px.tops])
    rw [← hq]
    refine ptr_in ⟨_, cadd p11.hdr rfl, w51, hr51, k w51 _ _ (e11.trans' x51 (fun b hb => by simp at hb; subst hb; exact g11 _ hLF)) (fun b hb => g11 b (by simpa using hb)) p51 ⟨s11.q, s11.N, s11.lp, s11.lb, s11.L, s11.Lm, s11.Bm, by show mdel x'.ls _ = mdel x.ls _; rw [s11.ls]⟩ ⟨ok11.ne, ok11.set, ok11.tell⟩⟩
  have p16 := p11.ext0 ey
  have hbx : w11.heap.size ∉ F' := fun hm => by have := p11.lt _ hm; omega
  have hyl : y ∈ t.l := List.mem_of_getElem? hy
  have hnew : (y.1, y.2) ∉ t.l.take a := fun hm => by
    have h1 := snoc_at hy
    have h2 : (t.l.take (a + 1)).Nodup := hnd.sublist (List.take_sublist _ _)
    rw [h1, List.nodup_append] at h2
    exact h2.2.2 _ hm y (by simp) rfl
  obtain ⟨s1, hps, hmem⟩ := (ok11.tell y.1 y.2 s).2 ⟨hE y hyl, fun hh => hnew hh.1⟩
  obtain ⟨C, hcol, hv⟩ : ∃ C, x'.cols y.1 = some C ∧ mget C.of y.2 = some s1 := by
    unfold Px.ps at hps
    cases hc : x'.cols y.1 with
    | none => rw [hc] at hps; cases hps
    | some C => rw [hc] at hps; exact ⟨C, rfl, hps⟩
  have d16 : Ext [] w16 w16.drew := (Ext.refl _ _).drew
  have pd := p16.ext0 d16
  have bd := by_.ext0 d16
  have hC16 := p16.col _ _ hcol
  have z16 := ey.size
  generalize w16.drew = w17 at d16 pd bd ⊢
  have hC := pd.col _ _ hcol
  have hsF := fpK_S hv
  have hCF := pd.covC _ _ hcol
  refine ⟨fun w' => Ext [] w17 w', Ext.refl _ _, ptr_in ⟨_, fun w' e => by rw [← hq]; exact pd.bm e (by simp), _, fun w' e => cadd (bd.ext0 e) rfl, _, w17, pd.look1 _, Ext.refl _ _, _, cadd bd rfl, ?_⟩⟩
  rw [hcol]
  refine ⟨_, w17, hC.look1 _, ?_⟩
  rw [hv]
  have sv := hC.set _ (mget_some hv)
  refine Remove_c sv (s : Int) fun w29 T b27 e29 s29 hTN hTm _ => ⟨_, rfl, ?_⟩
  have hTm' : ∀ j, T.mem j = (s1.S.mem j && !decide (j = s)) := fun j => by
    rw [hTm]
    congr 2
    rw [decide_eq_decide]; omega
  have c29 := hC.setS hv e29 s29
  have eC29 : Ext (fpK C) w17 w29 := e29.weaken (fun b hb => by simp at hb; subst hb; exact .inl hsF.1)
  have hget29 : mget (upS C.of y.2 T) y.2 = some { s1 with S := T } := by rw [upS_get, if_pos rfl, hv]; rfl
  have hbx2 : ∀ b ∈ fpK C, b ≠ w11.heap.size := fun b hb e => hbx (e ▸ hCF b hb)
  have bd29 := bd.ext eC29 (fun hm => hbx2 _ hm rfl)
  have o29 : T.count ≠ 0 → Out w17 w29 C ⟨C.m, upS C.of y.2 T⟩ y.2 s1 s := fun hne => ⟨eC29, fun b hb => upS_fp hb, c29, rfl, fun v' hv' => by show mget (upS _ _ _) _ = _; rw [upS_get, if_neg hv'], .inr ⟨_, hget29, hTN, count_pos s29.ok hne, hTm'⟩⟩
  refine ⟨fun w' => ∃ C2, Out w17 w' C C2 y.2 s1 s, ⟨_, cadd bd29 rfl, _, w29, c29.look1 _, ?_⟩, ?_⟩
  · rw [hget29]
    refine Count_c (c29.set _ (mget_some hget29)).ref ⟨_, rfl, sel_intro (fun h0 => ?_) (fun h0 => ?_)⟩
    · have h0 : T.count = 0 := Int.ofNat_inj.1 (eq_of_beq h0)
      have hno := (count0 s29.ok).1 h0
      obtain ⟨w38, hr38, mp38, x38⟩ := drop_map (ty := 0) (tk := 9) kS um_sp c29.mp y.2
      refine ⟨_, cadd bd29 rfl, w38, hr38, ⟨C.m, mdel (upS C.of y.2 T) y.2⟩, eC29.trans' x38 (fun b hb => by simp at hb; subst hb; exact .inl (mem_fpK.2 (.inl rfl))), fun b hb => upS_fp (mdel_fp (C := ⟨C.m, upS C.of y.2 T⟩) hb), c29.del x38 mp38, rfl, fun v' hv' => ?_, .inl ⟨?_, fun i hi => ?_⟩⟩
      · show mget (mdel (upS _ _ _) _) _ = _
        rw [mget_mdel c29.mp.nodup, if_neg (fun e => hv' e.symm), upS_get, if_neg hv']
      · show mget (mdel (upS _ _ _) _) _ = _
        rw [mget_mdel c29.mp.nodup, if_pos rfl]
      · have h1 := hno i
        rw [hTm', hi] at h1
        simpa using h1
    · exact ⟨_, o29 fun e => by rw [e] at h0; simp at h0⟩
  · rintro _ w40 ⟨C2, out⟩
    have bd40 := bd.ext out.ex (fun hm => hbx2 _ hm rfl)
    have p40 := pd.upd hcol out.ex (fun b hb => .inl (out.fp b hb)) out.at_ out.m
    have gF : ∀ b ∈ F' ++ fpK C2, b ∈ F' := fun b hb => by
      rcases List.mem_append.1 hb with hb | hb
      · exact hb
      · exact hCF b (out.fp b hb)
    have eF : Ext F' w17 w40 := out.ex.weaken (fun b hb => .inl (hCF b hb))
    have e40 : Ext F w w40 := ((e11.then ey).then d16).trans' eF (fun b hb => g11 b hb)
    have hlen := len_map (P := Tryz.prog) (ty := 3) um_sp out.at_.mp
    rw [out.m] at hlen
    have done : ∀ {w' : World} {x'' : Px}, Ext F w w' → PxAt w' (F' ++ fpK C2) x'' → Same7 x' x'' → ColsOk x'' (fun k' v' i => (E k' v' i ∧ ¬ ((k', v') ∈ t.l.take a ∧ i = s)) ∧ ¬ (k' = y.1 ∧ v' = y.2 ∧ i = s)) → (∃ b : Nat, IntKind.wrap .i64 ((a : Int) + 1) = b ∧ b ≤ t.n ∧ I b w') ∧ t.n - (IntKind.wrap .i64 ((a : Int) + 1)).toNat < t.n - ((a : Int)).toNat := fun {w' x''} e1 p1 s1 o1 => by
      rw [up64 a (by omega)]
      refine ⟨⟨a + 1, rfl, by omega, _, x'', e1, fun b hb => g11 b (gF b hb), p1, s11.trans s1, o1.mono fun k' v' i => ?_⟩, by simp only [Int.toNat_natCast]; omega⟩
      rw [snoc_at hy]
      simp only [List.mem_append, List.mem_singleton]
      constructor
      · rintro ⟨⟨h1, h2⟩, h3⟩
        refine ⟨h1, fun hh => ?_⟩
        rcases hh.1 with h4 | h4
        · exact h2 ⟨h4, hh.2⟩
        · exact h3 ⟨congrArg (·.1) h4, congrArg (·.2) h4, hh.2⟩
      · rintro ⟨h1, h2⟩
        exact ⟨⟨h1, fun hh => h2 ⟨.inl hh.1, hh.2⟩⟩, fun hh => h2 ⟨.inr (by rw [hh.1, hh.2.1]), hh.2.2⟩⟩
    refine ⟨_, w40, hlen, sel_intro (fun h0 => ?_) (fun h0 => ?_)⟩
    · have h0 : C2.of.length = 0 := Int.ofNat_inj.1 (eq_of_beq h0)
      have hC20 := List.length_eq_zero_iff.1 h0
      have pdd := p40.ext0 ((Ext.refl _ _).drew)
      have bdd := bd40.ext0 ((Ext.refl _ _).drew)
      have edd : Ext F w w40.drew := e40.drew
      generalize w40.drew = w41 at pdd bdd edd ⊢
      obtain ⟨m, hm, hmg⟩ := pdd.mp
      have hBF : x'.Bm ∈ F' := p11.covT _ (by simp [Px.tops])
      have hqB : x'.q ∉ [x'.Bm] := by
        have nd := p11.nd
        unfold Px.tops at nd
        simp only [List.nodup_cons, List.mem_cons, List.not_mem_nil, or_false, not_or] at nd
        simp; exact nd.1.2.2.2
      have hxB : w11.heap.size ∉ [x'.Bm] := fun hm => by simp at hm; exact hbx (hm ▸ hBF)
      obtain ⟨w48, hr48, mp48, x48⟩ := drop_map (ty := 0) (tk := 9) kS um_sm hm y.1
      have p48 := pdd.less (key := y.1) x48 hmg hm.nodup mp48
      refine ⟨fun w' => Ext [x'.Bm] w41 w', Ext.refl _ _, ptr_in ⟨_, fun w' e => by rw [← hq]; exact pdd.bm e hqB, _, fun w' e => cadd (bdd.ext e hxB) rfl, w48, hr48, x48, ?_⟩⟩
      have okr := out.rem pd hcol hv ok11 none (.inr ⟨rfl, hC20⟩)
      have hset : (x'.setCol y.1 (some C2)).setCol y.1 none = x'.setCol y.1 none := by
        unfold Px.setCol
        congr 1
        funext k'
        by_cases e : k' = y.1 <;> simp [e]
      rw [hset] at p48
      exact done (edd.trans' x48 (fun b hb => by simp at hb; subst hb; exact g11 _ hBF)) p48 (Same7.setCol _ _ _) okr
    · have h1 : C2.of ≠ [] := fun e => by rw [e] at h0; simp at h0
      exact done e40 p40 (Same7.setCol _ _ _) (out.rem pd hcol hv ok11 _ (.inl ⟨rfl, h1⟩))
end Go.Proofs.YtpipenkaaodlgaaGreatDoor
