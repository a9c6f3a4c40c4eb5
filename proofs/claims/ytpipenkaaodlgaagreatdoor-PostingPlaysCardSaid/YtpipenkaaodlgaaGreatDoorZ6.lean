/- Posting: New, Put, Set, Drop. -/
import Derived.Test.YtpipenkaaodlgaaGreatDoorZ5
set_option linter.unusedVariables false
set_option linter.unusedSimpArgs false
namespace Go.Proofs.YtpipenkaaodlgaaGreatDoor
open Go Go.V Go.B

abbrev LabF := Int → Option (List Lab)
/-- Index's labels with a slot's turned. -/
def updL (f : LabF) (e slot : Int) (o : Option (List Lab)) : LabF := fun i => if e = 0 ∧ i = slot then o else f i
def putE (N : Nat) (f : LabF) (slot : Int) (l : List Lab) : Int := if slot < 0 ∨ (N : Int) ≤ slot then 72 else if (f slot).isSome then 70 else (checkS l).2
def setE (N : Nat) (f : LabF) (slot : Int) (l : List Lab) : Int := if slot < 0 ∨ (N : Int) ≤ slot then 72 else if (f slot).isSome then (checkS l).2 else 71
def dropE (N : Nat) (f : LabF) (slot : Int) : Int := if slot < 0 ∨ (N : Int) ≤ slot then 72 else if (f slot).isSome then 0 else 71
structure Chz (w w' : World) (F F' : List Nat) (x x' : Px) (f : LabF) : Prop where
  ex : Ext F w w'
  gr : Grow w F F'
  at_ : PxAt w' F' x'
  ok : PxOk x'
  q : x'.q = x.q
  N : x'.N = x.N
  lab : ∀ i, x'.lab i = f i
theorem Chz.same {w w' : World} {F : List Nat} {x : Px} (h : PxAt w F x) (ok : PxOk x) (e : Ext [] w w') {er slot : Int} (he : er ≠ 0) (o : Option (List Lab)) : Chz w w' F F x x (updL x.lab er slot o) :=
  ⟨e.up, Grow.refl _ _, h.ext0 e, ok, rfl, rfl, fun i => by unfold updL; rw [if_neg (fun hh => he hh.1)]⟩
theorem PxAt.setLive {w w' : World} {F : List Nat} {x : Px} (h : PxAt w F x) (e : Ext [x.lb] w w') {T : SetV} (hs : SetAt w' x.lp x.lb T) : PxAt w' F { x with L := T } := by
  have nd := h.nd
  unfold Px.tops at nd
  simp only [List.nodup_cons, List.mem_cons, List.not_mem_nil, or_false, not_or] at nd
  obtain ⟨⟨n1, n2, n3, n4⟩, ⟨n5, n6, n7⟩, ⟨n8, n9⟩, n10, _⟩ := nd
  have nL : ∀ b, b ∉ x.tops → b ∉ [x.lb] := fun b hb hm => hb (by simp at hm; subst hm; simp [Px.tops])
  obtain ⟨m, h1, h2⟩ := h.mp
  have n8' : x.Lm ≠ x.lb := fun e => n8 e.symm
  have n9' : x.Bm ≠ x.lb := fun e => n9 e.symm
  exact ⟨h.hdr.ext e (by simp; exact n2), hs, h.lists.ext e (by simp; exact n8'), fun y hy => ⟨(h.ent y hy).1.ext e (fun b hb => nL b (h.entT y hy b hb).1), (h.ent y hy).2⟩, ⟨m, h1.ext e (by simp; exact n9'), h2⟩, fun k C hk => (h.col k C hk).ext e (fun b hb => nL b (h.top k C hk b hb)), h.small, h.nd, h.top, h.dis, h.entT, h.covT, h.covC, h.covE, fun b hb => Nat.lt_of_lt_of_le (h.lt b hb) e.size⟩
theorem PxOk.has {x : Px} (ok : PxOk x) (i : Int) : x.L.has i = (x.lab i).isSome := by
  cases hl : x.lab i with
  | some l =>
    obtain ⟨_, j, rfl, _⟩ := ok.lab i l hl
    rw [SetV.has_nat]
    exact (ok.live j).2 ⟨l, hl⟩
  | none =>
    unfold SetV.has
    by_cases h0 : 0 ≤ i
    · cases hm : x.L.mem i.toNat with
      | false => simp
      | true =>
        obtain ⟨l, h1⟩ := (ok.live _).1 hm
        rw [show ((i.toNat : Nat) : Int) = i by omega, hl] at h1; cases h1
    · simp [h0]
theorem lab_mget {x : Px} {ls : List (Int × Ent)} (h : x.ls = ls) (i : Int) : x.lab i = (mget ls i).map (·.l) := by unfold Px.lab; rw [h]
theorem live_c {w : World} {F : List Nat} {x : Px} (h : PxAt w F x) : w.cell? (Addr.add ⟨x.q, 0, none⟩ 1) = some (.pointer (some ⟨x.lp, 0, none⟩)) := cadd h.hdr rfl
/-- A slot with its labels goes in where there is none. -/
theorem enter_ok {x x1 x' : Px} (ok : PxOk x) {s : Nat} (hs : s < x.N) {l : List Lab} (hl : OkL l) {A' : Option Addr} {n c' : Nat} (hN : x1.N = x.N) (hno : mget x1.ls (s : Int) = none) (hlab : ∀ i : Int, i ≠ s → x1.lab i = x.lab i) (s7 : Same7 { x1 with ls := mput x1.ls (s : Int) ⟨A', n, c', l⟩ } x')
    (hLN : x1.L.N = x.N) (hL : ∀ i : Nat, x1.L.mem i = (x.L.mem i || decide (i = s))) {E : ByteArray → ByteArray → Nat → Prop} (hE : ∀ k v i, E k v i ↔ x1.E k v i) (oc : ColsOk x' (fun k v i => E k v i ∨ ((k, v) ∈ l ∧ i = s))) :
    PxOk x' ∧ ∀ i, x'.lab i = updL x.lab 0 s (some l) i := by
  have hla : ∀ i, x'.lab i = updL x.lab 0 s (some l) i := fun i => by
    rw [lab_mget s7.ls, mget_mput]
    unfold updL
    by_cases e : i = (s : Int)
    · rw [if_pos e.symm, if_pos ⟨rfl, e⟩]; rfl
    · rw [if_neg (fun h => e h.symm), if_neg (fun h => e h.2), ← hlab i e]; rfl
  refine ⟨⟨oc.mono fun k v i => ?_, ?_, fun i => ?_, fun i l' h' => ?_⟩, hla⟩
  · rw [hE]
    unfold Px.E
    rw [hla]
    unfold updL
    by_cases e : i = s
    · subst e
      have h0 : x1.lab (i : Int) = none := by rw [lab_mget rfl, hno]; rfl
      rw [h0]
      simp
    · have e' : ¬ ((i : Int) = (s : Int)) := by omega
      rw [if_neg (fun h => e' h.2), hlab _ e']
      simp [e]
  · have h1 : x'.L = x1.L := s7.L
    have h2 : x'.N = x1.N := s7.N
    rw [h1, hLN, h2, hN]
  · have h1 : x'.L = x1.L := s7.L
    rw [h1, hL, hla]
    unfold updL
    by_cases e : i = s
    · subst e; simp
    · have e' : ¬ ((i : Int) = (s : Int)) := by omega
      rw [if_neg (fun h => e' h.2), ← ok.live i]
      simp [e]
  · rw [hla] at h'
    unfold updL at h'
    have h2 : x'.N = x.N := s7.N.trans hN
    rw [h2]
    by_cases e : i = (s : Int)
    · rw [if_pos ⟨rfl, e⟩] at h'
      cases h'
      exact ⟨hl, s, e, hs⟩
    · rw [if_neg (fun h => e h.2)] at h'
      exact ok.lab i l' h'
set_option maxRecDepth 4000 in
theorem Put_c {w : World} {F : List Nat} {x : Px} (h : PxAt w F x) (ok : PxOk x) (slot : Int) {A : Option Addr} {n c : Nat} {l : List Lab} (hl : LIn w A n l) (hA : ∀ b ∈ ownF A, b ∉ F) {R : Ending → World → Prop}
    (k : ∀ w' F' x', Chz w w' F F' x x' (updL x.lab (putE x.N x.lab slot l) slot (some l)) → R (.returned (.int .i64 (putE x.N x.lab slot l))) w') :
    Calls Tryz.prog 8 #[.pointer (some ⟨x.q, 0, none⟩), .int .i64 slot, .slice A n c] w R := by
  apply posting_Index_Put_nf
  have hsm := h.small
  have bad : ∀ {e : Int} {w' : World}, putE x.N x.lab slot l = e → e ≠ 0 → Ext [] w w' → R (.returned (.int .i64 e)) w' := fun {e w'} he hne ew => by
    have := k w' F x (Chz.same h ok ew (by rw [he]; exact hne) _)
    rw [he] at this; exact this
  refine sel_false rfl (sel_dec (fun h0 => bad (by unfold putE; rw [if_pos (.inl h0)]) (by decide) (Ext.refl _ _)) (fun h0 => ptr_in ⟨_, cadd h.hdr rfl, sel_dec (fun h1 => bad (by unfold putE; rw [if_pos (.inr (by omega))]) (by decide) (Ext.refl _ _)) (fun h1 => ?_)⟩))
  obtain ⟨s, rfl⟩ : ∃ s : Nat, slot = s := ⟨slot.toNat, by omega⟩
  have hin : ¬ ((s : Int) < 0 ∨ (x.N : Int) ≤ (s : Int)) := by omega
  refine ptr_in ⟨_, live_c h, Has_c h.live.ref _ ⟨_, rfl, ?_⟩⟩
  rw [ok.has]
  refine sel_intro (fun h2 => bad (by unfold putE; rw [if_neg hin, if_pos h2]) (by decide) (Ext.refl _ _)) (fun h2 => ?_)
  have he : putE x.N x.lab (s : Int) l = (checkS l).2 := by unfold putE; rw [if_neg hin, if_neg (by rw [h2]; decide)]
  apply posting_listError_nf
  refine Check_c hl fun w13 e13 => ⟨_, _, rfl, _, rfl, sel_intro (fun h3 => bad he (by simpa using h3) e13) (fun h3 => ?_)⟩
  have h3 : (checkS l).2 = 0 := by simpa using h3
  have hok := checkS_zero.1 h3
  have h13 := h.ext0 e13
  have hlbF : x.lb ∈ F := h.covT _ (by simp [Px.tops])
  refine ptr_in ⟨_, live_c h13, Add_c h13.live (s : Int) fun w18 T b16 e18 s18 hTN hTm _ => ⟨_, rfl, ?_⟩⟩
  have h18 := h13.setLive e18 s18
  have E18 : Ext F w w18 := (e13.up (F := F)).trans' e18 (fun b hb => by simp at hb; subst hb; exact .inl hlbF)
  have hno : mget x.ls (s : Int) = none := by
    have : x.lab (s : Int) = none := by simpa using h2
    unfold Px.lab at this
    simpa using this
  have hbig := hl.big
  refine enter_c (x := { x with L := T }) h18 (s := s) (by show s < x.N; omega) (hl.c.ext E18 hA) hl.len hbig hA (E := x.E) ⟨ok.cols.ne, ok.cols.set, ok.cols.tell⟩ fun w' F' x' A' c' e' g' p' s7 oc => ⟨rfl, ?_⟩
  have hTm' : ∀ i : Nat, T.mem i = (x.L.mem i || decide (i = s)) := fun i => by
    rw [hTm]
    congr 1
    rw [decide_eq_decide]
    have := ok.LN
    omega
  obtain ⟨o', hlab⟩ := enter_ok (x1 := { x with L := T }) ok (by omega) hok rfl hno (fun i _ => rfl) s7 (hTN.trans ok.LN) hTm' (E := x.E) (fun k v i => Iff.rfl) oc
  have e18s : w.heap.size ≤ w18.heap.size := E18.size
  have := k w' F' x' ⟨E18.trans e', fun b hb => ?_, p', o', s7.q, s7.N, fun i => by rw [hlab, he, h3]⟩
  · rw [he, h3] at this; exact this
  · rcases g' b hb with h4 | h4
    · exact .inl h4
    · exact .inr (by omega)
/-- What leave leaves. -/
theorem leave_ok {x x' : Px} (ok : PxOk x) {s : Nat} {t : Ent} (hg : mget x.ls (s : Int) = some t) (hnd : (mkeys x.ls).Nodup) (s7 : Same7 { x with ls := mdel x.ls (s : Int) } x') (oc : ColsOk x' (fun k v i => x.E k v i ∧ ¬ ((k, v) ∈ t.l ∧ i = s))) :
    (∀ i, x'.lab i = updL x.lab 0 s none i) ∧ ColsOk x' x'.E := by
  have hla : ∀ i, x'.lab i = updL x.lab 0 s none i := fun i => by
    rw [lab_mget s7.ls, mget_mdel hnd]
    unfold updL
    by_cases e : i = (s : Int)
    · rw [if_pos e.symm, if_pos ⟨rfl, e⟩]; rfl
    · rw [if_neg (fun h => e h.symm), if_neg (fun h => e h.2)]; rfl
  refine ⟨hla, oc.mono fun k v i => ?_⟩
  unfold Px.E
  rw [hla]
  unfold updL
  by_cases e : i = s
  · subst e
    have h0 : x.lab (i : Int) = some t.l := by rw [lab_mget rfl, hg]; rfl
    rw [h0]
    simp
  · have e' : ¬ ((i : Int) = (s : Int)) := by omega
    rw [if_neg (fun h => e' h.2)]
    simp [e]
theorem Px.live_ent {x : Px} {s : Nat} (h : (x.lab (s : Int)).isSome = true) : ∃ t, mget x.ls (s : Int) = some t ∧ x.lab (s : Int) = some t.l := by
  unfold Px.lab at h ⊢
  cases hg : mget x.ls (s : Int) with
  | none => rw [hg] at h; cases h
  | some t => exact ⟨t, rfl, rfl⟩
theorem leave_d {w : World} {F : List Nat} {x : Px} (h : PxAt w F x) (ok : PxOk x) {s : Nat} (hl : (x.lab (s : Int)).isSome = true) {R : Ending → World → Prop}
    (k : ∀ w' F' x' t, Ext F w w' → Grow w F F' → PxAt w' F' x' → Same7 { x with ls := mdel x.ls (s : Int) } x' → (∀ i, x'.lab i = updL x.lab 0 s none i) → ColsOk x' x'.E → x.lab (s : Int) = some t → R (.returned undef) w') :
    Calls Tryz.prog 31 #[.pointer (some ⟨x.q, 0, none⟩), .int .i64 (s : Int)] w R := by
  obtain ⟨t, hg, hlt⟩ := Px.live_ent hl
  obtain ⟨okl, _⟩ := ok.lab _ _ hlt
  have hn := (h.ent _ (mget_some hg)).2
  have hlen := okl.len
  refine leave_c h hg ok.cols (fun y hy => ⟨t.l, hlt, hy⟩) (ris_nodup okl.ris) (by
    have : t.l.length = t.n := hn
    omega) fun w' F' x' e g p s7 oc => ?_
  obtain ⟨h1, h2⟩ := leave_ok ok hg h.lists.nodup s7 oc
  exact k w' F' x' t.l e g p s7 h1 h2 hlt
set_option maxRecDepth 4000 in
theorem Set_c {w : World} {F : List Nat} {x : Px} (h : PxAt w F x) (ok : PxOk x) (slot : Int) {A : Option Addr} {n c : Nat} {l : List Lab} (hl : LIn w A n l) (hA : ∀ b ∈ ownF A, b ∉ F) (hA2 : ∀ b ∈ ownF A, b < w.heap.size) {R : Ending → World → Prop}
    (k : ∀ w' F' x', Chz w w' F F' x x' (updL x.lab (setE x.N x.lab slot l) slot (some l)) → R (.returned (.int .i64 (setE x.N x.lab slot l))) w') :
    Calls Tryz.prog 9 #[.pointer (some ⟨x.q, 0, none⟩), .int .i64 slot, .slice A n c] w R := by
  apply posting_Index_Set_nf
  have hsm := h.small
  have bad : ∀ {e : Int} {w' : World}, setE x.N x.lab slot l = e → e ≠ 0 → Ext [] w w' → R (.returned (.int .i64 e)) w' := fun {e w'} he hne ew => by
    have := k w' F x (Chz.same h ok ew (by rw [he]; exact hne) _)
    rw [he] at this; exact this
  refine sel_false rfl (sel_dec (fun h0 => bad (by unfold setE; rw [if_pos (.inl h0)]) (by decide) (Ext.refl _ _)) (fun h0 => ptr_in ⟨_, cadd h.hdr rfl, sel_dec (fun h1 => bad (by unfold setE; rw [if_pos (.inr (by omega))]) (by decide) (Ext.refl _ _)) (fun h1 => ?_)⟩))
  obtain ⟨s, rfl⟩ : ∃ s : Nat, slot = s := ⟨slot.toNat, by omega⟩
  have hin : ¬ ((s : Int) < 0 ∨ (x.N : Int) ≤ (s : Int)) := by omega
  refine ptr_in ⟨_, live_c h, Has_c h.live.ref _ ⟨_, rfl, ?_⟩⟩
  rw [ok.has]
  refine sel_intro (fun h2 => bad (by unfold setE; rw [if_neg hin, if_neg (by simpa using h2)]) (by decide) (Ext.refl _ _)) (fun h2 => ?_)
  have h2 : (x.lab (s : Int)).isSome = true := nt_ h2
  have he : setE x.N x.lab (s : Int) l = (checkS l).2 := by unfold setE; rw [if_neg hin, if_pos h2]
  apply posting_listError_nf
  refine Check_c hl fun w13 e13 => ⟨_, _, rfl, _, rfl, sel_intro (fun h3 => bad he (by simpa using h3) e13) (fun h3 => ?_)⟩
  have h3 : (checkS l).2 = 0 := by simpa using h3
  have hok := checkS_zero.1 h3
  refine leave_d (h.ext0 e13) ok h2 fun w15 F5 x5 t e15 g15 p15 s75 lab15 oc15 hlt => ⟨rfl, ?_⟩
  have E15 : Ext F w w15 := (e13.up (F := F)).trans e15
  have z13 := e13.size
  have hA5 : ∀ b ∈ ownF A, b ∉ F5 := fun b hb hm => by
    rcases g15 b hm with h4 | h4
    · exact hA b hb h4
    · have := hA2 b hb; omega
  have hN5 : x5.N = x.N := s75.N
  have hq5 : x5.q = x.q := s75.q
  have hL5 : x5.L = x.L := s75.L
  rw [← hq5]
  refine enter_c p15 (s := s) (by omega) (hl.c.ext E15 hA) hl.len hl.big hA5 oc15 fun w' F' x' A' c' e' g' p' s7 oc => ⟨rfl, ?_⟩
  have hno : mget x5.ls (s : Int) = none := by
    have h4 := lab15 s
    unfold updL at h4
    rw [if_pos ⟨rfl, rfl⟩] at h4
    unfold Px.lab at h4
    simpa using h4
  obtain ⟨o', hlab⟩ := enter_ok (x1 := x5) ok (by omega) hok hN5 hno (fun i hi => by rw [lab15]; unfold updL; rw [if_neg (fun h => hi h.2)]) s7 (by rw [hL5]; exact ok.LN) (fun i => by
    rw [hL5]
    by_cases e : i = s
    · subst e; rw [(ok.live i).2 ⟨t, hlt⟩]; rfl
    · simp [e]) (fun k v i => Iff.rfl) oc
  have z15 := E15.size
  have := k w' F' x' ⟨E15.trans' e' (fun b hb => ?_), fun b hb => ?_, p', o', s7.q.trans hq5, s7.N.trans hN5, fun i => by rw [hlab, he, h3]⟩
  · rw [he, h3] at this; exact this
  · rcases g15 b hb with h4 | h4
    · exact .inl h4
    · exact .inr (by omega)
  · rcases g' b hb with h4 | h4
    · rcases g15 b h4 with h5 | h5
      · exact .inl h5
      · exact .inr (by omega)
    · exact .inr (by omega)
set_option maxRecDepth 4000 in
theorem Drop_c {w : World} {F : List Nat} {x : Px} (h : PxAt w F x) (ok : PxOk x) (slot : Int) {R : Ending → World → Prop}
    (k : ∀ w' F' x', Chz w w' F F' x x' (updL x.lab (dropE x.N x.lab slot) slot none) → R (.returned (.int .i64 (dropE x.N x.lab slot))) w') :
    Calls Tryz.prog 67 #[.pointer (some ⟨x.q, 0, none⟩), .int .i64 slot] w R := by
  apply posting_Index_Drop_nf
  have hsm := h.small
  have bad : ∀ {e : Int} {w' : World}, dropE x.N x.lab slot = e → e ≠ 0 → Ext [] w w' → R (.returned (.int .i64 e)) w' := fun {e w'} he hne ew => by
    have := k w' F x (Chz.same h ok ew (by rw [he]; exact hne) _)
    rw [he] at this; exact this
  refine sel_false rfl (sel_dec (fun h0 => bad (by unfold dropE; rw [if_pos (.inl h0)]) (by decide) (Ext.refl _ _)) (fun h0 => ptr_in ⟨_, cadd h.hdr rfl, sel_dec (fun h1 => bad (by unfold dropE; rw [if_pos (.inr (by omega))]) (by decide) (Ext.refl _ _)) (fun h1 => ?_)⟩))
  obtain ⟨s, rfl⟩ : ∃ s : Nat, slot = s := ⟨slot.toNat, by omega⟩
  have hin : ¬ ((s : Int) < 0 ∨ (x.N : Int) ≤ (s : Int)) := by omega
  refine ptr_in ⟨_, live_c h, Has_c h.live.ref _ ⟨_, rfl, ?_⟩⟩
  rw [ok.has]
  refine sel_intro (fun h2 => bad (by unfold dropE; rw [if_neg hin, if_neg (by simpa using h2)]) (by decide) (Ext.refl _ _)) (fun h2 => ?_)
  have h2 : (x.lab (s : Int)).isSome = true := nt_ h2
  have he : dropE x.N x.lab (s : Int) = 0 := by unfold dropE; rw [if_neg hin, if_pos h2]
  refine leave_d h ok h2 fun w15 F5 x5 t e15 g15 p15 s75 lab15 oc15 hlt => ⟨rfl, ?_⟩
  have hN5 : x5.N = x.N := s75.N
  have hq5 : x5.q = x.q := s75.q
  have hL5 : x5.L = x.L := s75.L
  have hlbF : x5.lb ∈ F5 := p15.covT _ (by simp [Px.tops])
  rw [← hq5]
  refine ptr_in ⟨_, live_c p15, Remove_c p15.live (s : Int) fun w16 T b14 e16 s16 hTN hTm _ => ⟨_, rfl, ?_⟩⟩
  have hTm' : ∀ j : Nat, T.mem j = (x.L.mem j && !decide (j = s)) := fun j => by
    rw [hTm, hL5]
    congr 2
    rw [decide_eq_decide]; omega
  have hla : ∀ i, ({ x5 with L := T } : Px).lab i = updL x.lab 0 s none i := lab15
  have z15 := e15.size
  have := k w16 F5 { x5 with L := T } ⟨e15.trans' e16 (fun b hb => ?_), g15, p15.setLive e16 s16, ⟨⟨oc15.ne, oc15.set, oc15.tell⟩, ?_, fun i => ?_, fun i l' h' => ?_⟩, hq5, hN5, fun i => by rw [he]; exact hla i⟩
  · rw [he] at this; exact this
  · simp at hb; subst hb
    rcases g15 _ hlbF with h4 | h4
    · exact .inl h4
    · exact .inr (by omega)
  · show T.N = x5.N
    rw [hTN, hL5, ok.LN, hN5]
  · show T.mem i = true ↔ _
    rw [hTm', hla]
    unfold updL
    by_cases e : i = s
    · subst e; simp
    · have e' : ¬ ((i : Int) = (s : Int)) := by omega
      rw [if_neg (fun h => e' h.2), ← ok.live i]
      simp [e]
  · rw [hla] at h'
    unfold updL at h'
    show _ ∧ ∃ j : Nat, i = j ∧ j < x5.N
    rw [hN5]
    by_cases e : i = (s : Int)
    · rw [if_pos ⟨rfl, e⟩] at h'; cases h'
    · rw [if_neg (fun h => e h.2)] at h'
      exact ok.lab i l' h'
theorem New_c {N : Nat} (hN : N ≤ 65536) {w : World} {R : Ending → World → Prop}
    (k : ∀ w' F x, Ext [] w w' → (∀ b ∈ F, w.heap.size ≤ b) → PxAt w' F x → PxOk x → x.N = N → (∀ i, x.lab i = none) → R (.returned (.tuple #[.pointer (some ⟨x.q, 0, none⟩), .int .i64 0])) w') :
    Calls Tryz.prog 6 #[.int .i64 (N : Int)] w R := by
  apply posting_New_nf
  refine New_ok hN fun p bw w5 e5 hp hb hs => ⟨_, _, rfl, sel_false rfl fun w6 h6 w7 h7 w8 h8 => ?_⟩
  have z5 := e5.size
  have hp5 := hs.hdr.lt
  have hb5 := hs.wrd.lt
  have x6 : Ext [] w5 w6 := by rw [h6]; exact (Ext.refl _ _).alloc _
  have z6 : w6.heap.size = w5.heap.size + 1 := by rw [h6, World.size_alloc]
  have m6 : MapAt w6 w5.heap.size (Value.int .i64) entV [] := by rw [h6]; exact MapAt.new _ _ _
  have x7 : Ext [] w6 w7 := by rw [h7]; exact (Ext.refl _ _).alloc _
  have z7 : w7.heap.size = w6.heap.size + 1 := by rw [h7, World.size_alloc]
  have m7 : MapAt w7 w6.heap.size Value.string mapV [] := by rw [h7]; exact MapAt.new _ _ _
  obtain ⟨b8, x8, z8⟩ := box_new (cs := [.int .i64 (N : Int), .pointer (some ⟨p, 0, none⟩), .map (some w5.heap.size), .map (some w6.heap.size)]) h8
  have hne := hs.ne
  have em : ∀ i : Nat, (⟨N, List.replicate ((N + 63) / 64) 0⟩ : SetV).mem i = false := fun i => by
    simp [SetV.mem, List.getD_eq_getElem?_getD, List.getElem?_replicate]
    split <;> simp
  let x : Px := ⟨w7.heap.size, N, p, bw, ⟨N, List.replicate ((N + 63) / 64) 0⟩, w5.heap.size, w6.heap.size, [], fun _ => none⟩
  have hnd : x.tops.Nodup := by
    show [w7.heap.size, p, bw, w5.heap.size, w6.heap.size].Nodup
    simp only [List.nodup_cons, List.mem_cons, List.not_mem_nil, or_false, not_or, not_false_eq_true, List.nodup_nil, and_true]
    omega
  have E8 : Ext [] w w8 := ((e5.trans x6).trans x7).trans x8
  have hE : ∀ b ∈ x.tops, w.heap.size ≤ b ∧ b < w8.heap.size := fun b hb => by
    have hb : b ∈ [w7.heap.size, p, bw, w5.heap.size, w6.heap.size] := hb
    simp only [List.mem_cons, List.not_mem_nil, or_false] at hb
    rcases hb with rfl | rfl | rfl | rfl | rfl <;> omega
  refine k w8 x.tops x E8 (fun b hb => (hE b hb).1) ⟨b8, ((hs.ext0 x6).ext0 x7).ext0 x8, (m6.ext0 x7).ext0 x8, fun y hy => (by cases hy), ⟨[], m7.ext0 x8, fun k => rfl⟩, fun k C hk => (by cases hk), hN, hnd, fun k C hk => (by cases hk), fun k k' C C' hk => (by cases hk), fun y hy => (by cases hy), fun b hb => hb, fun k C hk => (by cases hk), fun y hy => (by cases hy), fun b hb => (hE b hb).2⟩
    ⟨⟨fun k C hk => (by cases hk), fun k v s hk => (by cases hk), fun k v i => ⟨fun ⟨s, hk, _⟩ => (by cases hk), fun ⟨l, hk, _⟩ => (by cases hk)⟩⟩, rfl, fun i => ⟨fun hi => (by rw [em i] at hi; cases hi), fun ⟨l, hk⟩ => (by cases hk)⟩, fun i l hk => (by cases hk)⟩ rfl (fun i => rfl)
theorem New_no {n : Int} (h : n < 0 ∨ 65536 < n) {w : World} {R : Ending → World → Prop} (k : R (.returned (.tuple #[.pointer none, .int .i64 11])) w) : Calls Tryz.prog 6 #[.int .i64 n] w R := by
  apply posting_New_nf
  exact New_bad h ⟨_, _, rfl, sel_true rfl k⟩
theorem Put_nil {slot : Int} {w : World} {A : Option Addr} {n c : Nat} {R : Ending → World → Prop} (k : R (.returned (.int .i64 1)) w) : Calls Tryz.prog 8 #[.pointer none, .int .i64 slot, .slice A n c] w R := by
  apply posting_Index_Put_nf
  exact sel_true rfl k
theorem Set_nil {slot : Int} {w : World} {A : Option Addr} {n c : Nat} {R : Ending → World → Prop} (k : R (.returned (.int .i64 1)) w) : Calls Tryz.prog 9 #[.pointer none, .int .i64 slot, .slice A n c] w R := by
  apply posting_Index_Set_nf
  exact sel_true rfl k
theorem Drop_nil {slot : Int} {w : World} {R : Ending → World → Prop} (k : R (.returned (.int .i64 1)) w) : Calls Tryz.prog 67 #[.pointer none, .int .i64 slot] w R := by
  apply posting_Index_Drop_nf
  exact sel_true rfl k
end Go.Proofs.YtpipenkaaodlgaaGreatDoor
