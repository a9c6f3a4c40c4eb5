/- Posting: PostingRefused, the walk. -/
import Derived.Test.YtpipenkaaodlgaaDoorZ10
set_option linter.unusedVariables false
set_option linter.unusedSimpArgs false
namespace Go.Proofs.YtpipenkaaodlgaaDoor
open Go Go.V Go.B

theorem Chz.then {w1 w2 w3 : World} {F1 F2 F3 : List Nat} {x1 x2 x3 : Px} {f g : LabF} (a : Chz w1 w2 F1 F2 x1 x2 f) (b : Chz w2 w3 F2 F3 x2 x3 g) : Chz w1 w3 F1 F3 x1 x3 g :=
  ⟨a.ex.trans' b.ex (fun c hc => a.gr c hc), a.gr.trans b.gr a.ex.size, b.at_, b.ok, b.q.trans a.q, b.N.trans a.N, b.lab⟩
theorem Chz.ext0 {w1 w2 w3 : World} {F1 F2 : List Nat} {x1 x2 : Px} {f : LabF} (a : Chz w1 w2 F1 F2 x1 x2 f) (e : Ext [] w2 w3) : Chz w1 w3 F1 F2 x1 x2 f := ⟨a.ex.then e, a.gr, a.at_.ext0 e, a.ok, a.q, a.N, a.lab⟩
theorem Chz.refl {w : World} {F : List Nat} {x : Px} (h : PxAt w F x) (ok : PxOk x) : Chz w w F F x x x.lab := ⟨Ext.refl _ _, Grow.refl _ _, h, ok, rfl, rfl, fun _ => rfl⟩
theorem updL_no {f : LabF} {e slot : Int} {o : Option (List Lab)} (h : e ≠ 0) : updL f e slot o = f := by
  funext i
  unfold updL
  rw [if_neg (fun hh => h hh.1)]
theorem Chz.labf {w1 w2 : World} {F1 F2 : List Nat} {x1 x2 : Px} {f : LabF} (a : Chz w1 w2 F1 F2 x1 x2 f) : x2.lab = f := funext a.lab
theorem LIn.ext' {F : List Nat} {w w' : World} {A : Option Addr} {n : Nat} {l : List Lab} (h : LIn w A n l) (e : Ext F w w') (hA : ∀ b ∈ ownF A, b ∉ F) : LIn w' A n l := ⟨h.c.ext e hA, h.len, h.sz, h.big⟩
/-- Copied, put in, and the error's number. -/
theorem lput_c {w : World} {F : List Nat} {x : Px} (h : PxAt w F x) (ok : PxOk x) (slot : Int) {A : Option Addr} {n c : Nat} {l : List Lab} (hl : LIn w A n l) {K : Int → World → Prop}
    (k : ∀ w' F' x', Chz w w' F F' x x' (updL x.lab (putE x.N x.lab slot l) slot (some l)) → K (putE x.N x.lab slot l) w') :
    Calls Tryd.prog 10 #[.slice A n c] w fun e w' => ∃ A', ∃ l', ∃ c', e = .returned (.slice A' l' c') ∧ Calls Tryd.prog 9 #[.pointer (some ⟨x.q, 0, none⟩), .int .i64 slot, .slice A' l' c'] w' fun e w'' => ∃ m, e = .returned (.int .i64 m) ∧ Calls Tryd.prog 8 #[.int .i64 m] w'' fun e w3 => ∃ m', e = .returned (.int .i64 m') ∧ K m' w3 := by
  refine labels_c hl.c hl.len (by have := hl.big; omega) fun w1 A' c' e1 own => ⟨_, _, _, rfl, ?_⟩
  have gb := own.base
  refine Put_c (h.ext0 e1) ok slot ⟨own.cells, hl.len, hl.sz, hl.big⟩ (fun b hb hm => by have := gb b hb; have := h.lt b hm; omega) fun w2 F' x' ch => ⟨_, rfl, num_c _ ⟨_, rfl, k w2 F' x' ?_⟩⟩
  exact ⟨e1.up.trans ch.ex, fun b hb => (ch.gr b hb).imp id (fun h => by have := e1.size; omega), ch.at_, ch.ok, ch.q, ch.N, ch.lab⟩
theorem lset_c {w : World} {F : List Nat} {x : Px} (h : PxAt w F x) (ok : PxOk x) (slot : Int) {A : Option Addr} {n c : Nat} {l : List Lab} (hl : LIn w A n l) {K : Int → World → Prop}
    (k : ∀ w' F' x', Chz w w' F F' x x' (updL x.lab (setE x.N x.lab slot l) slot (some l)) → K (setE x.N x.lab slot l) w') :
    Calls Tryd.prog 10 #[.slice A n c] w fun e w' => ∃ A', ∃ l', ∃ c', e = .returned (.slice A' l' c') ∧ Calls Tryd.prog 11 #[.pointer (some ⟨x.q, 0, none⟩), .int .i64 slot, .slice A' l' c'] w' fun e w'' => ∃ m, e = .returned (.int .i64 m) ∧ Calls Tryd.prog 8 #[.int .i64 m] w'' fun e w3 => ∃ m', e = .returned (.int .i64 m') ∧ K m' w3 := by
  refine labels_c hl.c hl.len (by have := hl.big; omega) fun w1 A' c' e1 own => ⟨_, _, _, rfl, ?_⟩
  have gb := own.base
  refine Set_c (h.ext0 e1) ok slot ⟨own.cells, hl.len, hl.sz, hl.big⟩ (fun b hb hm => by have := gb b hb; have := h.lt b hm; omega) (fun b hb => (gb b hb).2) fun w2 F' x' ch => ⟨_, rfl, num_c _ ⟨_, rfl, k w2 F' x' ?_⟩⟩
  exact ⟨e1.up.trans ch.ex, fun b hb => (ch.gr b hb).imp id (fun h => by have := e1.size; omega), ch.at_, ch.ok, ch.q, ch.N, ch.lab⟩
theorem dash_bad (l : List Lab) : (checkS (l ++ [((⟨#[45]⟩, ⟨#[120]⟩) : Lab)])).2 ≠ 0 := fun h => by
  have h1 := (checkS_zero.1 h).key (⟨#[45]⟩, ⟨#[120]⟩) (by simp)
  exact absurd h1 (by decide)
theorem putE_bad {N : Nat} {f : LabF} {slot : Int} {l : List Lab} (h : (checkS l).2 ≠ 0) : putE N f slot l ≠ 0 := by
  unfold putE
  split
  · decide
  · split
    · decide
    · exact h
theorem setE_bad {N : Nat} {f : LabF} {slot : Int} {l : List Lab} (h : (checkS l).2 ≠ 0) : setE N f slot l ≠ 0 := by
  unfold setE
  split
  · decide
  · split
    · exact h
    · decide
theorem strict_eq {a b : List ByteArray} (ha : Strict a) (hb : Strict b) (h : ∀ k, k ∈ a ↔ k ∈ b) : a = b := by
  have nd : ∀ {l : List ByteArray}, Strict l → l.Nodup := fun hs => hs.imp fun h e => by rw [e] at h; exact List.lt_irrefl _ h
  have hp : a.Perm b := (List.perm_ext_iff_of_nodup (nd ha) (nd hb)).2 h
  exact List.Perm.eq_of_pairwise (le := fun a b : ByteArray => bs a < bs b) (fun a b _ _ h1 h2 => absurd (List.lt_trans h1 h2) (List.lt_irrefl _)) ha hb hp
theorem keysP_eq {x y : Px} {a b : List ByteArray} (ha : KeysP x a) (hb : KeysP y b) (h : x.lab = y.lab) : a = b :=
  strict_eq ha.strict hb.strict fun k => by rw [ha.mem, hb.mem, h]
theorem valsP_eq {x y : Px} {key : ByteArray} {a b : List ByteArray} (ha : ValsP x key a) (hb : ValsP y key b) (h : x.lab = y.lab) : a = b :=
  strict_eq ha.strict hb.strict fun k => by rw [ha.mem, hb.mem, h]
theorem op_box {w : World} {o : POp} {w24 : World} (h : w24 = World.alloc w (.cells #[.int .i64 0, .int .i64 0, .int .i64 0, .slice none 0 0, .string ByteArray.empty, .string ByteArray.empty, .slice none 0 0] 29)) :
    ∃ w25, (Instr.storeAt 29 (.pointer (some ⟨w.heap.size, 0, none⟩)) (.agg #[.int .i64 o.kind, .int .i64 o.x, .int .i64 o.n, .slice o.A o.m o.c, .string o.key, .string o.value, .slice o.B o.m2 o.c2])).run Tryd.prog w24 = .ok () w25 ∧ BlkT w25 w.heap.size o.cells 29 ∧ Ext [] w w25 ∧ w.heap.size < w25.heap.size := by
  obtain ⟨b1, x1, z1⟩ := box_new (cs := [.int .i64 0, .int .i64 0, .int .i64 0, .slice none 0 0, .string ByteArray.empty, .string ByteArray.empty, .slice none 0 0]) h
  obtain ⟨w12, hr, b2, x2⟩ := storeW (P := Tryd.prog) (t := 29) (n := 7) (by kernel_rfl) b1 (vs := o.cells) rfl rfl o.one
  exact ⟨w12, hr, b2, x1.trans' x2 (fun b hb => .inr (by simp at hb; omega)), b2.lt⟩
set_option maxRecDepth 4000 in
theorem postingRefused_c {w : World} {A : Option Addr} {n c : Nat} {ops : List POp} (ho : OpsAt w A n ops) {R : Ending → World → Prop} (k : ∀ w', Ext [] w w' → R (.returned (.bool true)) w') :
    Calls Tryd.prog 3 #[.slice A n c] w R := by
  apply berthlaw07_PostingRefused_nf
  have hsz := ho.sz
  refine awake_c fun w4 e4 => ⟨_, rfl, sel_false rfl ?_⟩
  refine play_c (ho.ext0 e4) fun w7 F x e7 hF hx okx hNx hlx => ⟨_, rfl, play_c ((ho.ext0 e4).ext0 e7) fun w10 G y e10 hG hy oky hNy hly => ⟨_, rfl, sel_false rfl (sel_false rfl ?_)⟩⟩
  have hxy : x.lab = y.lab := hlx.trans hly.symm
  refine ⟨fun t w' => ∃ a : Nat, t = a ∧ a ≤ n ∧ ∃ F' x', Ext [] w w' ∧ (∀ b ∈ F', w.heap.size ≤ b) ∧ Chz w10 w' F F' x x' x.lab ∧ PxAt w' G y ∧ (∀ b ∈ F', b ∉ G), fun t _ => n - t.toNat, ⟨0, rfl, by omega, F, x, (e4.trans e7).trans e10, fun b hb => by have := hF b hb; have := e4.size; omega, Chz.refl (hx.ext0 e10) okx, hy, fun b hb hm => by have := hx.lt b hb; have := hG b hm; omega⟩, ?_⟩
  rintro _ _ w15 ⟨a, rfl, ha, F', x', e15, hF', ch, hyw, hdis⟩
  have hq : x'.q = x.q := ch.q
  have hN : x'.N = 100 := ch.N.trans hNx
  have hlab : x'.lab = x.lab := ch.labf
  rw [← hq]
  refine sel_dec (fun hlt => ?_) (fun hge => ?_)
  rotate_left
  · -- all steps done
    refine Keys_c (nilX_v w15) fun Ak nk ck ks wk ek ownk hk hn => ⟨_, _, _, rfl, ?_⟩
    have h0 : ks = [] := by
      rw [List.eq_nil_iff_forall_not_mem]
      intro z hz
      obtain ⟨i, l, v, h1, _⟩ := (hk.mem z).1 hz
      cases h1
    have hn0 : nk = 0 := by rw [← ownk.len, h0]; rfl
    subst hn0
    refine sel_true rfl (Same_c (nilX_v wk) (nilX_v wk) fun t wt et ht => ⟨_, rfl, ?_⟩)
    rw [ht.2 fun i => rfl]
    exact k wt ((e15.trans ek).trans et)
  have ho15 := ho.ext0 e15
  obtain ⟨o, ad, hoa, rfl, rd⟩ := ho15.read (a := a) (by omega)
  have hoin := ho15.in_ o (List.mem_of_getElem? hoa)
  have hoin0 := ho.in_ o (List.mem_of_getElem? hoa)
  refine when_dec ⟨by omega, by omega⟩ (ptr_in ⟨_, _, _, _, _, _, _, _, _, _, _, rd, fun w24 h24 => ?_⟩)
  obtain ⟨w25, hr25, b25, x25, z25⟩ := op_box (o := o) h24
  refine ⟨w25, hr25, ?_⟩
  have d26 : Ext [] w25 w25.drew := (Ext.refl _ _).drew
  have x26 : Ext [] w15 w25.drew := x25.trans d26
  have b26 := b25.ext0 d26
  have z26 : w15.heap.size < w25.drew.heap.size := z25
  generalize w25.drew = w26 at x26 b26 z26 ⊢
  have hin26 := hoin.ext0 x26
  refine ⟨fun w' => Ext [] w26 w', Ext.refl _ _, _, fun w' e => cadd (b26.ext0 e) rfl, _, _, _, fun w' e => cadd (b26.ext0 e) rfl, ?_⟩
  refine labels_c hin26.l.c hin26.l.len (by have := hin26.l.big; omega) fun w32 A1 c1 e32 own32 => ⟨_, _, _, rfl, e32, Put_nil ⟨_, rfl, e32, num_c _ ⟨_, rfl, e32, sel_false rfl ?_⟩⟩⟩
  refine ⟨_, fun w' e => cadd (b26.ext0 e) rfl, _, _, _, fun w' e => cadd (b26.ext0 e) rfl, ?_⟩
  refine labels_c (hin26.ext0 e32).l.c hin26.l.len (by have := hin26.l.big; omega) fun w43 A2 c2 e43 own43 => ⟨_, _, _, rfl, e32.trans e43, Set_nil ⟨_, rfl, e32.trans e43, num_c _ ⟨_, rfl, e32.trans e43, sel_false rfl ?_⟩⟩⟩
  refine ⟨_, fun w' e => cadd (b26.ext0 e) rfl, Drop_nil ⟨_, rfl, e32.trans e43, num_c _ ⟨_, rfl, e32.trans e43, sel_false rfl ?_⟩⟩⟩
  have e2643 := e32.trans e43
  have b43 := b26.ext0 e2643
  refine ⟨_, _, _, cadd b43 rfl, labels_c (hin26.ext0 e2643).l.c hin26.l.len (by have := hin26.l.big; omega) fun w60 A58 c58 e60 own60 => ⟨_, _, _, rfl, fun w61 h61 => ?_⟩⟩
  obtain ⟨b61, x61, z61⟩ := box_new (cs := LbL.enc ((⟨#[45]⟩, ⟨#[120]⟩) : Lab)) h61
  have gb60 := own60.base
  obtain ⟨A62, c62, w63, hr63, own63, e63, hF63⟩ := (OwnL.ext0 own60 x61).more (P := Tryd.prog) (ty := 26) (x := ((⟨#[45]⟩, ⟨#[120]⟩) : Lab)) uL infoL rfl (by omega) b61 (by have := e60.size; omega) (by have := hoin.lb; omega)
  have gb63 := own63.base
  refine ⟨_, _, _, w63, hr63, ?_⟩
  have z43 := e2643.size
  have z60 := e60.size
  have E63 : Ext [] w26 w63 := ((e2643.trans e60).trans x61).trans' e63 (fun b hb => .inr (by have := gb60 b hb; omega))
  have E15 : Ext [] w15 w63 := x26.trans E63
  have b63 := b26.ext0 E63
  have hx63 := ch.at_.ext0 E15
  have bad63 : LIn w63 A62 (o.m + 1) (o.l ++ [(⟨#[45]⟩, ⟨#[120]⟩)]) := by
    refine ⟨own63.cells, own63.len, fun z hz => ?_, ?_⟩
    · rcases List.mem_append.1 hz with hz | hz
      · exact hoin.l.sz z hz
      · simp at hz; subst hz; exact ⟨by decide, by decide⟩
    · have := hoin.lb; omega
  have hbx : w15.heap.size ∉ F' := fun hm => by have := ch.at_.lt _ hm; omega
  have hA62 : ∀ b ∈ ownF A62, b ∉ F' := fun b hb hm => by have := ch.at_.lt _ hm; have := gb63 b hb; omega
  have st := Int.tmod_lt_of_pos (a : Int) (b := 7) (by omega)
  have st0 : 0 ≤ Int.tmod (a : Int) 7 := Int.tmod_nonneg _ (by omega)
  generalize hst : Int.tmod (a : Int) 7 = r7 at st st0 ⊢
  refine ⟨fun slot w' => -1 ≤ slot ∧ slot ≤ 107 ∧ ∃ F2 x2, Chz w63 w' F' F2 x' x2 x.lab, fun slot _ => (108 - slot).toNat, ⟨by omega, by omega, F', x', by rw [← hlab]; exact Chz.refl hx63 ch.ok⟩, ?_⟩
  rintro slot _ w68 ⟨hs0, hs1, F2, x2, ch2⟩
  have hq2 : x2.q = x'.q := ch2.q
  have hN2 : x2.N = 100 := ch2.N.trans hN
  have hl2 : x2.lab = x.lab := ch2.labf
  have next : ∀ {w' : World} {F3 : List Nat} {x3 : Px}, slot ≤ 100 → Chz w63 w' F' F3 x' x3 x.lab → (-1 ≤ IntKind.wrap .i64 (slot + IntKind.wrap .i64 (1 + r7)) ∧ IntKind.wrap .i64 (slot + IntKind.wrap .i64 (1 + r7)) ≤ 107 ∧ ∃ F2 x2, Chz w63 w' F' F2 x' x2 x.lab) ∧ (108 - IntKind.wrap .i64 (slot + IntKind.wrap .i64 (1 + r7))).toNat < (108 - slot).toNat := fun {w' F3 x3} hs ch3 => by
    have q1 : IntKind.wrap .i64 (1 + r7) = 1 + r7 := w64 (by omega) (by omega)
    have q2 : IntKind.wrap .i64 (slot + (1 + r7)) = slot + (1 + r7) := w64 (by omega) (by omega)
    rw [q1, q2]
    exact ⟨⟨by omega, by omega, F3, x3, ch3⟩, by omega⟩
  rw [← hq2] at hq ⊢
  refine sel_dec (fun hs => ?_) (fun hs => ?_)
  · refine Of_c (PxV.of ch2.at_ ch2.ok) slot fun A69 n69 c69 w72 e72 own72 => ⟨_, _, _, _, rfl, ?_⟩
    have c72 := ch2.ext0 e72
    have hNt : ∀ {w' : World} {F3 : List Nat} {x3 : Px}, Chz w63 w' F' F3 x' x3 x.lab → x3.N = 100 ∧ x3.q = x'.q ∧ x3.lab = x.lab := fun c => ⟨c.N.trans hN, c.q, c.labf⟩
    have hq72 : x2.q = x'.q := hq2
    -- the spoilt list is refused
    refine lput_c c72.at_ c72.ok slot (bad63.ext' c72.ex hA62) fun w81 F3 x3 ch3 => sel_false (beq_false_of_ne (putE_bad (dash_bad o.l))) ?_
    rw [updL_no (putE_bad (dash_bad o.l)), hl2] at ch3
    have c81 := c72.then ch3
    have q81 := hNt c81
    rw [← ch3.q] at hq2 ⊢
    refine lset_c c81.at_ c81.ok slot (bad63.ext' c81.ex hA62) fun w90 F4 x4 ch4 => sel_false (beq_false_of_ne (setE_bad (dash_bad o.l))) ?_
    rw [updL_no (setE_bad (dash_bad o.l)), q81.2.2] at ch4
    have c90 := c81.then ch4
    have q90 := hNt c90
    rw [← ch4.q]
    have b90 := b63.ext c90.ex hbx
    have ho90 : LIn w90 o.A o.m o.l := hoin0.l.ext0 ((e15.trans E15).trans' c90.ex (fun b hb => .inr (hF' b hb)))
    cases hlv : x2.lab slot with
    | some lv =>
      refine sel_true rfl ⟨_, _, _, cadd b90 rfl, lput_c c90.at_ c90.ok slot ho90 fun w100 F5 x5 ch5 => ?_⟩
      obtain ⟨_, j, hj, hjN⟩ := c72.ok.lab _ _ hlv
      have he : putE x4.N x4.lab slot o.l = 70 := by
        unfold putE
        rw [q90.1, if_neg (by omega), q90.2.2, ← hl2, hlv]; rfl
      rw [he] at ch5 ⊢
      rw [updL_no (by decide), q90.2.2] at ch5
      exact sel_false rfl (sel_false rfl (next hs (c90.then ch5)))
    | none =>
      refine sel_false rfl (sel_true rfl (sel_dec (fun h0 => sel_dec (fun h1 => ?_) (fun h1 => next hs c90)) (fun h0 => next hs c90)))
      refine ⟨_, _, _, cadd b90 rfl, lset_c c90.at_ c90.ok slot ho90 fun w127 F5 x5 ch5 => ?_⟩
      have he : setE x4.N x4.lab slot o.l = 71 := by
        unfold setE
        rw [q90.1, if_neg (by omega), q90.2.2, ← hl2, hlv]; rfl
      rw [he] at ch5 ⊢
      rw [updL_no (by decide), q90.2.2] at ch5
      have c127 := c90.then ch5
      have q127 := hNt c127
      rw [← ch5.q]
      refine sel_false rfl (Drop_c c127.at_ c127.ok slot fun w133 F6 x6 ch6 => ⟨_, rfl, num_c _ ⟨_, rfl, ?_⟩⟩)
      have he : dropE x5.N x5.lab slot = 71 := by
        unfold dropE
        rw [q127.1, if_neg (by omega), q127.2.2, ← hl2, hlv]; rfl
      rw [he] at ch6 ⊢
      rw [updL_no (by decide), q127.2.2] at ch6
      exact sel_false rfl (next hs (c127.then ch6))
  · have hnil : ∀ W : World, LIn W none 0 [] := fun W => ⟨Cells.nil _ _, rfl, by simp, by omega⟩
    have hNt : ∀ {w' : World} {F3 : List Nat} {x3 : Px}, Chz w63 w' F' F3 x' x3 x.lab → x3.N = 100 ∧ x3.q = x'.q ∧ x3.lab = x.lab := fun c => ⟨c.N.trans hN, c.q, c.labf⟩
    refine Put_c ch2.at_ ch2.ok (-1) (hnil _) (by simp [ownF]) fun w143 F3 x3 ch3 => ⟨_, rfl, num_c _ ⟨_, rfl, ?_⟩⟩
    have he : putE x2.N x2.lab (-1) [] = 72 := by unfold putE; rw [if_pos (by omega)]
    rw [he] at ch3 ⊢
    rw [updL_no (by decide), hl2] at ch3
    have c3 := ch2.then ch3
    have q3 := hNt c3
    rw [← ch3.q]
    refine sel_false rfl (Set_c c3.at_ c3.ok 100 (hnil _) (by simp [ownF]) (by simp [ownF]) fun w149 F4 x4 ch4 => ⟨_, rfl, num_c _ ⟨_, rfl, ?_⟩⟩)
    have he : setE x3.N x3.lab 100 [] = 72 := by unfold setE; rw [q3.1, if_pos (by omega)]
    rw [he] at ch4 ⊢
    rw [updL_no (by decide), q3.2.2] at ch4
    have c4 := c3.then ch4
    have q4 := hNt c4
    rw [← ch4.q]
    have b4 := b63.ext c4.ex hbx
    have t1 := Int.tmod_lt_of_pos o.n (b := 100) (by omega)
    have t2 := Int.lt_tmod_of_pos o.n (b := 100) (by omega)
    refine sel_false rfl ⟨_, cadd b4 rfl, ?_⟩
    rw [w64 (by omega) (by omega)]
    refine Drop_c c4.at_ c4.ok _ fun w156 F5 x5 ch5 => ⟨_, rfl, num_c _ ⟨_, rfl, ?_⟩⟩
    have he : dropE x4.N x4.lab (Int.tmod o.n 100 + 200) = 72 := by unfold dropE; rw [q4.1, if_pos (by omega)]
    rw [he] at ch5 ⊢
    rw [updL_no (by decide), q4.2.2] at ch5
    have c5 := c4.then ch5
    have q5 := hNt c5
    rw [← ch5.q]
    refine sel_false rfl ?_
    have b5 := b63.ext c5.ex hbx
    have hyd : PxAt w156 G y := (hyw.ext0 E15).ext c5.ex (fun b hb hm => hdis b hm hb)
    have b6 := b5.ext0 ((Ext.refl _ _).drew)
    have hx6 := c5.ext0 ((Ext.refl _ _).drew)
    have hy6 := hyd.ext0 ((Ext.refl _ _).drew)
    generalize w156.drew = w160 at b6 hx6 hy6 ⊢
    have vx := PxV.of hx6.at_ hx6.ok
    have vy := PxV.of hy6 oky
    have hxy5 : x5.lab = y.lab := q5.2.2.trans hxy
    refine ⟨fun w' => Ext [] w160 w', Ext.refl _ _, Same_c vx vy fun t w164 e164 ht => ⟨_, rfl, e164, sel_false (by rw [ht.2 fun i => by rw [hxy5]]; rfl) ?_⟩⟩
    refine Keys_c (vx.ext0 e164) fun Aa na ca xs w167 e167 own167 hk1 hn1 => ⟨_, _, _, rfl, e164.trans e167, Keys_c ((vy.ext0 e164).ext0 e167) fun Ab nb cb ys w170 e170 own170 hk2 hn2 => ⟨_, _, _, rfl, (e164.trans e167).trans e170, ?_⟩⟩
    refine SameTexts_c (own167.ext0 e170).cells own167.len own170.cells own170.len (by omega) fun w173 e173 => ⟨_, rfl, ((e164.trans e167).trans e170).trans e173, sel_false (by rw [decide_eq_true (keysP_eq hk1 hk2 hxy5)]; rfl) ?_⟩
    have E173 := ((e164.trans e167).trans e170).trans e173
    refine ⟨_, fun w' e => cadd (b6.ext0 e) rfl, _, fun w' e => cadd (b6.ext0 e) rfl, ?_⟩
    refine HasP_c (vx.ext0 E173) _ fun p1 bw1 w178 S1 e178 _ _ hs1' hN1 hm1 => ⟨_, rfl, E173.trans e178, HasP_c ((vy.ext0 E173).ext0 e178) _ fun p2 bw2 w181 S2 e181 _ _ hs2' hN2' hm2 => ⟨_, rfl, (E173.trans e178).trans e181, ?_⟩⟩
    refine Equal_c (hs1'.ext0 e181).ref hs2'.ref fun t ht => ⟨_, rfl, (E173.trans e178).trans e181, sel_false ?_ ?_⟩
    · have : t = true := ht.2 fun i => by
        rw [Bool.eq_iff_iff, hm1, hm2, hxy5]
      rw [this]; rfl
    · have c6 := (hx6.ext0 E173).ext0 (e178.trans e181)
      rw [up64 a (by omega)]
      refine ⟨⟨a + 1, rfl, by omega, F5, x5, (e15.trans E15).trans' c6.ex (fun b hb => .inr (hF' b hb)), fun b hb => ?_, ?_, ?_, ?_⟩, by simp only [Int.toNat_natCast]; omega⟩
      · rcases c6.gr b hb with h1 | h1
        · exact hF' b h1
        · have := (e15.trans E15).size; omega
      · exact (ch.ext0 E15).then c6
      · exact (hy6.ext0 E173).ext0 (e178.trans e181)
      · intro b hb hm
        rcases c6.gr b hb with h1 | h1
        · exact hdis b h1 hm
        · have := (hyw.ext0 E15).lt b hm; omega
end Go.Proofs.YtpipenkaaodlgaaDoor
