/- Whatever scripts come in, berthlaw25.QueueAgain returns true and leaves what came in as it was. -/
import Derived.Test.YtfjgiaimlmnepaaQ11
import Derived.Test.YtfjgiaimlmnepaaRows
set_option linter.unusedVariables false
set_option linter.unusedSimpArgs false
namespace Go.Proofs.Ytfjgiaimlmnepaa
open Go Go.V Go.B
open Go.ChangeShapes Go.WideShapes Go.ChangeAt Go.RowKit

theorem own : ownKnob Try.prog.godebug = none := by kernel_rfl
theorem laidOut : laidOutB Try.prog = true := by kernel_rfl
theorem nodup_twice {α β : Type} {f : α → β} {xs : List α} {x : α} (h : x ∈ xs) : ¬ ((xs ++ [x]).map f).Nodup := by
  rw [List.map_append, List.nodup_append]
  intro hn
  exact hn.2.2 (f x) (List.mem_map_of_mem h) (f x) (by simp) rfl
set_option maxRecDepth 2000 in
theorem queueAgain_c {W : World} {A : Option Addr} {n c : Nat} {ops : List Op} (ho : OpsAt W A n ops) {A2 : Option Addr} {n2 c2 : Nat} {ops2 : List Op} (ho2 : OpsAt W A2 n2 ops2) (hnc2 : n2 ≤ c2) {R : Ending → World → Prop} (k : ∀ w', Ext [] W w' → R (.returned (.bool true)) w') :
    Calls Try.prog 8 #[.slice A n c, .slice A2 n2 c2] W R := by
  apply berthlaw25_QueueAgain_nf
  have hb2 := ho2.2.2.2
  refine awake_c fun w1 e1 => ⟨_, rfl, sel_false rfl (New_c fun p f w2 e2 q2 hf => ⟨_, rfl, play_c (s := ⟨[], 0⟩) q2 ho (e1.trans e2) (fun b hb => Nat.le_trans e1.size (hf b hb)) fun w3 f3 q3 e3 g3 => ⟨rfl, ?_⟩⟩)⟩
  have hf0 : ∀ b ∈ f, W.heap.size ≤ b := fun b hb => Nat.le_trans e1.size (hf b hb)
  have t2 : Ext [] W w2 := e1.trans e2
  have t3 : Ext [] W w3 := Ext.old t2 hf0 e3
  have hf3 : ∀ b ∈ f3, W.heap.size ≤ b := Grow.old t2 hf0 g3
  obtain ⟨m, inv⟩ := q3.inv
  generalize playV ⟨[], 0⟩ ops = s at q3 inv ⊢
  have hlen := inv.len
  refine List_c q3 fun L lc w4 e4 own4 => ⟨_, _, _, rfl, List_c (q3.ext0 e4) fun L5 lc5 w5 e5 own5 => ⟨_, _, _, rfl, Next_c ((q3.ext0 e4).ext0 e5) ⟨_, rfl, ?_⟩⟩⟩
  have q5 := (q3.ext0 e4).ext0 e5
  have ownL5 := OwnW.ext0 own4 e5
  refine Restore_c own5.cells own5.len s.next (fun h => absurd inv.valid h) (fun _ w6 p' g e6 q6' hg => ⟨_, _, rfl, sel_false rfl (num_c _ ⟨_, rfl, sel_false rfl ?_⟩)⟩)
  have q6 : At w6 w5.heap.size p' g s := q6'
  have r6 := q5.ext0 e6
  refine Next_c q6 ⟨_, rfl, Next_c r6 ⟨_, rfl, sel_false (by simp) (List_c q6 fun L7 lc7 w7 e7 own7 => ⟨_, _, _, rfl, ?_⟩)⟩⟩
  have ownL7 := (ownL5.ext0 e6).ext0 e7
  refine SameRows_c own7.cells own7.len ownL7.cells ownL7.len (by omega) (fun _ w8 e8 => ⟨_, rfl, sel_false rfl ?_⟩) (fun h => absurd rfl h)
  have t8 := ((((t3.trans e4).trans e5).trans e6).trans e7).trans e8
  have hLf : ∀ b ∈ ownF L, b ∉ f3 ∧ b ∉ g := fun b hb => by
    have h1 := own4.base b hb
    exact ⟨fun hm => by have := q3.lt b hm; omega, fun hm => by have := hg b hm; have := e5.size; omega⟩
  have hgf : ∀ b ∈ g, b ∉ f3 := fun b hb hm => by
    have h1 := hg b hb
    have h2 := q5.lt b hm
    omega
  refine ⟨fun t w' => ∃ (a : Nat) (f g : List Nat) (z : QS), t = a ∧ a ≤ n2 ∧ At w' w1.heap.size p f z ∧ At w' w5.heap.size p' g z ∧ Ext [] W w' ∧ (∀ b ∈ f, W.heap.size ≤ b) ∧ (∀ b ∈ g, W.heap.size ≤ b) ∧ (∀ b ∈ g, b ∉ f) ∧ OwnW w' w3.heap.size L s.xs.length lc s.xs ∧ (∀ b ∈ ownF L, b ∉ f ∧ b ∉ g),
    fun t _ => n2 - t.toNat, ⟨0, f3, g, s, rfl, by omega, (r6.ext0 e7).ext0 e8, (q6.ext0 e7).ext0 e8, t8, hf3, fun b hb => by have := hg b hb; have := t3.size; have := e4.size; have := e5.size; omega, hgf, ownL7.ext0 e8, hLf⟩, ?_⟩
  rintro _ _ w9 ⟨a, f9, g9, z, rfl, ha, q9, r9, t9, hf9, hg9, hgf9, ownL9, hL9⟩
  obtain ⟨mz, invz⟩ := q9.inv
  have hzl := invz.len
  refine sel_dec (fun hlt => ?_) (fun hge => ?_)
  · have hlt : a < n2 := by omega
    obtain ⟨o, ad, hoa, rfl, rd⟩ := (ho2.ext0 t9).read (a := a) hlt
    refine when_dec ⟨by omega, by omega⟩ (ptr_in ⟨_, _, _, _, _, _, _, rd, fun w10 h10 => ?_⟩)
    obtain ⟨w11, hr11, b11, e11⟩ := op_box (o := o) h10
    refine ⟨w11, hr11, ?_⟩
    rw [up64 a (by omega)]
    simp only [Int.toNat_natCast, show a + 1 - a = 1 by omega]
    have one := ho2.one (c := c2) hoa hnc2
    have q11 := q9.ext0 e11
    have r11 := r9.ext0 e11
    have t11 := t9.trans e11
    have hLlt : ∀ b ∈ ownF L, b < w9.heap.size := fun b hb => (ownL9.base b hb).2
    refine when_dec ⟨by omega, by omega⟩ (when_dec ⟨by omega, by omega⟩ (play_c q11 one t11 hf9 fun w12 f12 q12 e12 gr12 => ⟨rfl, ?_⟩))
    have t12 := Ext.old t11 hf9 e12
    have r12 := r11.ext e12 hgf9
    have hgf12 : ∀ b ∈ f12, b ∉ g9 := gr12.apart r11.lt (fun b hb hm => hgf9 b hm hb)
    refine when_dec ⟨by omega, by omega⟩ (when_dec ⟨by omega, by omega⟩ (play_c r12 one t12 hg9 fun w13 g13 r13 e13 gr13 => ⟨rfl, ?_⟩))
    have t13 := Ext.old t12 hg9 e13
    have q13 := q12.ext e13 hgf12
    have hgf13 : ∀ b ∈ g13, b ∉ f12 := gr13.apart q12.lt (fun b hb hm => hgf12 b hm hb)
    have hbox9 : w9.heap.size ∉ f9 := fun hm => by have := q9.lt _ hm; omega
    have hboxg : w9.heap.size ∉ g9 := fun hm => by have := r9.lt _ hm; omega
    have b13 := (b11.ext e12 hbox9).ext e13 hboxg
    have ownL13 := ((ownL9.ext0 e11).ext e12 (fun b hb => (hL9 b hb).1)).ext e13 (fun b hb => (hL9 b hb).2)
    have hL13 : ∀ b ∈ ownF L, b ∉ f12 ∧ b ∉ g13 := fun b hb => by
      have h1 := hLlt b hb
      have h2 := e11.size
      have h3 := e12.size
      refine ⟨fun hm => ?_, fun hm => ?_⟩
      · rcases gr12 b hm with h | h
        · exact (hL9 b hb).1 h
        · omega
      · rcases gr13 b hm with h | h
        · exact (hL9 b hb).2 h
        · omega
    have hf12 := Grow.old t11 hf9 gr12
    have hg13 := Grow.old t12 hg9 gr13
    rw [play_one] at q13 r13
    obtain ⟨my, invy⟩ := q13.inv
    generalize stepV z o = y at q13 r13 invy
    have hyl := invy.len
    refine ⟨_, cadd b13 rfl, Ready_c q13 o.now fun w14 e14 => ⟨_, _, rfl, _, cadd (b13.ext e14 (by simp)) rfl, Ready_c (r13.ext0 e14) o.now fun w15 e15 => ⟨_, _, rfl, sel_false (by simp) (sel_false (by simp) ?_)⟩⟩⟩
    have q15 := (q13.ext0 e14).ext0 e15
    have r15 := (r13.ext0 e14).ext0 e15
    refine Next_c r15 ⟨_, rfl, Next_c q15 ⟨_, rfl, sel_false (by simp) (List_c r15 fun L16 c16 w16 e16 own16 => ⟨_, _, _, rfl, List_c (q15.ext0 e16) fun L17 c17 w17 e17 own17 => ⟨_, _, _, rfl, ?_⟩⟩)⟩⟩
    refine SameRows_c (OwnW.ext0 own16 e17).cells (OwnW.ext0 own16 e17).len own17.cells own17.len (by omega) (fun _ w18 e18 => ⟨_, rfl, sel_false rfl ?_⟩) (fun h => absurd rfl h)
    have ee := (((e14.trans e15).trans e16).trans e17).trans e18
    exact ⟨⟨a + 1, f12, g13, y, rfl, by omega, q13.ext0 ee, r13.ext0 ee, t13.trans ee, hf12, hg13, hgf13, ownL13.ext0 ee, hL13⟩, by omega⟩
  · -- spoilt lists
    refine sel_intro (fun h0 => k w9 t9) (fun h0 => ?_)
    have hpos : 0 < s.xs.length := by
      rcases Nat.eq_zero_or_pos s.xs.length with h | h
      · rw [h] at h0; simp at h0
      · exact h
    have ei : IntKind.wrap .i64 ((s.xs.length : Int) - 1) = ((s.xs.length - 1 : Nat) : Int) := by rw [w64 (by omega) (by omega)]; omega
    rw [ei]
    have cS : ∀ w', Ext [] w9 w' → Cells w' L (flatW s.xs) := fun w' e => ownL9.cells.ext0 e
    obtain ⟨x, adL, hx, rfl, -⟩ := rowW (cS w9 (Ext.refl _ _)) rfl (a := s.xs.length - 1) (by omega)
    have hxm := List.mem_of_getElem? hx
    have bad : ¬ ValidQ (s.xs ++ [x]) 1099511627776 := fun v => nodup_twice hxm v.2.2.2.names
    have rdX : ∀ w', Ext [] w9 w' → cellsC (fun a v => w'.cell? a = some v) (adL.add (Int.toNat ((s.xs.length - 1 : Nat) : Int) * 6)) x.cells := fun w' e => by
      obtain ⟨y, ad', hy, he, rd⟩ := rowW (cS w' e) rfl (a := s.xs.length - 1) (by omega)
      cases he
      rw [hx] at hy
      cases hy
      exact rd
    refine ⟨fun x f w' => x = none ∧ f = 255 ∧ Ext [] w9 w', ⟨fun w' => Ext [] w9 w', (Ext.refl _ _).drew, when_dec ⟨by omega, by omega⟩ (ptr_in ⟨_, _, _, _, _, _, cellsC_S rdX, ?_, ?_, trivial⟩)⟩, ?_⟩
    · refine rows_c (cS _ (Ext.refl _ _).drew) rfl (by omega) fun A' c' w10 e10 own10 => ⟨_, _, _, rfl, (Ext.refl _ _).drew.trans e10, fun w11 h11 => ?_⟩
      obtain ⟨b11, e11, z11⟩ := box_new (cs := x.cells) h11
      have f11 := ((Ext.refl [] w9).drew.trans e10).trans e11
      obtain ⟨A12, c12, w12, hr12, own12, e12, hat⟩ := appW (w1 := w11) (own10.ext0 e11) b11 (Nat.le_trans e10.size e11.size) (by omega)
      have f12 : Ext [] w9 w12 := f11.trans' e12 (fun b hb => .inr (own10.base b hb).1)
      refine ⟨f11, _, _, _, _, hr12, f12, Restore_c own12.cells own12.len 1099511627776 (fun _ w13 e13 => ⟨_, _, rfl, f12.trans e13, rfl, rfl, f12.trans e13⟩) (fun v => absurd v bad)⟩
    · intro w10 h10
      obtain ⟨b10, e10, z10⟩ := box_new (cs := x.cells) h10
      have f10 := (Ext.refl [] w9).drew.trans e10
      refine ⟨f10, rows_c (cS _ f10) rfl (by omega) fun A' c' w11 e11 own11 => ⟨_, _, _, rfl, f10.trans e11, ?_⟩⟩
      have f11 := f10.trans e11
      obtain ⟨A12, c12, w12, hr12, own12, e12, hat⟩ := appW (w1 := w11) own11 (b10.ext e11 (by simp)) e11.size (by omega)
      have f12 : Ext [] w9 w12 := f11.trans' e12 (fun b hb => .inr (Nat.le_trans f10.size (own11.base b hb).1))
      exact ⟨_, _, _, _, hr12, f12, Restore_c own12.cells own12.len 1099511627776 (fun _ w13 e13 => ⟨_, _, rfl, f12.trans e13, rfl, rfl, f12.trans e13⟩) (fun v => absurd v bad)⟩
    · rintro _ _ _ w10 ⟨rfl, rfl, f10⟩
      obtain ⟨x0, hx0⟩ : ∃ x0, s.xs[0]? = some x0 := ⟨s.xs[0]'hpos, List.getElem?_eq_getElem hpos⟩
      have hx0m := List.mem_of_getElem? hx0
      have rd0 : ∀ w', Ext [] w9 w' → cellsC (fun a v => w'.cell? a = some v) (adL.add 0) x0.cells := fun w' e => by
        obtain ⟨y, ad', hy, he, rd⟩ := rowW (cS w' e) rfl (a := 0) hpos
        cases he
        rw [hx0] at hy
        cases hy
        exact rd
      refine ⟨fun w' => Ext [] w9 w', f10.drew, when_dec ⟨by omega, by omega⟩ (ptr_in ⟨_, fun w' hS => rd0 w' hS 2 _ rfl, ?_⟩)⟩
      refine rows_c (cS _ f10.drew) rfl (by omega) fun A' c' w11 e11 own11 => ⟨_, _, _, rfl, f10.drew.trans e11, ?_⟩
      have f11 := f10.drew.trans e11
      refine Restore_c own11.cells own11.len x0.seq (fun _ w12 e12 => ⟨_, _, rfl, f11.trans e12, sel_false rfl (sel_false rfl (num_c _ ⟨_, rfl, sel_false rfl (num_c _ ⟨_, rfl, sel_false rfl ?_⟩)⟩))⟩) (fun v => by
        have := v.2.2.2.sound x0 hx0m
        unfold soundV at this
        omega)
      have f12 := f11.trans e12
      refine sel_dec (fun h1 => ?_) (fun h1 => k w12 (t9.trans f12))
      have h1 : 1 < s.xs.length := by omega
      obtain ⟨x1, hx1⟩ : ∃ x1, s.xs[1]? = some x1 := ⟨s.xs[1]'h1, List.getElem?_eq_getElem h1⟩
      have rd1 : ∀ w', Ext [] w9 w' → cellsC (fun a v => w'.cell? a = some v) (adL.add 6) x1.cells := fun w' e => by
        obtain ⟨y, ad', hy, he, rd⟩ := rowW (cS w' e) rfl (a := 1) h1
        cases he
        rw [hx1] at hy
        cases hy
        exact rd
      refine rows_c (cS _ f12) rfl (by omega) fun A13 c13 w13 e13 own13 => ⟨_, _, _, rfl, ?_⟩
      have f13 := f12.trans e13
      obtain ⟨g, w14, rfl, hr14, own14, e14⟩ := own_setRow (OwnW.ext0 own13 (Ext.refl [] w13).drew) (i := 0) hpos x1
      obtain ⟨g', w15, hg', hr15, own15, e15⟩ := own_setRow own14 (i := 1) h1 x0
      cases hg'
      have nw : ∀ b ∈ ownF (some ⟨g, 0, none⟩), w9.heap.size ≤ b := fun b hb => Nat.le_trans f12.size (own13.base b hb).1
      have f14 : Ext [] w9 w14 := f13.drew.trans' e14 (fun b hb => .inr (nw b hb))
      have f15 : Ext [] w9 w15 := f14.trans' e15 (fun b hb => .inr (nw b hb))
      refine ⟨fun w' => Ext [] w9 w', f13.drew, when_dec ⟨by omega, by omega⟩ (ptr_in ⟨_, _, _, _, _, _, cellsC_S rd1, when_dec ⟨by omega, by omega⟩ (ptr_in ⟨_, _, _, _, _, _, cellsC_S rd0, when_dec ⟨by omega, by omega⟩ (ptr_in ⟨_, hr14, f14, when_dec ⟨by omega, by omega⟩ (ptr_in ⟨_, hr15, ?_⟩)⟩)⟩)⟩)⟩
      refine Restore_c own15.cells own15.len 1099511627776 (fun _ w16 e16 => ⟨_, _, rfl, sel_true rfl (num_c _ ⟨_, rfl, k _ (t9.trans (f15.trans e16))⟩)⟩) (fun v => ?_)
      exfalso
      have hs := v.2.2.2.sorted
      have hl : s.xs.length = s.xs.length := rfl
      have g0 : ((s.xs.set 0 x1).set 1 x0)[0]? = some x1 := by rw [List.getElem?_set_ne (by omega), List.getElem?_set_self hpos]
      have g1 : ((s.xs.set 0 x1).set 1 x0)[1]? = some x0 := by rw [List.getElem?_set_self (by simpa using h1)]
      have a1 := hs.get g0 g1 (by omega)
      have a0 := inv.sorted.get hx0 hx1 (by omega)
      have := ahead_trans a0 a1
      rw [ahead_irr] at this
      cases this
theorem queueAgain_lifted (os : Os) (started : os.Started) (H : Type) (enc : TypeId × Value → H) :
    ReturnsInHanded {} Try.checked os 8 .any (Rows.queueAgainSpec.pre6 enc Try.prog Try.f8 Rows.queueAgainRow.domain false) (Rows.queueAgainSpec.post enc Try.prog Try.f8 false true false false) :=
  lift2 (C := Try.checked) (T := 25) (U := 25) (tb := 4) own (by kernel_rfl) Try.func8 (by kernel_rfl) (by kernel_rfl) Try.underlying4 rfl (fun _ _ _ => rfl) laidOut (by kernel_rfl) (of_decide_eq_true (by kernel_rfl)) (by kernel_rfl) (of_decide_eq_true (by kernel_rfl)) os started H enc
    (fun W base v v' d d' p p' hok h hw hok' h' hw' => by
      obtain ⟨A, n, c, ops, rfl, ho, hnc⟩ := open_ops hok h hw
      obtain ⟨A', n', c', ops', rfl, ho', hnc'⟩ := open_ops hok' h' hw'
      exact queueAgain_c ho ho' hnc' fun w' e => ⟨rfl, e.below⟩)
    (ChangeSpec.witness6 (enc := enc) (C := Try.checked) false ⟨#[], #[.slice none 0 0, .slice none 0 0], []⟩ 8 (by kernel_rfl) (by kernel_rfl) (by kernel_rfl) (by kernel_rfl))
theorem queueAgain_holds : Rows.QueueAgainSaid :=
  OpenClaim.holds_of_wide 8 Try.f8 rfl rfl rfl rfl rfl rfl rfl ⟨rfl, rfl, rfl, rfl, rfl⟩ rfl rfl rfl rfl rfl (by kernel_rfl) Try.func8 (by kernel_rfl)
    (of_decide_eq_true (by kernel_rfl)) (by unfold Func.isWrapper; first | (rw [if_pos (by decide +kernel)]; kernel_rfl) | (rw [if_neg (by decide +kernel)]; exact ⟨rfl, rfl⟩))
    (fun os started H enc _ => queueAgain_lifted os started H enc)
end Go.Proofs.Ytfjgiaimlmnepaa
