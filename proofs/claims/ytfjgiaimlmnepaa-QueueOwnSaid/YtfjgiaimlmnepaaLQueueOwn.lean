/- Whatever script comes in, berthlaw25.QueueOwn returns true and leaves what came in as it was. -/
import Derived.Test.YtfjgiaimlmnepaaQ11
import Derived.Test.YtfjgiaimlmnepaaRows
set_option linter.unusedVariables false
set_option linter.unusedSimpArgs false
namespace Go.Proofs.Ytfjgiaimlmnepaa
open Go Go.V Go.B
open Go.ChangeShapes Go.WideShapes Go.ChangeAt Go.RowKit

theorem own : ownKnob Try.prog.godebug = none := by kernel_rfl
theorem laidOut : laidOutB Try.prog = true := by kernel_rfl
theorem OwnW.weaken {w : World} {B B' n c : Nat} {A : Option Addr} {xs : List Wt} (h : OwnW w B A n c xs) (hB : B' ≤ B) : OwnW w B' A n c xs := own_weaken h hB
theorem own_take {w : World} {B n m c : Nat} {A : Option Addr} {xs : List Wt} (h : OwnW w B A m c xs) (hn : n ≤ m) (hm : 0 < m) : OwnW w B A n c (xs.take n) := by
  obtain ⟨g, bs, rfl, hBg, hbk, hbl, hcm, htk⟩ := own_blk h hm
  have hc := own_cap h
  refine own_of hbk hBg (by omega) hcm hbl ?_
  have h1 := WL.flat_take xs n
  rw [WLsz] at h1
  unfold flatW at htk ⊢
  rw [← h1, ← htk, List.take_take]
  congr 1; omega
/-! ### four rows -/
structure Row where
  A : Option Addr
  n : Nat
  c : Nat
  xs : List Wt
structure Four (w : World) (B : Nat) (K : List Nat) (R : Nat → Row) : Prop where
  own : ∀ j, j < 4 → OwnW w B (R j).A (R j).n (R j).c (R j).xs
  apart : ∀ i j, i < 4 → j < 4 → i ≠ j → ∀ b ∈ ownF (R i).A, b ∉ ownF (R j).A
  out : ∀ j, j < 4 → ∀ b ∈ ownF (R j).A, b ∉ K
def upd (R : Nat → Row) (i : Nat) (r : Row) : Nat → Row := fun j => if j = i then r else R j
theorem Four.set {w w' : World} {B : Nat} {K : List Nat} {R : Nat → Row} (h : Four w B K R) {i : Nat} (hi : i < 4) {r : Row} (e : Ext (ownF (R i).A) w w') (o : OwnW w' B r.A r.n r.c r.xs) (hr : ownF r.A = ownF (R i).A ∨ ∃ x, ownF r.A = [x] ∧ w.heap.size ≤ x) (hK : ∀ b ∈ K, b < w.heap.size) : Four w' B K (upd R i r) := by
  have lt : ∀ j, j < 4 → ∀ b ∈ ownF (R j).A, b < w.heap.size := fun j hj b hb => ((h.own j hj).base b hb).2
  have new : ∀ j, j < 4 → j ≠ i → ∀ b ∈ ownF r.A, b ∉ ownF (R j).A := fun j hj hne b hb hm => by
    rcases hr with e | ⟨x, e, hx⟩
    · rw [e] at hb; exact h.apart i j hi hj (Ne.symm hne) b hb hm
    · rw [e] at hb; simp at hb; have := lt j hj b hm; omega
  refine ⟨fun j hj => ?_, fun a j ha hj hne b hb hm => ?_, fun j hj b hb hm => ?_⟩
  · unfold upd
    split
    · exact o
    · rename_i hne
      exact (h.own j hj).ext e (fun b hb hm => h.apart j i hj hi hne b hb hm)
  · unfold upd at hb hm
    split at hb
    · rename_i he
      subst he
      rw [if_neg (Ne.symm hne)] at hm
      exact new j hj (Ne.symm hne) b hb hm
    · rename_i he
      split at hm
      · exact new a ha he b hm hb
      · exact h.apart a j ha hj hne b hb hm
  · unfold upd at hb
    split at hb
    · rcases hr with e | ⟨x, e, hx⟩
      · rw [e] at hb; exact h.out i hi b hb hm
      · rw [e] at hb; simp at hb; have := hK b hm; omega
    · exact h.out j hj b hb hm
theorem Four.ext {F : List Nat} {w w' : World} {B : Nat} {K : List Nat} {R : Nat → Row} (h : Four w B K R) (e : Ext F w w') (hF : ∀ j, j < 4 → ∀ b ∈ ownF (R j).A, b ∉ F) : Four w' B K R :=
  ⟨fun j hj => (h.own j hj).ext e (hF j hj), h.apart, h.out⟩
theorem Four.ext0 {w w' : World} {B : Nat} {K : List Nat} {R : Nat → Row} (h : Four w B K R) (e : Ext [] w w') : Four w' B K R := h.ext e (by simp)
def mkw (z : Int) : Wt := ⟨ByteArray.empty, 0, z, 0, 0, false⟩
structure Full (n j t : Nat) (xs : List Wt) : Prop where
  len : xs.length = n + t
  lo : ∀ m, m < n → xs[m]? = some (mkw (-1000 * ((j : Int) + 1) - m))
  hi : ∀ m, n ≤ m → m < n + t → xs[m]? = some (mkw (1000000 * ((j : Int) + 1) + ((m : Int) - n)))
theorem Full.more {n j t : Nat} {xs : List Wt} (h : Full n j t xs) : Full n j (t + 1) (xs ++ [mkw (1000000 * ((j : Int) + 1) + t)]) := by
  have hl := h.len
  refine ⟨by simp; omega, fun m hm => ?_, fun m h0 h1 => ?_⟩
  · rw [List.getElem?_append_left (by omega)]; exact h.lo m hm
  · by_cases hm : m < n + t
    · rw [List.getElem?_append_left (by omega)]; exact h.hi m h0 hm
    · have : m = n + t := by omega
      subst this
      rw [List.getElem?_append_right (by omega), hl, Nat.sub_self]
      simp only [List.getElem?_cons_zero]
      congr 3
      omega
def sl (r : Row) : Value := .slice r.A r.n r.c
theorem i29i : (Try.prog.info? 29).map (fun i => (i.zero, i.size, i.bytes)) = some (some (.slice none 0 0), 1, 24) := by kernel_rfl
theorem u53 : Try.prog.underlying 53 = some (.slice 29) := by kernel_rfl
def spare (s : ByteArray) : Wt := ⟨s, 0, 0, 0, 0, false⟩
set_option maxRecDepth 4000 in
theorem queueOwn_c {W : World} {A : Option Addr} {n0 c : Nat} {ops : List Op} (ho : OpsAt W A n0 ops) {R : Ending → World → Prop} (k : ∀ w', Ext [] W w' → R (.returned (.bool true)) w') : Calls Try.prog 9 #[.slice A n0 c] W R := by
  apply berthlaw25_QueueOwn_nf
  simp only [Nat.sub_zero, cut0]
  refine awake_c fun w1 e1 => ⟨_, rfl, sel_false rfl (New_c fun p f w2 e2 q2 hf => ⟨_, rfl, play_c (s := ⟨[], 0⟩) q2 ho (e1.trans e2) (fun b hb => Nat.le_trans e1.size (hf b hb)) fun w3 f3 q3 e3 g3 => ⟨rfl, ?_⟩⟩)⟩
  have hf0 : ∀ b ∈ f, W.heap.size ≤ b := fun b hb => Nat.le_trans e1.size (hf b hb)
  have t2 : Ext [] W w2 := e1.trans e2
  have t3 : Ext [] W w3 := Ext.old t2 hf0 e3
  have hf3 : ∀ b ∈ f3, W.heap.size ≤ b := Grow.old t2 hf0 g3
  obtain ⟨m, inv⟩ := q3.inv
  generalize playV ⟨[], 0⟩ ops = s at q3 inv ⊢
  have hlen := inv.len
  obtain ⟨n, hn⟩ : ∃ n, n = s.xs.length := ⟨_, rfl⟩
  refine List_c q3 fun L lc w4 e4 own4 => ⟨_, _, _, rfl, ?_⟩
  rw [← hn] at own4 ⊢
  refine rows_c own4.cells hn.symm (by omega) fun L5 c5 w5 e5 own5 => ⟨_, _, _, rfl, fun w6 h6 => ?_⟩
  obtain ⟨b6, e6, z6⟩ := box_new (cs := flatW [spare ⟨#[115, 112, 97, 114, 101, 49]⟩, spare ⟨#[115, 112, 97, 114, 101, 50]⟩, spare ⟨#[115, 112, 97, 114, 101, 51]⟩]) h6
  obtain ⟨L7, c7, w7, hr7, ho7, e7, hat7⟩ := appR (P := Try.prog) (ty := 29) (m := 3) (cy := 3) (Y := some ⟨w5.heap.size, 0, none⟩) u29 i34 z34s (by omega) (by omega) (OwnW.ext0 own5 e6) (ys := flatW [spare ⟨#[115, 112, 97, 114, 101, 49]⟩, spare ⟨#[115, 112, 97, 114, 101, 50]⟩, spare ⟨#[115, 112, 97, 114, 101, 51]⟩]) rfl (Cells.of_blk b6.blk) (WL.flat_one _) (Nat.le_trans e5.size e6.size) (by omega)
  obtain ⟨ys, hys⟩ : ∃ ys, ys = s.xs ++ [spare ⟨#[115, 112, 97, 114, 101, 49]⟩, spare ⟨#[115, 112, 97, 114, 101, 50]⟩, spare ⟨#[115, 112, 97, 114, 101, 51]⟩] := ⟨_, rfl⟩
  have own7 : OwnW w7 w4.heap.size L7 (n + 3) c7 ys := by
    unfold OwnW flatW
    rw [hys, WL.flat_app]
    exact ho7
  have hyl := own7.len
  have hc7 := own_cap own7
  have h5base := own5.base
  have h7base := own7.base
  have e57 : Ext [] w4 w7 := (e5.trans e6).trans' e7 (fun b hb => .inr (h5base b hb).1)
  have t7 := (t3.trans e4).trans e57
  refine ⟨_, _, _, _, hr7, rows_c own7.cells hyl (by omega) fun L8 c8 w8 e8 own8 => ⟨_, _, _, rfl, ?_⟩⟩
  have q8 := ((q3.ext0 e4).ext0 e57).ext0 e8
  have c78 : ∀ w', Ext [] w8 w' → Cells w' L7 (flatW ys) := fun w' e => (own7.cells.ext0 e8).ext0 e
  have e8d : Ext [] w8 w8.drew := (Ext.refl [] w8).drew
  refine ⟨fun w' => Ext [] w8 w', e8d, when_dec ⟨by omega, by omega⟩ (Next_c (q8.ext0 e8d) ⟨_, rfl, e8d, ?_⟩)⟩
  have cpre : Cells w8.drew L7 (flatW s.xs) := by
    have := c78 _ e8d
    rw [hys] at this
    unfold flatW at this
    rw [WL.flat_app] at this
    exact this.left
  refine Restore_c cpre hn.symm s.next (fun h => absurd inv.valid h) (fun _ w9 p' g e9 q9' hg => ⟨_, _, rfl, e8d.trans e9, sel_false rfl (num_c _ ⟨_, rfl, sel_false rfl ?_⟩)⟩)
  have q9 : At w9 w8.drew.heap.size p' g s := q9'
  have e89 : Ext [] w8 w9 := e8d.trans e9
  have r9 := q8.ext0 e89
  refine SameRows_c (c78 _ e89) hyl (own8.cells.ext0 e89) (own8.len) (by omega) (fun _ w10 e10 => ⟨_, rfl, sel_false rfl ?_⟩) (fun h => absurd rfl h)
  have e810 := e89.trans e10
  have own10 : OwnW w10 W.heap.size L7 (n + 3) c7 ys := ((own7.ext0 e8).ext0 e810).weaken (Nat.le_trans t3.size e4.size)
  have q10 := q9.ext0 e10
  have r10 := r9.ext0 e10
  have wnt10 : OwnW w10 w3.heap.size L n lc s.xs := ((own4.ext0 e57).ext0 e8).ext0 e810
  have t10 := (t7.trans e8).trans e810
  have hg8 : ∀ b ∈ g, w8.heap.size ≤ b := hg
  have hL7f : ∀ b ∈ f3, b ∉ ownF L7 := fun b hb hm => by
    have h1 := (h7base b hm).1
    have h2 := q3.lt b hb
    have h3 := e4.size
    omega
  have hL7g : ∀ b ∈ g, b ∉ ownF L7 := fun b hb hm => by
    have h1 := (h7base b hm).2
    have h2 := hg8 b hb
    have h3 := e8.size
    omega
  have hL7L : ∀ b ∈ ownF L, b ∉ ownF L7 := fun b hb hm => by
    have h1 := (h7base b hm).1
    have h2 := (own4.base b hb).2
    omega
  have hL7W : ∀ b ∈ ownF L7, W.heap.size ≤ b := fun b hb => (own10.base b hb).1
  refine ⟨fun t w' => ∃ (a : Nat) (zs : List Wt), t = a ∧ a ≤ n ∧ OwnW w' W.heap.size L7 (n + 3) c7 zs ∧ Ext (ownF L7) w10 w', fun t _ => n - t.toNat, ⟨0, ys, rfl, by omega, own10, Ext.refl _ _⟩, ?_⟩
  rintro _ _ w11 ⟨a, zs, rfl, ha, own11, e11⟩
  refine sel_dec (fun hlt => ?_) (fun hge => ?_)
  · obtain ⟨g7, w12, rfl, hr12, own12, e12⟩ := own_setRow own11 (i := a) (by omega) (spare ⟨#[103, 111, 110, 101]⟩)
    rw [up64 a (by omega), Int.toNat_natCast]
    exact when_dec ⟨by omega, by omega⟩ (ptr_in ⟨w12, hr12, ⟨a + 1, _, rfl, by omega, own12, e11.trans e12⟩, by simp only [Int.toNat_natCast]; omega⟩)
  have q11 := q10.ext e11 hL7g
  have r11 := r10.ext e11 hL7f
  have wnt11 := wnt10.ext e11 hL7L
  have t11 := Ext.old t10 hL7W e11
  refine List_c q11 fun La ca w12 e12 owna => ⟨_, _, _, rfl, List_c (q11.ext0 e12) fun Lb cb w13 e13 ownb => ⟨_, _, _, rfl, List_c ((r11.ext0 e12).ext0 e13) fun Lc cc w14 e14 ownc => ⟨_, _, _, rfl, ?_⟩⟩⟩
  rw [← hn] at owna ownb ownc ⊢
  have e1114 := (e12.trans e13).trans e14
  have wnt14 := wnt11.ext0 e1114
  refine SameRows_c ((owna.ext0 e13).ext0 e14).cells hn.symm wnt14.cells hn.symm (by omega) (fun _ w15 e15 => ⟨_, rfl, sel_false rfl ?_⟩) (fun h => absurd rfl h)
  refine SameRows_c ((ownb.ext0 e14).ext0 e15).cells hn.symm (wnt14.ext0 e15).cells hn.symm (by omega) (fun _ w16 e16 => ⟨_, rfl, sel_false rfl ?_⟩) (fun h => absurd rfl h)
  refine SameRows_c ((ownc.ext0 e15).ext0 e16).cells hn.symm ((wnt14.ext0 e15).ext0 e16).cells hn.symm (by omega) (fun _ w17 e17 => ⟨_, rfl, sel_false rfl ?_⟩) (fun h => absurd rfl h)
  refine when_dec ⟨by omega, by omega⟩ fun w18 h18 => ?_
  obtain ⟨b18, e18, z18⟩ := box_new (cs := [.slice La n ca, .slice Lb n cb, .slice Lc n cc, .slice L7 n c7]) h18
  obtain ⟨q, hq⟩ : ∃ q, q = w17.heap.size := ⟨_, rfl⟩
  rw [← hq] at b18 ⊢
  have e1418 := ((e15.trans e16).trans e17).trans e18
  have e1118 := e1114.trans e1418
  have t18 := t11.trans e1118
  have q18 := q11.ext0 e1118
  have r18 := r11.ext0 e1118
  have wnt18 := wnt11.ext0 e1118
  -- the four rows
  obtain ⟨R0, hR0⟩ : ∃ R0 : Nat → Row, R0 = fun j => if j = 0 then ⟨La, n, ca, s.xs⟩ else if j = 1 then ⟨Lb, n, cb, s.xs⟩ else if j = 2 then ⟨Lc, n, cc, s.xs⟩ else ⟨L7, n, c7, zs.take n⟩ := ⟨_, rfl⟩
  obtain ⟨K, hK⟩ : ∃ K, K = q :: (f3 ++ (g ++ ownF L)) := ⟨_, rfl⟩
  have hW11 := t11.size
  have hKlt : ∀ b ∈ K, b < w18.heap.size := fun b hb => by
    rw [hK] at hb
    simp only [List.mem_cons, List.mem_append] at hb
    rcases hb with rfl | hb | hb | hb
    · omega
    · exact r18.lt b hb
    · exact q18.lt b hb
    · exact (wnt18.base b hb).2
  have hpre : ∀ b ∈ f3 ++ (g ++ ownF L), b < w11.heap.size := fun b hb => by
    simp only [List.mem_append] at hb
    rcases hb with hb | hb | hb
    · exact r11.lt b hb
    · exact q11.lt b hb
    · exact (wnt11.base b hb).2
  have s12 := e12.size
  have s13 := e13.size
  have s14 := e14.size
  have s1417 := ((e15.trans e16).trans e17).size
  have ba := owna.base
  have bb := ownb.base
  have bc := ownc.base
  have b7 := own11.base
  have F0 : Four w18 W.heap.size K R0 := by
    refine ⟨fun j hj => ?_, fun i j hi hj hne b hb hm => ?_, fun j hj b hb hm => ?_⟩
    · rw [hR0]
      match j, hj with
      | 0, _ => exact (((owna.ext0 e13).ext0 e14).ext0 e1418).weaken hW11
      | 1, _ => exact ((ownb.ext0 e14).ext0 e1418).weaken (by omega)
      | 2, _ => exact (ownc.ext0 e1418).weaken (by omega)
      | 3, _ => exact own_take (own11.ext0 e1118) (show n ≤ n + 3 by omega) (by omega)
    · rw [hR0] at hb hm
      match i, j, hi, hj, hne with
      | 0, 0, _, _, h => exact h rfl
      | 1, 1, _, _, h => exact h rfl
      | 2, 2, _, _, h => exact h rfl
      | 3, 3, _, _, h => exact h rfl
      | 0, 1, _, _, _ => have := ba b hb; have := bb b hm; omega
      | 0, 2, _, _, _ => have := ba b hb; have := bc b hm; omega
      | 0, 3, _, _, _ => have := ba b hb; have := b7 b hm; omega
      | 1, 0, _, _, _ => have := bb b hb; have := ba b hm; omega
      | 1, 2, _, _, _ => have := bb b hb; have := bc b hm; omega
      | 1, 3, _, _, _ => have := bb b hb; have := b7 b hm; omega
      | 2, 0, _, _, _ => have := bc b hb; have := ba b hm; omega
      | 2, 1, _, _, _ => have := bc b hb; have := bb b hm; omega
      | 2, 3, _, _, _ => have := bc b hb; have := b7 b hm; omega
      | 3, 0, _, _, _ => have := b7 b hb; have := ba b hm; omega
      | 3, 1, _, _, _ => have := b7 b hb; have := bb b hm; omega
      | 3, 2, _, _, _ => have := b7 b hb; have := bc b hm; omega
    · rw [hR0] at hb
      rw [hK] at hm
      rcases List.mem_cons.1 hm with rfl | hm
      · match j, hj with
        | 0, _ => have := ba _ hb; omega
        | 1, _ => have := bb _ hb; omega
        | 2, _ => have := bc _ hb; omega
        | 3, _ => have := b7 _ hb; omega
      · have hp := hpre b hm
        match j, hj with
        | 0, _ => have := ba b hb; omega
        | 1, _ => have := bb b hb; omega
        | 2, _ => have := bc b hb; omega
        | 3, _ =>
          simp only [List.mem_append] at hm
          rcases hm with hm | hm | hm
          · exact hL7f b hm hb
          · exact hL7g b hm hb
          · exact hL7L b hm hb
  have cell18 : ∀ j, j < 4 → [Value.slice La n ca, .slice Lb n cb, .slice Lc n cc, .slice L7 n c7][j]? = some (sl (R0 j)) := fun j hj => by
    rw [hR0]
    match j, hj with
    | 0, _ => rfl
    | 1, _ => rfl
    | 2, _ => rfl
    | 3, _ => rfl
  have hn0 : ∀ j, j < 4 → (R0 j).n = n := fun j hj => by
    rw [hR0]
    match j, hj with
    | 0, _ => rfl
    | 1, _ => rfl
    | 2, _ => rfl
    | 3, _ => rfl
  -- a world in which the rows alone have changed
  have stays : ∀ {w' : World}, (∀ b ∈ K, b < w18.heap.size) → (∃ F, Ext F w18 w' ∧ (∀ b ∈ K, b ∉ F) ∧ (∀ b ∈ F, W.heap.size ≤ b)) → At w' w8.drew.heap.size p' g s ∧ At w' w1.heap.size p f3 s ∧ OwnW w' w3.heap.size L n lc s.xs ∧ BlkT w' q [.slice La n ca, .slice Lb n cb, .slice Lc n cc, .slice L7 n c7] 29 ∧ Ext [] W w' := by
    intro w' _ ⟨F, e, hKF, hFW⟩
    refine ⟨q18.ext e fun b hb => hKF b (by rw [hK]; simp [hb]), r18.ext e fun b hb => hKF b (by rw [hK]; simp [hb]), wnt18.ext e fun b hb => hKF b (by rw [hK]; simp [hb]), b18.ext e (hKF q (by rw [hK]; simp)), t18.trans' e fun b hb => .inr (hFW b hb)⟩
  obtain ⟨G, hG⟩ : ∃ G : World → Prop, G = fun w' => ∃ F, Ext F w18 w' ∧ (∀ b ∈ K, b ∉ F) ∧ (∀ b ∈ F, W.heap.size ≤ b) := ⟨_, rfl⟩
  have G0 : G w18 := by rw [hG]; exact ⟨[], Ext.refl _ _, by simp, by simp⟩
  have Gs : ∀ {w' : World}, G w' → At w' w8.drew.heap.size p' g s ∧ At w' w1.heap.size p f3 s ∧ OwnW w' w3.heap.size L n lc s.xs ∧ BlkT w' q [.slice La n ca, .slice Lb n cb, .slice Lc n cc, .slice L7 n c7] 29 ∧ Ext [] W w' := fun h => stays hKlt (by rw [hG] at h; exact h)
  have Gt : ∀ {w' w'' : World} {F : List Nat}, G w' → Ext F w' w'' → (∀ b ∈ F, b ∉ K) → (∀ b ∈ F, W.heap.size ≤ b) → G w'' := by
    intro w' w'' F h e hF hW
    rw [hG] at h ⊢
    obtain ⟨F', e', h1, h2⟩ := h
    refine ⟨F' ++ F, (e'.weaken (fun b hb => .inl (by simp [hb]))).trans (e.weaken (fun b hb => .inl (by simp [hb]))), fun b hb hm => ?_, fun b hb => ?_⟩
    · rcases List.mem_append.1 hm with hm | hm
      · exact h1 b hb hm
      · exact hF b hm hb
    · rcases List.mem_append.1 hb with hb | hb
      · exact h2 b hb
      · exact hW b hb
  have Gk : ∀ {w' : World}, G w' → ∀ b ∈ K, b < w'.heap.size := fun h b hb => by
    rw [hG] at h
    obtain ⟨F', e', _⟩ := h
    exact Nat.lt_of_lt_of_le (hKlt b hb) e'.size
  -- all are written over
  refine ⟨fun t w' => ∃ (i : Nat) (R : Nat → Row), t = i ∧ i ≤ 4 ∧ G w' ∧ Four w' W.heap.size K R ∧ (∀ j, j < 4 → (R j).A = (R0 j).A ∧ (R j).n = n ∧ (R j).c = (R0 j).c) ∧ (∀ j, j < i → Full n j 0 (R j).xs), fun t _ => 4 - t.toNat,
    ⟨0, R0, rfl, by omega, G0, F0, fun j hj => ⟨rfl, hn0 j hj, rfl⟩, fun j hj => by omega⟩, ?_⟩
  rintro _ _ w19 ⟨i, R1, rfl, hi, G19, F19, hR1, hfull⟩
  refine sel_dec (fun hlt => ?_) (fun hge => ?_)
  · have hi4 : i < 4 := by omega
    refine ⟨fun t w' => ∃ (a : Nat) (R : Nat → Row), t = a ∧ a ≤ n ∧ G w' ∧ Four w' W.heap.size K R ∧ (∀ j, j < 4 → (R j).A = (R0 j).A ∧ (R j).n = n ∧ (R j).c = (R0 j).c) ∧ (∀ j, j < i → Full n j 0 (R j).xs) ∧ (∀ m, m < a → (R i).xs[m]? = some (mkw (-1000 * ((i : Int) + 1) - m))), fun t _ => n - t.toNat,
      ⟨0, R1, rfl, by omega, G19, F19, hR1, hfull, fun m hm => by omega⟩, ?_⟩
    rintro _ _ w20 ⟨a, R2, rfl, ha, G20, F20, hR2, hfull2, hm2⟩
    refine sel_dec (fun hlt2 => ?_) (fun hge2 => ?_)
    · obtain ⟨hA, hnn, hcc⟩ := hR2 i hi4
      have own20 := F20.own i hi4
      rw [hnn] at own20
      obtain ⟨g20, w21, hg20, hr21, own21, e21⟩ := own_setRow own20 (i := a) (by omega) (mkw (-1000 * ((i : Int) + 1) - a))
      have hc := cell18 i hi4
      have hb20 := (Gs G20).2.2.2.1
      unfold sl at hc
      rw [← hA, hn0 i hi4, ← hcc, hg20] at hc
      have hrd : World.cell? w20 (Addr.add ⟨q, 0, none⟩ (Int.toNat (i : Int) * 1)) = some (.slice (some ⟨g20, 0, none⟩) n (R2 i).c) := by
        rw [Int.toNat_natCast, Nat.mul_one]; exact cadd hb20 hc
      have ez : IntKind.wrap .i64 (IntKind.wrap .i64 ((-1000) * IntKind.wrap .i64 ((i : Int) + 1)) - (a : Int)) = -1000 * ((i : Int) + 1) - a := by
        rw [w64 (x := (i : Int) + 1) (by omega) (by omega), w64 (x := (-1000) * ((i : Int) + 1)) (by omega) (by omega), w64 (by omega) (by omega)]
      have hF : ∀ b ∈ ownF (R2 i).A, b ∉ K := F20.out i hi4
      have hFW : ∀ b ∈ ownF (R2 i).A, W.heap.size ≤ b := fun b hb => (own20.base b hb).1
      have F21 := F20.set hi4 (r := ⟨(R2 i).A, n, (R2 i).c, (R2 i).xs.set a (mkw (-1000 * ((i : Int) + 1) - a))⟩) e21 own21 (.inl rfl) (Gk G20)
      have hl20 := own20.len
      refine when_dec ⟨by omega, by omega⟩ ⟨_, _, _, hrd, when_dec ⟨by omega, by omega⟩ (ptr_in ?_)⟩
      rw [ez, up64 a (by omega), Int.toNat_natCast]
      refine ⟨w21, hr21, ⟨a + 1, _, rfl, by omega, Gt G20 e21 hF hFW, F21, fun j hj => ?_, fun j hj => ?_, fun m hm => ?_⟩, by simp only [Int.toNat_natCast]; omega⟩
      · unfold upd
        split
        · rename_i he; subst he; exact ⟨hA, rfl, hcc⟩
        · exact hR2 j hj
      · unfold upd
        rw [if_neg (by omega)]
        exact hfull2 j hj
      · unfold upd
        rw [if_pos rfl]
        show ((R2 i).xs.set a _)[m]? = _
        rw [List.getElem?_set]
        split
        · rename_i he
          subst he
          rw [if_pos (by omega)]
        · exact hm2 m (by omega)
    · have hlenR : (R2 i).xs.length = n := by
        have := (F20.own i hi4).len
        rw [(hR2 i hi4).2.1] at this
        exact this
      rw [up64 i (by omega)]
      refine ⟨⟨i + 1, R2, rfl, by omega, G20, F20, hR2, fun j hj => ?_⟩, by simp only [Int.toNat_natCast]; omega⟩
      by_cases hji : j = i
      · subst hji
        exact ⟨hlenR, fun m hm => hm2 m (by omega), fun m h0 h1 => by omega⟩
      · exact hfull2 j (by omega)
  -- all are made longer
  have hi4 : i = 4 := by omega
  subst hi4
  refine ⟨fun gA gn gc t w' => ∃ (i : Nat) (R : Nat → Row), t = i ∧ i ≤ 4 ∧ G w' ∧ Four w' W.heap.size K R ∧ (∀ j, j < i → (R j).n = n + 40 ∧ Full n j 40 (R j).xs) ∧ (∀ j, i ≤ j → j < 4 → R j = R1 j) ∧ gn = i ∧ w'.ownsRow W.heap.size 29 1 (.slice gA gn gc) gn ((List.range i).map fun j => sl (R j)) ∧ (∀ b ∈ ownF gA, b ∉ K ∧ ∀ j, j < 4 → b ∉ ownF (R j).A),
    fun _ _ _ t _ => 4 - t.toNat, ⟨0, R1, rfl, by omega, G19, F19, fun j hj => by omega, fun j _ _ => rfl, rfl, World.ownsRow_nil _ _ _ _, by simp [ownF]⟩, ?_⟩
  rintro gA gn gc _ _ w20 ⟨i, R2, rfl, hi, G20, F20, hdone, hrest, rfl, og20, hga⟩
  refine sel_dec (fun hlt => ?_) (fun hge => ?_)
  · have hi4 : gn < 4 := by omega
    have hRi := hrest gn (by omega) hi4
    obtain ⟨hA, hnn, hcc⟩ := hR1 gn hi4
    rw [← hRi] at hA hnn hcc
    have hb20 := (Gs G20).2.2.2.1
    have hc := cell18 gn hi4
    unfold sl at hc
    rw [← hA, hn0 gn hi4, ← hcc] at hc
    have hrd : World.cell? w20 (Addr.add ⟨q, 0, none⟩ (Int.toNat (gn : Int) * 1)) = some (.slice (R2 gn).A n (R2 gn).c) := by
      rw [Int.toNat_natCast, Nat.mul_one]; exact cadd hb20 hc
    refine when_dec ⟨by omega, by omega⟩ ⟨_, _, _, hrd, ?_⟩
    refine ⟨fun hA hn hc t w' => ∃ (a : Nat) (R : Nat → Row), t = a ∧ a ≤ 40 ∧ G w' ∧ Four w' W.heap.size K R ∧ (∀ j, j ≠ gn → R j = R2 j) ∧ (R gn).A = hA ∧ (R gn).n = hn ∧ (R gn).c = hc ∧ hn = n + a ∧ Full n gn a (R gn).xs ∧ w'.ownsRow W.heap.size 29 1 (.slice gA gn gc) gn ((List.range gn).map fun j => sl (R2 j)) ∧ (∀ b ∈ ownF gA, b ∉ K ∧ ∀ j, j < 4 → b ∉ ownF (R j).A),
      fun _ _ _ t _ => 40 - t.toNat, ⟨0, R2, rfl, by omega, G20, F20, fun _ _ => rfl, rfl, hnn, rfl, by omega, by rw [hRi]; exact hfull gn hi4, og20, hga⟩, ?_⟩
    rintro _ _ _ _ _ w21 ⟨a, R3, rfl, ha, G21, F21, hoth, rfl, rfl, rfl, hna, hful, og21, hga3⟩
    refine sel_dec (fun hlt2 => ?_) (fun hge2 => ?_)
    · intro w22 h22
      have ez : IntKind.wrap .i64 (IntKind.wrap .i64 (1000000 * IntKind.wrap .i64 ((gn : Int) + 1)) + (a : Int)) = 1000000 * ((gn : Int) + 1) + a := by
        rw [w64 (x := (gn : Int) + 1) (by omega) (by omega), w64 (x := 1000000 * ((gn : Int) + 1)) (by omega) (by omega), w64 (by omega) (by omega)]
      rw [ez] at h22
      obtain ⟨b22, e22, z22⟩ := box_new (cs := (mkw (1000000 * ((gn : Int) + 1) + a)).cells) h22
      have own22 := (F21.own gn hi4).ext0 e22
      have hs22 := (Gs G21).2.2.2.2.size
      obtain ⟨A', c', w23, hr23, own23, e23, hat⟩ := appW (w1 := w22) own22 b22 (Nat.le_trans hs22 e22.size) (by omega)
      have F22 := F21.ext0 e22
      have G22 := Gt G21 e22 (by simp) (by simp)
      have F23 := F22.set hi4 (r := ⟨A', (R3 gn).n + 1, c', (R3 gn).xs ++ [mkw (1000000 * ((gn : Int) + 1) + a)]⟩) e23 own23 (by
        rcases hat with h | h
        · exact .inl h
        · exact .inr ⟨_, h, Nat.le_refl _⟩) (Gk G22)
      have hFK : ∀ b ∈ ownF (R3 gn).A, b ∉ K := F21.out gn hi4
      have hFW : ∀ b ∈ ownF (R3 gn).A, W.heap.size ≤ b := fun b hb => (own22.base b hb).1
      rw [up64 a (by omega)]
      refine ⟨_, _, _, _, hr23, ⟨a + 1, _, rfl, by omega, Gt G22 e23 hFK hFW, F23, fun j hj => ?_, ?_, ?_, ?_, by omega, ?_, own_ext (own_ext og21 e22 (by simp)) e23 (fun b hb => (hga3 b hb).2 gn hi4), fun b hb => ⟨(hga3 b hb).1, fun j hj => ?_⟩⟩, by simp only [Int.toNat_natCast]; omega⟩
      · unfold upd; rw [if_neg hj]; exact hoth j hj
      · unfold upd; rw [if_pos rfl]
      · unfold upd; rw [if_pos rfl]
      · unfold upd; rw [if_pos rfl]
      · unfold upd; rw [if_pos rfl]; exact hful.more
      · unfold upd
        split
        · rcases hat with h | h
          · show b ∉ ownF A'
            rw [h]; exact (hga3 b hb).2 gn hi4
          · show b ∉ ownF A'
            rw [h]
            intro hm
            simp at hm
            have := (own_base og21 b hb).2
            have := e22.size
            omega
        · exact (hga3 b hb).2 j hj
    · have ha40 : a = 40 := by omega
      subst ha40
      intro w22 h22
      obtain ⟨b22, e22, z22⟩ := box_new (cs := [sl (R3 gn)]) h22
      have hs22 := (Gs G21).2.2.2.2.size
      obtain ⟨A', c', w23, hr23, own23, e23, hat⟩ := appR (P := Try.prog) (ty := 53) (m := 1) (cy := 1) (Y := some ⟨w21.heap.size, 0, none⟩) u53 i29i rfl (by omega) (by omega) (own_ext og21 e22 (by simp)) (ys := [sl (R3 gn)]) rfl (Cells.of_blk b22.blk) (by simp [sl, Value.oneCell']) (Nat.le_trans hs22 e22.size) (by omega)
      have F22 := F21.ext0 e22
      have G22 := Gt G21 e22 (by simp) (by simp)
      have hgK : ∀ b ∈ ownF gA, b ∉ K := fun b hb => (hga3 b hb).1
      have hgW : ∀ b ∈ ownF gA, W.heap.size ≤ b := fun b hb => (own_base og21 b hb).1
      have F23 := F22.ext e23 (fun j hj b hb hm => (hga3 b hm).2 j hj hb)
      rw [up64 gn (by omega)]
      refine ⟨_, _, _, _, hr23, ⟨gn + 1, R3, rfl, by omega, Gt G22 e23 hgK hgW, F23, fun j hj => ?_, fun j h0 h1 => ?_, rfl, ?_, fun b hb => ?_⟩, by simp only [Int.toNat_natCast]; omega⟩
      · by_cases hjg : j = gn
        · subst hjg; exact ⟨hna, hful⟩
        · rw [hoth j hjg]; exact hdone j (by omega)
      · rw [hoth j (by omega)]; exact hrest j (by omega) h1
      · rw [List.range_succ, List.map_append]
        have e1 : (List.range gn).map (fun j => sl (R3 j)) = (List.range gn).map (fun j => sl (R2 j)) := List.map_congr_left fun j hj => by
          rw [hoth j (by have := List.mem_range.1 hj; omega)]
        rw [e1]
        exact own23
      · rcases hat with h | h
        · rw [h] at hb; exact hga3 b hb
        · rw [h] at hb
          simp at hb
          subst hb
          refine ⟨fun hm => by have := Gk G22 _ hm; omega, fun j hj hm => ?_⟩
          have := ((F22.own j hj).base _ hm).2
          omega
  -- all are as they were written
  have hg4 : gn = 4 := by omega
  subst hg4
  refine ⟨fun t w' => ∃ i : Nat, t = i ∧ i ≤ 4 ∧ w' = w20, fun t _ => 4 - t.toNat, ⟨0, rfl, by omega, rfl⟩, ?_⟩
  rintro _ _ w21 ⟨i, rfl, hi, rfl⟩
  refine sel_dec (fun hlt => ?_) (fun hge => ?_)
  · have hi4 : i < 4 := by omega
    obtain ⟨hnn, hful⟩ := hdone i hi4
    have own21 := F20.own i hi4
    rw [hnn] at own21
    obtain ⟨adG, hadG, hcG⟩ := own_cells og20 i (sl (R2 i)) (by
      rw [List.getElem?_map, List.getElem?_range hi4]; rfl)
    unfold sl at hcG
    rw [hnn] at hcG
    subst hadG
    have hrd : World.cell? w21 (Addr.add adG (Int.toNat (i : Int) * 1)) = some (.slice (R2 i).A (n + 40) (R2 i).c) := by
      rw [Int.toNat_natCast, Nat.mul_one]; exact hcG
    refine ⟨fun t w' => ∃ a : Nat, t = a ∧ a ≤ n + 40 ∧ w' = w21, fun t _ => n + 40 - t.toNat, ⟨0, rfl, by omega, rfl⟩, ?_⟩
    rintro _ _ w22 ⟨a, rfl, ha, rfl⟩
    rw [w64 (x := (n : Int) + 40) (by omega) (by omega)]
    refine sel_dec (fun hlt2 => ?_) (fun hge2 => ?_)
    · obtain ⟨x, ad, hx, hAx, rx⟩ := rowW own21.cells own21.len (a := a) (by omega)
      have e1 : IntKind.wrap .i64 (IntKind.wrap .i64 ((-1000) * IntKind.wrap .i64 ((i : Int) + 1)) - (a : Int)) = -1000 * ((i : Int) + 1) - a := by
        rw [w64 (x := (i : Int) + 1) (by omega) (by omega), w64 (x := (-1000) * ((i : Int) + 1)) (by omega) (by omega), w64 (by omega) (by omega)]
      have e2 : IntKind.wrap .i64 (IntKind.wrap .i64 (IntKind.wrap .i64 (1000000 * IntKind.wrap .i64 ((i : Int) + 1)) + (a : Int)) - (n : Int)) = 1000000 * ((i : Int) + 1) + ((a : Int) - n) := by
        rw [w64 (x := (i : Int) + 1) (by omega) (by omega), w64 (x := 1000000 * ((i : Int) + 1)) (by omega) (by omega), w64 (x := 1000000 * ((i : Int) + 1) + (a : Int)) (by omega) (by omega), w64 (by omega) (by omega)]
        omega
      have fin : (∃ a' : Nat, IntKind.wrap .i64 ((a : Int) + 1) = a' ∧ a' ≤ n + 40 ∧ w22 = w22) ∧ n + 40 - (IntKind.wrap .i64 ((a : Int) + 1)).toNat < n + 40 - (a : Int).toNat := by
        rw [up64 a (by omega)]
        exact ⟨⟨a + 1, rfl, by omega, rfl⟩, by simp only [Int.toNat_natCast]; omega⟩
      rw [e1, e2]
      rw [hAx] at hrd
      refine sel_dec (fun h3 => ?_) (fun h3 => ?_)
      · have hs : x.seq = -1000 * ((i : Int) + 1) - a := by
          have := hful.lo a (by omega)
          rw [hx] at this
          cases this
          rfl
        refine when_dec ⟨by omega, by omega⟩ (ptr_in ⟨_, _, _, hrd, when_dec ⟨by omega, by omega⟩ (ptr_in ⟨_, rx 2 _ rfl, sel_false (by rw [hs]; simp) (sel_dec (fun h => by omega) (fun _ => fin))⟩)⟩)
      · have hs : x.seq = 1000000 * ((i : Int) + 1) + ((a : Int) - n) := by
          have := hful.hi a (by omega) (by omega)
          rw [hx] at this
          cases this
          rfl
        refine sel_dec (fun h => ?_) (fun h => by omega)
        refine when_dec ⟨by omega, by omega⟩ (ptr_in ⟨_, _, _, hrd, when_dec ⟨by omega, by omega⟩ (ptr_in ⟨_, rx 2 _ rfl, sel_false (by rw [hs]; simp) fin⟩)⟩)
    · rw [up64 i (by omega)]
      exact ⟨⟨i + 1, rfl, by omega, rfl⟩, by simp only [Int.toNat_natCast]; omega⟩
  · obtain ⟨qa, ra, wa, _, ta⟩ := Gs G20
    refine List_c qa fun Ld cd w22 e22 ownd => ⟨_, _, _, rfl, ?_⟩
    rw [← hn] at ownd ⊢
    refine SameRows_c ownd.cells hn.symm (wa.ext0 e22).cells hn.symm (by omega) (fun _ w23 e23 => ⟨_, rfl, sel_true rfl ?_⟩) (fun h => absurd rfl h)
    refine List_c ((ra.ext0 e22).ext0 e23) fun Le ce w24 e24 owne => ⟨_, _, _, rfl, ?_⟩
    rw [← hn] at owne ⊢
    exact SameRows_c owne.cells hn.symm (((wa.ext0 e22).ext0 e23).ext0 e24).cells hn.symm (by omega) (fun _ w25 e25 => ⟨_, rfl, k _ ((((ta.trans e22).trans e23).trans e24).trans e25)⟩) (fun h => absurd rfl h)
theorem queueOwn_lifted (os : Os) (started : os.Started) (H : Type) (enc : TypeId × Value → H) :
    ReturnsInHanded {} Try.checked os 9 .any (Rows.queueOwnSpec.pre6 enc Try.prog Try.f9 Rows.queueOwnRow.domain false) (Rows.queueOwnSpec.post enc Try.prog Try.f9 false true false false) :=
  lift1 (C := Try.checked) (T := 25) (tb := 4) own (by kernel_rfl) Try.func9 (by kernel_rfl) (by kernel_rfl) Try.underlying4 rfl (fun _ _ => rfl) laidOut (by kernel_rfl) (of_decide_eq_true (by kernel_rfl)) os started H enc
    (fun W base v d p hok h hw => by
      obtain ⟨A, n, c, ops, rfl, ho, hnc⟩ := open_ops hok h hw
      exact queueOwn_c ho fun w' e => ⟨rfl, e.below⟩)
    (ChangeSpec.witness6 (enc := enc) (C := Try.checked) false ⟨#[], #[.slice none 0 0], []⟩ 8 (by kernel_rfl) (by kernel_rfl) (by kernel_rfl) (by kernel_rfl))
theorem queueOwn_holds : Rows.QueueOwnSaid :=
  OpenClaim.holds_of_wide 9 Try.f9 rfl rfl rfl rfl rfl rfl rfl ⟨rfl, rfl, rfl, rfl, rfl⟩ rfl rfl rfl rfl rfl (by kernel_rfl) Try.func9 (by kernel_rfl)
    (of_decide_eq_true (by kernel_rfl)) (by unfold Func.isWrapper; first | (rw [if_pos (by decide +kernel)]; kernel_rfl) | (rw [if_neg (by decide +kernel)]; exact ⟨rfl, rfl⟩))
    (fun os started H enc _ => queueOwn_lifted os started H enc)
end Go.Proofs.Ytfjgiaimlmnepaa
