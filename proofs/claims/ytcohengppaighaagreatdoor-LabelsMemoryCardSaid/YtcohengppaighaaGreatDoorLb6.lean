/- Labels: Diff's answer; the laws' small helpers: the program's walks. -/
import Derived.Test.YtcohengppaighaaGreatDoorLb5
set_option linter.unusedVariables false
set_option linter.unusedSimpArgs false
namespace Go.Proofs.YtcohengppaighaaGreatDoor
open Go Go.V Go.B

theorem val_len {l : List UInt8} (h : valS l = true) : l.length ≤ 63 := by
  unfold valS at h
  rw [Bool.or_eq_true] at h
  rcases h with h | h
  · rw [decide_eq_true_eq] at h; rw [h]; simp
  · simp only [Bool.and_eq_true, decide_eq_true_eq] at h; exact h.1
theorem OkL.szs {l : List Lab} (h : OkL l) : Szs l := fun x hx => by
  have h1 := key_len (h.key x hx)
  have h2 := val_len (h.val x hx)
  have h3 := bs_len x.1
  have h4 := bs_len x.2
  omega
theorem Szs.nil : Szs [] := fun x hx => by cases hx
theorem Szs.sub {l d : List Lab} (h : Szs l) (hd : ∀ x ∈ d, x ∈ l) : Szs d := fun x hx => h x (hd x hx)
/-- The list behind a Diff. -/
structure DfAt (w0 w : World) (p : Nat) (A : Option Addr) (n c : Nat) (l : List DL) : Prop where
  box : BlkT w p [.slice A n c] 23
  new : w0.heap.size ≤ p
  own : DOwn w w0.heap.size A n c l
  ne : p ∉ ownF A
  len : n ≤ 64
theorem DfAt.ext0 {w0 w w' : World} {p : Nat} {A : Option Addr} {n c : Nat} {l : List DL} (h : DfAt w0 w p A n c l) (e : Ext [] w w') : DfAt w0 w' p A n c l := ⟨h.box.ext e (by simp), h.new, h.own.ext0 e, h.ne, h.len⟩
theorem Diff_c {w : World} {A B : Option Addr} {n m c c' : Nat} {was now : List Lab} (h1 : LIn w A n was) (h2 : LIn w B m now) {R : Ending → World → Prop}
    (k : ∀ w' p D q d, Ext [] w w' → DfAt w w' p D q d (diffS was now) → R (.returned (.func (.func 31) #[] #[.pointer (some ⟨p, 0, none⟩)])) w') : Calls Tryz.prog 13 #[.slice A n c, .slice B m c'] w R := by
  apply labels_Diff_nf
  intro w3 h3
  obtain ⟨b3, x3, z3⟩ := box_new h3
  refine Check_c (h1.ext0 x3) fun w7 e7 => ⟨_, _, rfl, Check_c (h2.ext0 (x3.trans e7)) fun w11 e11 => ⟨_, _, rfl, ?_⟩⟩
  have e11' := x3.trans (e7.trans e11)
  have b11 := b3.ext (e7.trans e11) (by simp)
  have empty : diffS was now = [] → R (.returned (.func (.func 31) #[] #[.pointer (some ⟨w.heap.size, 0, none⟩)])) w11 := fun h => k w11 w.heap.size none 0 0 e11' ⟨b11, Nat.le_refl _, by rw [h]; exact LstL.nil _ _ _, by simp [ownF], by omega⟩
  refine sel_intro (fun hc1 => sel_intro (fun hc2 => ?_) (fun hc2 => empty ?_)) (fun hc1 => empty ?_)
  · have hc1 : (checkS was).2 = 0 := by simpa using hc1
    have hc2 : (checkS now).2 = 0 := by simpa using hc2
    have o1 := checkS_zero.1 hc1
    have o2 := checkS_zero.1 hc2
    have g1 := o1.len
    have g2 := o2.len
    have g3 := h1.len
    have g4 := h2.len
    refine diffs_c (h1.ext0 e11').c h1.len (h2.ext0 e11').c h2.len (by omega) (by omega) fun w14 D q d e14 o14 hq => ⟨_, _, _, rfl, ?_⟩
    have b14 := b11.ext e14 (by simp)
    have hp : w.heap.size ∉ ownF D := fun hm => by
      have := (o14.fresh _ hm).1
      have := b11.lt
      omega
    obtain ⟨w15, hr, b15, x15⟩ := store1 (P := Tryz.prog) (t := 23) (by kernel_rfl) b14 (v := .slice D q d) (i := 0) (by decide) rfl rfl
    refine ⟨w15, hr, k w15 w.heap.size D q d ((e11'.trans e14).trans' x15 fun b hb => .inr (by simp at hb; omega)) ⟨b15, Nat.le_refl _, ?_, hp, hq⟩⟩
    have hd : diffS was now = mergeD was now := by unfold diffS; rw [if_pos ⟨hc1, hc2⟩]
    rw [hd]
    exact (o14.ext x15 fun b hb hm => by simp at hm; subst hm; exact hp hb).weaken e11'.size
  · have hc2 : (checkS now).2 ≠ 0 := by simpa using hc2
    unfold diffS; rw [if_neg (fun h => hc2 h.2)]
  · have hc1 : (checkS was).2 ≠ 0 := by simpa using hc1
    unfold diffS; rw [if_neg (fun h => hc1 h.1)]
theorem copied_c {w : World} {A : Option Addr} {n c : Nat} {l : List Lab} (hc : Cells w A (LbL.flat l)) (hl : l.length = n) (big : n * 32 ≤ 140737488351232) {R : Ending → World → Prop}
    (k : ∀ w' A' c', Ext [] w w' → LOwn w' w.heap.size A' n c' l → R (.returned (.slice A' n c')) w') : Calls Tryz.prog 20 #[.slice A n c] w R := by
  apply berthlaw03_copied_nf
  intro w2 h2
  obtain ⟨A', c', w4, hr, ho, he⟩ := copyL (L := LbL) (P := Tryz.prog) (t := 22) (ty := 22) (e := 40) (xs := l) (m := n) (by exact Tryz.underlying22) infoL rfl (by decide) hc hl h2 (by omega) c
  exact ⟨A', n, c', w4, hr, k w4 A' c' he ho.lst⟩
theorem lab_eq (x y : Lab) : ((ByteArray.toList x.1 == ByteArray.toList y.1) && ((ByteArray.toList x.2 == ByteArray.toList y.2) && true)) = decide (x = y) := by
  rw [beqBytes, beqBytes, Bool.and_true, Bool.eq_iff_iff]
  simp [Prod.ext_iff]
theorem same_c {w : World} {A B : Option Addr} {n m c c' : Nat} {a b : List Lab} (hA : Cells w A (LbL.flat a)) (hn : a.length = n) (hB : Cells w B (LbL.flat b)) (hm : b.length = m) (big : n * 32 ≤ 140737488351232) {R : Ending → World → Prop}
    (k : ∀ w', Ext [] w w' → R (.returned (.bool (decide (a = b)))) w') : Calls Tryz.prog 18 #[.slice A n c, .slice B m c'] w R := by
  apply berthlaw03_same_nf
  have no : ∀ w', Ext [] w w' → a ≠ b → R (.returned (.bool false)) w' := fun w' e h => by
    have := k w' e
    rw [decide_eq_false h] at this; exact this
  refine sel_intro (fun h => no w (Ext.refl _ _) fun e => ?_) (fun h => ?_)
  · rw [e] at hn
    have h : (n : Int) ≠ m := by simpa using h
    omega
  have h : (n : Int) = m := by simpa using h
  refine ⟨fun t w' => ∃ i : Nat, t = i ∧ i ≤ n ∧ Ext [] w w' ∧ a.take i = b.take i, fun t _ => n - t.toNat, ⟨0, rfl, by omega, Ext.refl _ _, rfl⟩, ?_⟩
  rintro _ _ w7 ⟨i, rfl, hi, e7, hab⟩
  refine sel_dec (fun hlt => ?_) (fun hge => ?_)
  · obtain ⟨x, hx⟩ : ∃ x, a[i]? = some x := ⟨_, List.getElem?_eq_getElem (by omega)⟩
    obtain ⟨y, hy⟩ : ∃ y, b[i]? = some y := ⟨_, List.getElem?_eq_getElem (by omega)⟩
    obtain ⟨ad, rfl, rd⟩ := lab_cells hA hx
    obtain ⟨bd, rfl, rb⟩ := lab_cells hB hy
    refine when_dec ⟨by omega, by omega⟩ ⟨_, _, (rd w7 e7).2.2, when_dec ⟨by omega, by omega⟩ ⟨_, _, (rb w7 e7).2.2, ?_⟩⟩
    rw [lab_eq x y]
    refine sel_intro (fun hne => no _ e7.drew fun e => ?_) (fun heq => ?_)
    · rw [e, hy] at hx
      cases hx
      simp at hne
    · have heq : x = y := by simpa using heq
      rw [up64 i (by omega)]
      refine ⟨⟨i + 1, rfl, by omega, e7.drew, ?_⟩, by simp only [Int.toNat_natCast]; omega⟩
      rw [snoc_at hx, snoc_at hy, hab, heq]
  · rw [List.take_of_length_le (by omega), List.take_of_length_le (by omega)] at hab
    have := k w7 e7
    rw [decide_eq_true hab] at this; exact this
theorem parse_list {l : List Lab} (h0 : l ≠ []) (hl : l.length ≤ 32) (hk : ∀ x ∈ l, keyS (bs x.1) = true) (hv : ∀ x ∈ l, valS (bs x.2) = true) (hn : (keys l).Nodup) : parseS (joinT l) = (sortS l, 0, 0) := by
  have h1 := join_len h0
  have h2 := sumT_le hk hv
  unfold parseS
  rw [if_neg (by omega), if_neg (join_ne h0), cut_join h0 hk hv, parseGo_items (by simpa using hl) hk hv (by simpa using hn)]; rfl
def wakeL : List Lab := [(unb [98], unb [50]), (unb [97], unb [49])]
def wokenL : List Lab := [(unb [97], unb [49]), (unb [98], unb [50])]
theorem wake_sort : sortS wakeL = wokenL := by
  refine (sortS_eq (by decide) (List.Perm.swap _ _ _) ?_).symm
  simp [bs, unb]
  decide
theorem parse_wake : parseS (bs ⟨#[98, 61, 50, 44, 97, 61, 49]⟩) = (wokenL, 0, 0) := by
  rw [← wake_sort, ← parse_list (l := wakeL) (by simp [wakeL]) (by simp [wakeL]) (by decide) (by decide) (by decide)]
  rfl
theorem woken_ok : OkL wokenL := by
  rw [← wake_sort]
  exact okL_sort (by decide) (by decide) (by decide) (by decide)
theorem LIn.nil (w : World) : LIn w none 0 [] := ⟨Cells.nil _ _, rfl, Szs.nil, by omega⟩
theorem wakes_c {w : World} {R : Ending → World → Prop} (k : ∀ w', Ext [] w w' → R (.returned (.bool true)) w') : Calls Tryz.prog 8 #[] w R := by
  apply berthlaw03_wakes_nf
  refine Parse_c ⟨#[98, 61, 50, 44, 97, 61, 49]⟩ fun w5 A n e5 o5 => ⟨_, _, _, _, _, rfl, ?_⟩
  rw [parse_wake] at o5 ⊢
  have o5 : LOwn w5 w.heap.size A n n wokenL := o5
  have hn : n = 2 := o5.len.symm
  subst hn
  refine Diff_c (LIn.nil w5) (LIn.nil w5) fun w8 p8 D8 q8 d8 e8 _ => ⟨_, _, _, rfl, ?_⟩
  have i8 : LIn w8 A 2 wokenL := LOwn.in_ (o5.ext0 e8) (OkL.szs woken_ok) (by omega)
  refine Diff_c i8 (LIn.nil w8) fun w11 p11 D11 q11 d11 e11 _ => ⟨_, _, _, rfl, ?_⟩
  obtain ⟨ad, rfl, rd⟩ := lab_cells i8.c (a := 0) (x := (unb [97], unb [49])) rfl
  obtain ⟨ad', h2, rd'⟩ := lab_cells i8.c (a := 1) (x := (unb [98], unb [50])) rfl
  cases h2
  refine sel_true rfl (sel_true rfl (sel_true rfl (when_dec ⟨by omega, by omega⟩ ⟨_, _, (rd w11 e11).2.2, ?_⟩)))
  refine sel_true (by rw [beqBytes, beqBytes, decide_eq_true (show unb [97] = ⟨#[97]⟩ from rfl), decide_eq_true (show unb [49] = ⟨#[49]⟩ from rfl)]; rfl) (when_dec ⟨by omega, by omega⟩ ⟨_, _, (rd' w11 e11).2.2, ?_⟩)
  have := k w11 ((e5.trans e8).trans e11)
  rw [show ((ByteArray.toList (unb [98]) == ByteArray.toList ⟨#[98]⟩) && ((ByteArray.toList (unb [50]) == ByteArray.toList ⟨#[50]⟩) && true)) = true by
    rw [beqBytes, beqBytes, decide_eq_true (show unb [98] = ⟨#[98]⟩ from rfl), decide_eq_true (show unb [50] = ⟨#[50]⟩ from rfl)]; rfl]
  exact this
end Go.Proofs.YtcohengppaighaaGreatDoor
