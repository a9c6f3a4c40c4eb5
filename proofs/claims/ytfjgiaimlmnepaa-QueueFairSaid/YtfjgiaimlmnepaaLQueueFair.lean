/- Whatever script comes in, berthlaw25.QueueFair returns true and leaves what came in as it was. -/
import Derived.Test.YtfjgiaimlmnepaaQ10
import Derived.Test.YtfjgiaimlmnepaaRows
set_option linter.unusedVariables false
set_option linter.unusedSimpArgs false
namespace Go.Proofs.Ytfjgiaimlmnepaa
open Go Go.V Go.B
open Go.ChangeShapes Go.WideShapes Go.ChangeAt Go.RowKit

theorem own : ownKnob Try.prog.godebug = none := by kernel_rfl
theorem laidOut : laidOutB Try.prog = true := by kernel_rfl
def namesOf (xs : List Wt) : List ByteArray := xs.map (·.name)
theorem out_perm {ss ys : List ByteArray} {s : ByteArray} (h : ss.Perm (s :: ys)) : (ss.eraseP (isT s)).Perm ys := by
  have hm : s ∈ ss := h.symm.subset (by simp)
  obtain ⟨a, l1, l2, _, ha, rfl, he⟩ := List.exists_of_eraseP (p := isT s) hm (by simp [isT])
  have hs : a = s := by simpa [isT] using ha
  subst hs
  rw [he]
  exact List.Perm.cons_inv ((List.perm_middle.symm).trans h)
theorem out_no {ss : List ByteArray} {s : ByteArray} (h : s ∉ ss) : ss.eraseP (isT s) = ss := List.eraseP_of_forall_not fun b hb => by
  unfold isT
  simp only [decide_eq_true_eq]
  exact fun e => h (e ▸ hb)
theorem erase_perm {xs : List Wt} {j : Nat} {x : Wt} (h : xs[j]? = some x) : xs.Perm (x :: xs.eraseIdx j) := by
  obtain ⟨hj, e⟩ := List.getElem?_eq_some_iff.1 h
  have h1 : xs = xs.take j ++ x :: xs.drop (j + 1) := by
    rw [← e, List.getElem_cons_drop, List.take_append_drop]
  have h2 : xs.eraseIdx j = xs.take j ++ xs.drop (j + 1) := List.eraseIdx_eq_take_drop_succ _ _
  rw [h2]
  refine List.Perm.trans (List.Perm.of_eq h1) List.perm_middle
theorem push_names (s : QS) (name : ByteArray) (pr : Int) : (pushV s name pr).2 = 0 ∧ (namesOf (pushV s name pr).1.xs).Perm (name :: namesOf s.xs) ∨ (pushV s name pr).2 ≠ 0 ∧ (pushV s name pr).1 = s := by
  unfold pushV
  split
  · exact .inr ⟨by simp, rfl⟩
  · split
    · exact .inr ⟨by simp, rfl⟩
    · split
      · exact .inr ⟨by simp, rfl⟩
      · exact .inl ⟨rfl, (ins_perm _ _).map _⟩
theorem take_names (s : QS) (name : ByteArray) : (takeV s name).2.2 = 0 ∧ (namesOf s.xs).Perm (name :: namesOf (takeV s name).1.xs) ∨ (takeV s name).2.2 ≠ 0 ∧ (takeV s name).1 = s ∧ name ∉ namesOf s.xs := by
  unfold takeV
  split
  · rename_i h
    refine .inr ⟨(by show (252 : Int) ≠ 0; decide), rfl, fun hm => ?_⟩
    obtain ⟨x, hx, e⟩ := List.mem_map.1 hm
    have := List.findIdx?_eq_none_iff.1 h x hx
    simp [named, e] at this
  · rename_i j h
    obtain ⟨hj, hn, _⟩ := List.findIdx?_eq_some_iff_getElem.1 h
    obtain ⟨x, hx⟩ : ∃ x, s.xs[j]? = some x := ⟨_, List.getElem?_eq_getElem hj⟩
    have hxn : x.name = name := by
      obtain ⟨_, e⟩ := List.getElem?_eq_some_iff.1 hx
      rw [e] at hn
      simpa [named] using hn
    refine .inl ⟨rfl, ?_⟩
    have := (erase_perm hx).map (·.name)
    rw [← hxn]
    exact this
theorem park_names (s : QS) (name : ByteArray) (now : Int) : namesOf (parkV s name now).1.xs = namesOf s.xs := by
  unfold parkV
  split
  · rfl
  · rename_i j h
    obtain ⟨hj, hn, _⟩ := List.findIdx?_eq_some_iff_getElem.1 h
    split
    · rfl
    · obtain ⟨x, hx⟩ : ∃ x, s.xs[j]? = some x := ⟨_, List.getElem?_eq_getElem hj⟩
      obtain ⟨_, e⟩ := List.getElem?_eq_some_iff.1 hx
      unfold namesOf
      simp only [getD_of hx, List.map_set]
      rw [show (x.parked now).name = x.name from rfl]
      refine List.ext_getElem? fun k => ?_
      rw [List.getElem?_set]
      split
      · rename_i hk
        subst hk
        simp [hj, e]
      · rfl
theorem wake_names (s : QS) : namesOf (wakeV s).xs = namesOf s.xs := by
  unfold namesOf wakeV
  simp only [List.map_map]
  rfl
/-- What is left of a queue of pods that are awake, behind a places. -/
theorem left_step {l : List Wt} {a : Nat} {x : Wt} (hx : l[a]? = some x) (P : Wt → Bool) :
    ((l.take a).filter (fun y => !P y) ++ l.drop a).find? P = (if P x = true then some x else (l.drop (a + 1)).find? P) ∧
    ((l.take a).filter (fun y => !P y) ++ l.drop a)[((l.take a).filter (fun y => !P y)).length]? = some x ∧
    ((l.take a).filter (fun y => !P y) ++ l.drop a).eraseIdx ((l.take a).filter (fun y => !P y)).length = (l.take a).filter (fun y => !P y) ++ l.drop (a + 1) ∧
    (l.take (a + 1)).filter (fun y => !P y) = (l.take a).filter (fun y => !P y) ++ (if P x = true then [] else [x]) := by
  obtain ⟨hl, e⟩ := List.getElem?_eq_some_iff.1 hx
  have hd : l.drop a = x :: l.drop (a + 1) := by rw [List.drop_eq_getElem_cons hl, e]
  refine ⟨?_, ?_, ?_, ?_⟩
  · rw [List.find?_append, List.find?_eq_none.2 (fun y hy => by simpa using (List.mem_filter.1 hy).2), Option.none_or, hd, List.find?_cons]
    cases P x <;> simp
  · rw [hd, List.getElem?_append_right (Nat.le_refl _)]
    simp
  · rw [hd, List.eraseIdx_append_of_length_le (Nat.le_refl _)]
    simp
  · rw [snoc_at hx, List.filter_append]
    cases h : P x <;> simp [h]
theorem queueFair_c {W : World} {A : Option Addr} {n c : Nat} {ops : List Op} (ho : OpsAt W A n ops) {R : Ending → World → Prop} (k : ∀ w', Ext [] W w' → R (.returned (.bool true)) w') : Calls Try.prog 4 #[.slice A n c] W R := by
  apply berthlaw25_QueueFair_nf
  have hb := ho.2.2.2
  refine awake_c fun w1 e1 => ⟨_, rfl, sel_false rfl (New_c fun p f w2 e2 q2 hf => ⟨_, rfl, ?_⟩)⟩
  have hf0 : ∀ b ∈ f, W.heap.size ≤ b := fun b hb => Nat.le_trans e1.size (hf b hb)
  have t2 : Ext [] W w2 := e1.trans e2
  refine ⟨fun A m c t w' => ∃ (a : Nat) (g : List Nat) (s : QS) (ss : List ByteArray), t = a ∧ a ≤ n ∧ At w' w1.heap.size p g s ∧ Ext [] W w' ∧ (∀ b ∈ g, W.heap.size ≤ b) ∧ SS w' W.heap.size A m c ss ∧ (∀ b ∈ g, b ∉ ownF A) ∧ ss.Perm (namesOf s.xs),
    fun _ _ _ t _ => n - t.toNat, ⟨0, f, ⟨[], 0⟩, [], rfl, by omega, q2, t2, hf0, SS.nil _ _, by simp [ownF], List.Perm.nil⟩, ?_⟩
  rintro I m ic _ _ w3 ⟨a, g, s, ss, rfl, ha, q3, t3, hg, own3, hap, hpm⟩
  have hsl : ss.length = m := own3.len
  have hsn : ss.length = s.xs.length := by rw [hpm.length_eq]; simp [namesOf]
  obtain ⟨mm, inv⟩ := q3.inv
  have hlen := inv.len
  have hIlt : ∀ b ∈ ownF I, b < w3.heap.size := fun b hb => (own_base own3 b hb).2
  refine sel_dec (fun hlt => ?_) (fun hge => ?_)
  · obtain ⟨o, ad, hoa, rfl, rd⟩ := (ho.ext0 t3).read (a := a) (by omega)
    refine when_dec ⟨by omega, by omega⟩ (ptr_in ⟨_, _, _, _, _, _, _, rd, fun w4 h4 => ?_⟩)
    obtain ⟨w5, hr5, b5, e5⟩ := op_box (o := o) h4
    have q5 := q3.ext0 e5
    have t5 := t3.trans e5
    have own5 := own3.ext0 e5
    have hbox : ∀ b ∈ g, b ≠ w3.heap.size := fresh_ne q3.lt
    have hboxI : ∀ b ∈ ownF I, b ≠ w3.heap.size := fresh_ne hIlt
    -- behind a call that changes the queue
    have fin : ∀ w' g' s', At w' w1.heap.size p g' s' → Ext g w5 w' → Grow w5 g g' → namesOf s'.xs = namesOf s.xs →
        (∃ (a' : Nat) (g : List Nat) (s : QS) (ss : List ByteArray), IntKind.wrap .i64 ((a : Int) + 1) = a' ∧ a' ≤ n ∧ At w' w1.heap.size p g s ∧ Ext [] W w' ∧ (∀ b ∈ g, W.heap.size ≤ b) ∧ SS w' W.heap.size I m ic ss ∧ (∀ b ∈ g, b ∉ ownF I) ∧ ss.Perm (namesOf s.xs)) ∧
        n - (IntKind.wrap .i64 ((a : Int) + 1)).toNat < n - (a : Int).toNat := fun w' g' s' q e gr hn => by
      rw [up64 a (by omega)]
      refine ⟨⟨a + 1, g', s', ss, rfl, by omega, q, Ext.old t5 hg e, Grow.old t5 hg gr, own5.ext e (fun b hb hm => hap b hm hb), gr.apart (fun b hb => Nat.lt_of_lt_of_le (hIlt b hb) e5.size) hap, by rw [hn]; exact hpm⟩, by simp only [Int.toNat_natCast]; omega⟩
    refine ⟨w5, hr5, _, cadd b5 rfl, sel_intro (fun _ => ?_) (fun _ => sel_intro (fun _ => ?_) (fun _ => sel_intro (fun _ => ?_) (fun _ => sel_intro (fun _ => ?_) (fun _ => ?_))))⟩
    · refine ⟨_, cadd b5 rfl, _, cadd b5 rfl, Push_v q5 _ _ fun w6 g6 q6 e6 gr6 => ⟨_, rfl, num_c _ ⟨_, rfl, ?_⟩⟩⟩
      have b6 := b5.ext e6 (fun hm => hbox _ hm rfl)
      rcases push_names s o.name o.pr with ⟨hc, hp⟩ | ⟨hc, hs⟩
      · refine sel_true (by rw [hc]; rfl) ⟨_, cadd b6 rfl, fun w7 h7 => ?_⟩
        have own6 : SS w6 W.heap.size I m ic ss := own5.ext e6 (fun b hb hm => hap b hm hb)
        have hap6 : ∀ b ∈ g6, b ∉ ownF I := gr6.apart (fun b hb => Nat.lt_of_lt_of_le (hIlt b hb) e5.size) hap
        have t6 := Ext.old t5 hg e6
        obtain ⟨A', c', w8, hr8, own8, e8, hF⟩ := appS own6 h7 t6.size (by omega)
        rw [up64 a (by omega)]
        refine ⟨_, _, _, _, hr8, ⟨a + 1, g6, _, ss ++ [o.name], rfl, by omega, q6.ext e8 hap6, t6.trans' e8 (fun b hb => .inr (own_base own6 b hb).1), Grow.old t5 hg gr6, own8, ?_, ?_⟩, by simp only [Int.toNat_natCast]; omega⟩
        · intro b hb hm
          rcases hF with e | ⟨x, e, hx⟩
          · exact hap6 b hb (e ▸ hm)
          · rw [e] at hm; simp at hm; subst hm
            have := q6.lt b hb; omega
        · exact ((hpm.append_right [o.name]).trans (List.perm_append_singleton _ _)).trans hp.symm
      · refine sel_false (by simpa using hc) (fin w6 g6 _ q6 e6 gr6 (by rw [hs]))
    · refine ⟨_, cadd b5 rfl, Take_v q5 _ fun w6 q6 e6 => ⟨_, _, _, _, _, _, _, rfl, fun w7 h7 => ?_⟩⟩
      obtain ⟨w8, hr8, b8, e8⟩ := wt_box (x := (takeV s o.name).2.1) h7
      have b58 := (b5.ext e6 (fun hm => hbox _ hm rfl)).ext e8 (by simp)
      have own8 : SS w8 W.heap.size I m ic ss := (own5.ext e6 (fun b hb hm => hap b hm hb)).ext0 e8
      have t8 := (Ext.old t5 hg e6).trans e8
      have q8 := q6.ext0 e8
      refine ⟨w8, hr8, _, cadd b58 rfl, without_c own8 o.name (by omega) fun A' c' w9 e9 own9 => ⟨_, _, _, rfl, num_c _ ⟨_, rfl, ?_⟩⟩⟩
      have q9 := q8.ext0 e9
      have hap9 : ∀ b ∈ g, b ∉ ownF A' := fun b hb hm => by
        have h1 := (own_base own9 b hm).1
        have h2 := q8.lt b hb
        omega
      have hstep : (ss.eraseP (isT o.name)).Perm (namesOf (takeV s o.name).1.xs) ∧ (((takeV s o.name).2.2 == 0) = decide ((((ss.eraseP (isT o.name)).length : Nat) : Int) < ((m : Nat) : Int))) := by
        rcases take_names s o.name with ⟨hc, hp⟩ | ⟨hc, hs, hno⟩
        · have hq := out_perm (hpm.trans hp)
          refine ⟨hq, ?_⟩
          rw [hc, decide_eq_true]
          · rfl
          · have h1 := hq.length_eq
            have h2 := (hpm.trans hp).length_eq
            simp only [List.length_cons] at h2
            omega
        · have hno' : o.name ∉ ss := fun hm => hno (hpm.subset hm)
          rw [out_no hno', hs]
          refine ⟨hpm, ?_⟩
          rw [decide_eq_false (by omega)]
          simpa using hc
      rw [up64 a (by omega)]
      refine sel_false (by rw [hstep.2]; simp) ⟨⟨a + 1, g, _, _, rfl, by omega, q9, t8.trans e9, hg, own_weaken own9 t8.size, hap9, hstep.1⟩, by simp only [Int.toNat_natCast]; omega⟩
    · exact ⟨_, cadd b5 rfl, _, cadd b5 rfl, Park_v q5 _ _ fun w6 g6 q6 e6 gr6 => ⟨_, rfl, fin w6 g6 _ q6 e6 gr6 (park_names _ _ _)⟩⟩
    · exact Wake_v q5 fun w6 q6 e6 => ⟨rfl, fin w6 g _ q6 e6 (Grow.refl _ _) (wake_names _)⟩
    · exact fin w5 g s q5 (Ext.refl _ _) (Grow.refl _ _) rfl
  · -- all is awake
    refine Wake_v q3 fun w4 q4 e4 => ⟨rfl, ?_⟩
    have own4 : SS w4 W.heap.size I m ic ss := own3.ext e4 (fun b hb hm => hap b hm hb)
    have t4 := Ext.old t3 hg e4
    have hpm4 : ss.Perm (namesOf (wakeV s).xs) := by rw [wake_names]; exact hpm
    have haw : ∀ x ∈ (wakeV s).xs, x.asleep = false := fun x hx => by
      obtain ⟨y, _, rfl⟩ := List.mem_map.1 hx
      rfl
    obtain ⟨m4, inv4⟩ := q4.inv
    have hsn4 : ss.length = (wakeV s).xs.length := by rw [hpm4.length_eq]; simp [namesOf]
    generalize wakeV s = z at q4 hpm4 haw inv4 hsn4 ⊢
    refine List_c q4 fun L lc w5 e5 ownL => ⟨_, _, _, rfl, sel_false (by simp; omega) ?_⟩
    have cL := own_cells ownL
    have t5 := t4.trans e5
    have hL : ∀ b ∈ ownF L, b ∉ g := fun b hb hm => by
      have h1 := (own_base ownL b hb).1
      have h2 := q4.lt b hm
      omega
    have hzl := inv4.len
    refine ⟨fun A m c t w' => ∃ (a : Nat) (ss : List ByteArray), t = a ∧ a ≤ z.xs.length ∧ At w' w1.heap.size p g ⟨(z.xs.take a).filter (fun y => !ready 1099511627776 y) ++ z.xs.drop a, z.next⟩ ∧ Ext g w5 w' ∧ SS w' W.heap.size A m c ss ∧ (∀ b ∈ g, b ∉ ownF A) ∧ ss.Perm (namesOf (z.xs.drop a)),
      fun _ _ _ t _ => z.xs.length - t.toNat, ⟨0, ss, rfl, by omega, by simpa using q4.ext0 e5, Ext.refl _ _, own4.ext0 e5, hap, by simpa using hpm4⟩, ?_⟩
    rintro J jm jc _ _ w6 ⟨a, s6, rfl, ha6, q6, e6, own6, hap6, hp6⟩
    have h6l := own6.len
    have h6p := hp6.length_eq
    simp only [namesOf, List.length_map, List.length_drop] at h6p
    refine sel_dec (fun hlt => ?_) (fun hge => ?_)
    · have rd := fun (w' : World) (e : Ext g w5 w') => rowW (cL.ext e hL) rfl (a := a) (by omega)
      obtain ⟨x, adL, hx, rfl, rx⟩ := rd w6 e6
      have hxm := List.mem_of_getElem? hx
      have hxa := haw x hxm
      have hxt := inv4.til x hxm
      obtain ⟨lf1, lf2, lf3, lf4⟩ := left_step hx (ready 1099511627776)
      obtain ⟨hxl, ex⟩ := List.getElem?_eq_some_iff.1 hx
      have hd : z.xs.drop a = x :: z.xs.drop (a + 1) := by rw [List.drop_eq_getElem_cons hxl, ex]
      refine when_dec ⟨by omega, by omega⟩ (ptr_in ⟨_, rx 5 _ rfl, sel_false hxa (when_dec ⟨by omega, by omega⟩ (ptr_in ⟨_, rx 4 _ rfl, sel_dec (fun h => by omega) (fun _ => when_dec ⟨by omega, by omega⟩ (ptr_in ⟨_, rx 0 _ rfl, ?_⟩))⟩))⟩)
      rw [hd] at hp6
      refine without_c own6 x.name (by omega) fun A' c' w7 e7 own7 => ⟨_, _, _, rfl, ?_⟩
      have hp7 := out_perm (s := x.name) (ys := namesOf (z.xs.drop (a + 1))) hp6
      have h7l := hp7.length_eq
      simp only [namesOf, List.length_map, List.length_drop] at h7l
      refine sel_false (by rw [w64 (by omega) (by omega)]; simp; omega) ?_
      have hap7 : ∀ b ∈ g, b ∉ ownF A' := fun b hb hm => by
        have h1 := (own_base own7 b hm).1
        have h2 := q6.lt b hb
        omega
      have e67 : Ext g w5 w7 := e6.then e7
      have q7 := q6.ext0 e7
      obtain ⟨x', adL', hx', hA', rx7⟩ := rd w7 e67
      rw [hx] at hx'
      cases hx'
      cases hA'
      have ownW7 := own_weaken own7 (Nat.le_trans t5.size e6.size)
      refine when_dec ⟨by omega, by omega⟩ (ptr_in ⟨_, rx7 4 _ rfl, sel_dec (fun h => ?_) (fun h => ?_)⟩)
      · have hrx : ready 1099511627776 x = true := by unfold ready; rw [hxa, decide_eq_true h]; rfl
        rw [if_pos hrx] at lf1 lf4
        refine Ready_c q7 1099511627776 fun w8 e8 => ⟨_, _, rfl, ?_⟩
        rw [readyV_some (by omega) (by omega) lf1]
        have q8 := q7.ext0 e8
        obtain ⟨m8, inv8⟩ := q8.inv
        refine Take_c q8 x.name (fun hno w9 e9 => absurd rfl (hno x (List.mem_of_getElem? lf2))) (fun j y hj hy w9 q9 e9 => ?_)
        have hyx : y = x := nodup_uniq inv8.names (List.mem_of_getElem? hj) (List.mem_of_getElem? lf2) hy
        subst hyx
        have hjj : j = ((z.xs.take a).filter (fun y => !ready 1099511627776 y)).length := by
          have h1 := idx_yes inv8.names hj rfl
          have h2 := idx_yes inv8.names lf2 rfl
          rw [h1] at h2
          exact Option.some.inj h2
        subst hjj
        refine ⟨_, _, _, _, _, _, _, rfl, fun w10 h10 => ?_⟩
        obtain ⟨w11, hr11, b11, e11⟩ := wt_box (x := y) h10
        have e511 : Ext g w5 w11 := ((e67.then e8).trans e9).then e11
        have q11 := At.ext0 (s := ⟨_, z.next⟩) q9 e11
        rw [lf3] at q11
        refine ⟨w11, hr11, fun w' => Ext [] w11 w', (Ext.refl _ _).drew, sel_false rfl (num_c _ ⟨_, rfl, (Ext.refl _ _).drew, sel_false rfl ?_⟩)⟩
        refine ⟨_, _, _, _, _, _, cellsC_S fun w' hS => cadd0 (b11.ext hS (by simp)), when_dec ⟨by omega, by omega⟩ (ptr_in ⟨_, _, _, _, _, _, cellsC_S (S := fun w' => Ext [] w11 w') (vs := y.cells) fun w' hS => ?_, ?_⟩)⟩
        · obtain ⟨y', adL', hy', hA', ry⟩ := rd w' (e511.then hS)
          rw [hx] at hy'
          cases hy'
          cases hA'
          exact ry
        · refine sel_false (by show (!(same y y)) = false; rw [same_iff.2 rfl]; rfl) ?_
          rw [up64 a (by omega)]
          have ownX := (((SS.ext0 ownW7 e8).ext e9 (fun b hb hm => hap7 b hm hb)).ext0 e11).ext0 (Ext.refl [] w11).drew
          refine ⟨⟨a + 1, _, rfl, by omega, ?_, e511.drew, ownX, hap7, hp7⟩, by simp only [Int.toNat_natCast]; omega⟩
          rw [lf4, List.append_nil]
          exact q11.ext0 (Ext.refl [] w11).drew
      · have hrx : ready 1099511627776 x = false := by unfold ready; rw [decide_eq_false h]; simp
        rw [if_neg (by rw [hrx]; simp)] at lf4
        rw [up64 a (by omega)]
        refine ⟨⟨a + 1, _, rfl, by omega, ?_, e67, ownW7, hap7, hp7⟩, by simp only [Int.toNat_natCast]; omega⟩
        rw [lf4, List.append_assoc, List.singleton_append, ← hd]
        exact q7
    · have ha0 : a = z.xs.length := by omega
      have hj0 : jm = 0 := by omega
      subst hj0
      exact k w6 (Ext.old t5 hg e6)
theorem queueFair_lifted (os : Os) (started : os.Started) (H : Type) (enc : TypeId × Value → H) :
    ReturnsInHanded {} Try.checked os 4 .any (Rows.queueFairSpec.pre6 enc Try.prog Try.f4 Rows.queueFairRow.domain false) (Rows.queueFairSpec.post enc Try.prog Try.f4 false true false false) :=
  lift1 (C := Try.checked) (T := 25) (tb := 4) own (by kernel_rfl) Try.func4 (by kernel_rfl) (by kernel_rfl) Try.underlying4 rfl (fun _ _ => rfl) laidOut (by kernel_rfl) (of_decide_eq_true (by kernel_rfl)) os started H enc
    (fun W base v d p hok h hw => by
      obtain ⟨A, n, c, ops, rfl, ho, hnc⟩ := open_ops hok h hw
      exact queueFair_c ho fun w' e => ⟨rfl, e.below⟩)
    (ChangeSpec.witness6 (enc := enc) (C := Try.checked) false ⟨#[], #[.slice none 0 0], []⟩ 8 (by kernel_rfl) (by kernel_rfl) (by kernel_rfl) (by kernel_rfl))
theorem queueFair_holds : Rows.QueueFairSaid :=
  OpenClaim.holds_of_wide 4 Try.f4 rfl rfl rfl rfl rfl rfl rfl ⟨rfl, rfl, rfl, rfl, rfl⟩ rfl rfl rfl rfl rfl (by kernel_rfl) Try.func4 (by kernel_rfl)
    (of_decide_eq_true (by kernel_rfl)) (by unfold Func.isWrapper; first | (rw [if_pos (by decide +kernel)]; kernel_rfl) | (rw [if_neg (by decide +kernel)]; exact ⟨rfl, rfl⟩))
    (fun os started H enc _ => queueFair_lifted os started H enc)
end Go.Proofs.Ytfjgiaimlmnepaa
