/- Waking all; a queue restored. -/
import Derived.Test.YtfjgiaimlmnepaaQ5
set_option linter.unusedVariables false
set_option linter.unusedSimpArgs false
namespace Go.Proofs.Ytfjgiaimlmnepaa
open Go Go.V Go.B

/-- One cell of one of them is written. -/
theorem own_setW {w : World} {B n c : Nat} {A : Option Addr} {xs : List Wt} (own : w.ownsRow B 34 6 (.slice A n c) n (flatW xs)) {i k : Nat} {x y : Wt} {v : Value} (hi : xs[i]? = some x) (hk : k < 6) (hy : y.cells = x.cells.set k v)
    {t : TypeId} (ht : (Try.prog.info? t).map (·.size) = some 1) (hv : v.oneCell' = true) (hc : v.cells = #[v]) :
    ∃ g w', A = some ⟨g, 0, none⟩ ∧ (Instr.storeAt t (.pointer (some (Addr.add (Addr.add ⟨g, 0, none⟩ (i * 6)) k))) v).run Try.prog w = .ok () w' ∧ w'.ownsRow B 34 6 (.slice A n c) n (flatW (xs.set i y)) ∧ Ext (ownF A) w w' := by
  have hxl := own_len_xs own
  have hil := (List.getElem?_eq_some_iff.1 hi).1
  obtain ⟨g, bs, rfl, hBg, hbk, hbl, hcm, htk⟩ := own_blk own (by omega)
  have hnc := own_cap own
  obtain ⟨w', hr, hb', e⟩ := store1 (P := Try.prog) (v := v) ht hbk (i := i * 6 + k) (by omega) hv hc
  refine ⟨g, w', rfl, ?_, own_of hb' hBg hnc hcm (by simpa using hbl) ?_, e⟩
  · rw [Addr.add_lit, Addr.add_lit]
    have : 0 + i * 6 + k = i * 6 + k := by omega
    rw [this]; exact hr
  · rw [List.take_set, htk]
    exact WL.flat_set hi hy (by show k < 6; exact hk)
def Wt.woken (x : Wt) : Wt := { x with asleep := false }
theorem woken_step {xs : List Wt} {a : Nat} (ha : a < xs.length) : ∃ x, xs[a]? = some x ∧ ((xs.take a).map Wt.woken ++ xs.drop a)[a]? = some x ∧ ((xs.take a).map Wt.woken ++ xs.drop a).set a x.woken = (xs.take (a + 1)).map Wt.woken ++ xs.drop (a + 1) := by
  refine ⟨xs[a], List.getElem?_eq_getElem ha, ?_, ?_⟩
  · rw [List.getElem?_append_right (by simp; omega)]
    simp [ha, Nat.min_eq_left (Nat.le_of_lt ha)]
  · have h1 : ((xs.take a).map Wt.woken).length = a := by simp; omega
    rw [List.set_append_right _ _ (by omega), h1, Nat.sub_self, List.drop_eq_getElem_cons ha, List.set_cons_zero, List.take_succ_eq_append_getElem ha, List.map_append, List.append_assoc]
    rfl
theorem Wake_c {w : World} {B p : Nat} {f : List Nat} {xs : List Wt} {next : Nat} (h : QAt w B p f xs next) {R : Ending → World → Prop}
    (k : ∀ w', QAt w' B p f (xs.map Wt.woken) next → Ext f w w' → R (.returned undef) w') : Calls Try.prog 18 #[.pointer (some ⟨p, 0, none⟩)] w R := by
  obtain ⟨r, A, n, c, m, q, i, rfl⟩ := h
  apply queue_Queue_Wake_nf
  have hxl := own_len_xs q.own
  have hl := i.len
  have hr0 := q.hr
  simp only [List.mem_cons, not_or] at hr0
  refine sel_false rfl (ptr_in ⟨_, _, _, cadd q.hdr rfl, ?_⟩)
  refine ⟨fun t w' => ∃ (a : Nat) (m' : List (ByteArray × Wt)), t = a ∧ a ≤ n ∧ QM w' B p r A n c m' ((xs.take a).map Wt.woken ++ xs.drop a) next ∧ QInv ((xs.take a).map Wt.woken ++ xs.drop a) m' next ∧ Ext (p :: r :: ownF A) w w', fun t _ => n - t.toNat, ⟨0, m, rfl, by omega, by simpa using q, by simpa using i, Ext.refl _ _⟩, ?_⟩
  rintro _ _ w1 ⟨a, m1, rfl, ha, q1, i1, e1⟩
  refine sel_dec (fun hlt => ?_) (fun hge => ?_)
  · obtain ⟨x, hx, hx1, hset⟩ := woken_step (xs := xs) (a := a) (by omega)
    have hx1m := List.mem_of_getElem? hx1
    obtain ⟨g, w2, rfl, hr2, own2, e2⟩ := own_setW q1.own (k := 5) (y := x.woken) (v := .bool false) hx1 (by omega) rfl (t := 4) i4s rfl rfl
    rw [hset] at own2
    have hdr2 := q1.hdr.ext e2 q.hp
    have mp2 := q1.mp.ext e2 hr0.2
    have hx2 : ((xs.take (a + 1)).map Wt.woken ++ xs.drop (a + 1))[a]? = some x.woken := by
      rw [← hset]
      rw [List.getElem?_set_self (by have := (List.getElem?_eq_some_iff.1 hx1).1; exact this)]
    obtain ⟨ad, ead, rdx⟩ := WL.read (own_cells own2) hx2
    cases ead
    rw [WLsz] at rdx
    have rdx : cellsC (fun a v => w2.cell? a = some v) (Addr.add ⟨g, 0, none⟩ (Int.toNat (a : Int) * 6)) x.woken.cells := by rw [Int.toNat_natCast]; exact rdx
    obtain ⟨w3, hr3, mp3, e3⟩ := store_map (P := Try.prog) (w := w2.drew) kS u60 mp2.drew x.woken.name x.woken
    have i3 := i1.turn q1.mp.nodup hx1 (x := x.woken) rfl rfl rfl (i1.tries x hx1m) (i1.til x hx1m)
    rw [hset] at i3
    refine ptr_in ⟨_, _, _, cadd q1.hdr rfl, when_dec ⟨by omega, by omega⟩ (ptr_in ⟨_, by rw [Int.toNat_natCast]; exact hr2, ptr_in ⟨_, cadd hdr2 rfl, ptr_in ⟨_, _, _, cadd hdr2 rfl, when_dec ⟨by omega, by omega⟩ (ptr_in ⟨_, ?_, ptr_in ⟨_, _, _, cadd hdr2 rfl, when_dec ⟨by omega, by omega⟩ (ptr_in ⟨_, _, _, _, _, _, rdx, _, hr3, ?_, ?_⟩)⟩⟩)⟩⟩⟩)⟩
    · exact rdx 0 (.string x.woken.name) rfl
    · rw [up64 a (by omega)]
      refine ⟨a + 1, _, rfl, by omega, ⟨?_, ?_, mp3, q.hp, q.hr, ?_⟩, i3, ?_⟩
      · exact (hdr2.ext (Ext.refl [] w2).drew (by simp)).ext e3 (by simp; exact fun e => hr0.1 e.symm)
      · exact own_ext (own_ext own2 (Ext.refl [] w2).drew (by simp)) e3 (fun b hb => by simp; exact fun e => by subst e; exact hr0.2 hb)
      · exact Nat.le_trans q1.hB (Nat.le_trans e2.size e3.size)
      · exact ((e1.trans' e2 (fun b hb => .inl (by simp [hb]))).drew).trans' e3 (fun b hb => .inl (by simp at hb; simp [hb]))
    · rw [up64 a (by omega)]; simp only [Int.toNat_natCast]; omega
  · have : a = n := by omega
    subst this
    rw [← hxl, List.take_length, List.drop_length, List.append_nil] at q1 i1
    exact k w1 ⟨r, A, _, c, m1, q1, i1, rfl⟩ e1
theorem Wake_nil {w : World} {R : Ending → World → Prop} (k : R (.returned undef) w) : Calls Try.prog 18 #[.pointer none] w R := by
  apply queue_Queue_Wake_nf
  exact sel_true rfl k
theorem Ready_nil {now : Int} {w : World} {R : Ending → World → Prop} (k : R (.returned (.tuple #[.string ByteArray.empty, .bool false])) w) : Calls Try.prog 20 #[.pointer none, .int .i64 now] w R := by
  apply queue_Queue_Ready_nf
  exact sel_true rfl k
theorem Len_nil {w : World} {R : Ending → World → Prop} (k : R (.returned (.int .i64 0)) w) : Calls Try.prog 22 #[.pointer none] w R := by
  apply queue_Queue_Len_nf
  exact sel_true rfl k
theorem Next_nil {w : World} {R : Ending → World → Prop} (k : R (.returned (.int .i64 0)) w) : Calls Try.prog 23 #[.pointer none] w R := by
  apply queue_Queue_Next_nf
  exact sel_true rfl k
theorem List_nil {w : World} {R : Ending → World → Prop} (k : R (.returned (.slice none 0 0)) w) : Calls Try.prog 19 #[.pointer none] w R := by
  apply queue_Queue_List_nf
  exact sel_true rfl k

/-! ### Restore -/
def soundV (x : Wt) (next : Int) : Prop := 0 ≤ x.seq ∧ x.seq < next ∧ 0 ≤ x.tries ∧ x.tries ≤ 1099511627776 ∧ 0 ≤ x.til ∧ x.til ≤ 1099511627840
instance (x : Wt) (next : Int) : Decidable (soundV x next) := by unfold soundV; infer_instance
theorem sound_c (x : Wt) (next : Int) {w : World} {R : Ending → World → Prop} (k : ∀ w', Ext [] w w' → R (.returned (.bool (decide (soundV x next)))) w') : Calls Try.prog 34 #[x.val, .int .i64 next] w R := by
  unfold Wt.val
  apply queue_sound_nf
  intro w1 h1
  obtain ⟨b1, x1, z1⟩ := box_new (cs := x.cells) h1
  have no : ¬ soundV x next → R (.returned (.bool false)) w1 := fun h => by
    have := k w1 x1
    rwa [decide_eq_false h] at this
  refine ⟨_, cadd b1 rfl, sel_dec (fun h1 => ?_) (fun h => no (fun s => by unfold soundV at s; omega))⟩
  refine ⟨_, cadd b1 rfl, sel_dec (fun h2 => ?_) (fun h => no (fun s => by unfold soundV at s; omega))⟩
  refine ⟨_, cadd b1 rfl, sel_dec (fun h3 => ?_) (fun h => no (fun s => by unfold soundV at s; omega))⟩
  refine ⟨_, cadd b1 rfl, sel_dec (fun h4 => ?_) (fun h => no (fun s => by unfold soundV at s; omega))⟩
  refine ⟨_, cadd b1 rfl, sel_dec (fun h5 => ?_) (fun h => no (fun s => by unfold soundV at s; omega))⟩
  refine ⟨_, cadd b1 rfl, ?_⟩
  have := k w1 x1
  rwa [show decide (soundV x next) = decide (x.til ≤ 1099511627840) by
    apply decide_eq_decide.2
    unfold soundV
    constructor
    · exact fun h => h.2.2.2.2.2
    · exact fun h => ⟨by omega, by omega, by omega, by omega, by omega, h⟩] at this
/-- These pods may stand so. -/
structure OkL (xs : List Wt) (next : Int) : Prop where
  sorted : Sorted xs
  sound : ∀ x ∈ xs, soundV x next
  names : (xs.map (·.name)).Nodup
  seqs : (xs.map (·.seq)).Nodup
def ValidQ (xs : List Wt) (next : Int) : Prop := 0 ≤ next ∧ next ≤ 1099511627776 ∧ xs.length ≤ 2048 ∧ OkL xs next
theorem OkL.take {xs : List Wt} {next : Int} (h : OkL xs next) (a : Nat) : OkL (xs.take a) next :=
  ⟨h.sorted.sublist (List.take_sublist _ _), fun x hx => h.sound x (List.mem_of_mem_take hx), h.names.sublist ((List.take_sublist _ _).map _), h.seqs.sublist ((List.take_sublist _ _).map _)⟩
theorem take_snoc {xs : List Wt} {a : Nat} {x : Wt} (h : xs[a]? = some x) : xs.take (a + 1) = xs.take a ++ [x] := by
  obtain ⟨h1, rfl⟩ := List.getElem?_eq_some_iff.1 h
  exact List.take_succ_eq_append_getElem h1
theorem OkL.snoc {xs : List Wt} {next : Int} {a : Nat} {x : Wt} (hx : xs[a]? = some x) : OkL (xs.take (a + 1)) next ↔ OkL (xs.take a) next ∧ soundV x next ∧ (∀ y ∈ xs.take a, y.name ≠ x.name) ∧ (∀ y ∈ xs.take a, y.seq ≠ x.seq) ∧ (∀ y, 0 < a → xs[a - 1]? = some y → ahead y x = true) := by
  rw [take_snoc hx]
  constructor
  · rintro ⟨h1, h2, h3, h4⟩
    unfold Sorted at h1
    rw [List.pairwise_append] at h1
    rw [List.map_append, List.nodup_append] at h3 h4
    refine ⟨⟨h1.1, fun y hy => h2 y (by simp [hy]), h3.1, h4.1⟩, h2 x (by simp), fun y hy e => ?_, fun y hy e => ?_, fun y ha hy => h1.2.2 y ?_ x (by simp)⟩
    · exact h3.2.2 y.name (List.mem_map.2 ⟨y, hy, rfl⟩) x.name (by simp) e
    · exact h4.2.2 y.seq (List.mem_map.2 ⟨y, hy, rfl⟩) x.seq (by simp) e
    · exact List.mem_of_getElem? (i := a - 1) (by rw [List.getElem?_take, if_pos (by omega)]; exact hy)
  · rintro ⟨⟨h1, h2, h3, h4⟩, h5, h6, h7, h8⟩
    refine ⟨?_, fun y hy => ?_, ?_, ?_⟩
    · unfold Sorted at h1 ⊢
      rw [List.pairwise_append]
      refine ⟨h1, by simp, fun y hy z hz => ?_⟩
      simp at hz; subst hz
      obtain ⟨j, hj⟩ := List.mem_iff_getElem?.1 hy
      have hjl := (List.getElem?_eq_some_iff.1 hj).1
      rw [List.length_take] at hjl
      have hl := (List.getElem?_eq_some_iff.1 hx).1
      obtain ⟨u, hu⟩ : ∃ u, xs[a - 1]? = some u := ⟨xs[a - 1]'(by omega), List.getElem?_eq_getElem (by omega)⟩
      have hu' : (xs.take a)[a - 1]? = some u := by rw [List.getElem?_take, if_pos (by omega)]; exact hu
      have hux := h8 u (by omega) hu
      rcases Nat.lt_or_ge j (a - 1) with h' | h'
      · exact ahead_trans (Sorted.get h1 hj hu' h') hux
      · have : j = a - 1 := by omega
        subst this
        rw [hj] at hu'; cases hu'; exact hux
    · rcases List.mem_append.1 hy with hy | hy
      · exact h2 y hy
      · simp at hy; subst hy; exact h5
    · rw [List.map_append, List.nodup_append]
      refine ⟨h3, by simp, fun u hu v hv e => ?_⟩
      obtain ⟨y, hy, rfl⟩ := List.mem_map.1 hu
      simp at hv; exact h6 y hy (e.trans hv)
    · rw [List.map_append, List.nodup_append]
      refine ⟨h4, by simp, fun u hu v hv e => ?_⟩
      obtain ⟨y, hy, rfl⟩ := List.mem_map.1 hu
      simp at hv; exact h7 y hy (e.trans hv)
end Go.Proofs.Ytfjgiaimlmnepaa
