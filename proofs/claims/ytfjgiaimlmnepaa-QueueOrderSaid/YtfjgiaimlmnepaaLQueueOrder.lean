/- Whatever script comes in, berthlaw25.QueueOrder returns true and leaves what came in as it was. -/
import Derived.Test.YtfjgiaimlmnepaaQ10
import Derived.Test.YtfjgiaimlmnepaaRows
set_option linter.unusedVariables false
set_option linter.unusedSimpArgs false
namespace Go.Proofs.Ytfjgiaimlmnepaa
open Go Go.V Go.B
open Go.ChangeShapes Go.WideShapes Go.ChangeAt Go.RowKit

theorem own : ownKnob Try.prog.godebug = none := by kernel_rfl
theorem laidOut : laidOutB Try.prog = true := by kernel_rfl
/-- No name and no number stands twice. -/
theorem apart_c {w : World} {A : Option Addr} {l : Nat} {xs : List Wt} (hc : Cells w A (flatW xs)) (hl : xs.length = l) (hn : (xs.map (·.name)).Nodup) (hs : (xs.map (·.seq)).Nodup) (hb : l < 4611686018427387904) {i : Nat} (hi : i < l) {R : Ending → World → Prop} {K : World → Prop} (k : ∀ w', Ext [] w w' → K w') :
  ∃ I53 : Int → World → Prop, ∃ μ54 : Int → World → Nat, I53 0 w ∧
  ∀ j_55 (j56 : Nat → Value) (w57 : World), I53 j_55 w57 →
  (V.sel (decide (j_55 < (i : Int)))
  (V.when (decide ((0 : Int) ≤ j_55 ∧ (j_55 : Int) < ((l : Nat) : Int))) (V.ptr A fun a58 =>
  ∃ s59, World.cell? w57 (Addr.add (Addr.add a58 ((Int.toNat j_55) * 6)) 0) = some (Value.string s59) ∧
  V.when (decide ((0 : Int) ≤ (i : Int) ∧ ((i : Int) : Int) < ((l : Nat) : Int))) (V.ptr A fun a60 =>
  ∃ s61, World.cell? w57 (Addr.add (Addr.add a60 ((Int.toNat (i : Int)) * 6)) 0) = some (Value.string s61) ∧
  V.sel (ByteArray.toList s59 == ByteArray.toList s61)
  (R (Ending.returned (Value.bool false)) (World.drew w57))
  (V.when (decide ((0 : Int) ≤ j_55 ∧ (j_55 : Int) < ((l : Nat) : Int))) (V.ptr A fun a62 =>
  ∃ n63, World.cell? w57 (Addr.add (Addr.add a62 ((Int.toNat j_55) * 6)) 2) = some (Value.int .i64 n63) ∧
  V.when (decide ((0 : Int) ≤ (i : Int) ∧ ((i : Int) : Int) < ((l : Nat) : Int))) (V.ptr A fun a64 =>
  ∃ n65, World.cell? w57 (Addr.add (Addr.add a64 ((Int.toNat (i : Int)) * 6)) 2) = some (Value.int .i64 n65) ∧
  V.sel (n63 == n65)
  (R (Ending.returned (Value.bool false)) (World.drew w57))
  (I53 (IntKind.wrap .i64 (j_55 + 1)) (World.drew w57) ∧ μ54 (IntKind.wrap .i64 (j_55 + 1)) (World.drew w57) < μ54 j_55 w57)))))))
  (K w57)) := by
  refine ⟨fun t w' => ∃ a : Nat, t = a ∧ a ≤ i ∧ Ext [] w w', fun t _ => i - t.toNat, ⟨0, rfl, by omega, Ext.refl _ _⟩, ?_⟩
  rintro _ _ w1 ⟨a, rfl, ha, e1⟩
  refine sel_dec (fun hlt => ?_) (fun hge => k w1 e1)
  obtain ⟨x, ad, hx, rfl, rx⟩ := rowW (hc.ext0 e1) hl (a := a) (by omega)
  obtain ⟨y, ad', hy, he, ry⟩ := rowW (hc.ext0 e1) hl (a := i) (by omega)
  cases he
  obtain ⟨hxl, ex⟩ := List.getElem?_eq_some_iff.1 hx
  obtain ⟨hyl, ey⟩ := List.getElem?_eq_some_iff.1 hy
  have h1 := (List.pairwise_iff_getElem.1 hn) a i (by simp; omega) (by simp; omega) (by omega)
  have h2 := (List.pairwise_iff_getElem.1 hs) a i (by simp; omega) (by simp; omega) (by omega)
  simp only [List.getElem_map, ex, ey] at h1 h2
  refine when_dec ⟨by omega, by omega⟩ (ptr_in ⟨_, rx 0 _ rfl, when_dec ⟨by omega, by omega⟩ (ptr_in ⟨_, ry 0 _ rfl, ?_⟩)⟩)
  rw [beqBytes]
  refine sel_dec (fun h => absurd h h1) (fun _ => ?_)
  refine when_dec ⟨by omega, by omega⟩ (ptr_in ⟨_, rx 2 _ rfl, when_dec ⟨by omega, by omega⟩ (ptr_in ⟨_, ry 2 _ rfl, sel_intro (fun h => absurd (eq_of_beq h) h2) (fun _ => ?_)⟩)⟩)
  rw [up64 a (by omega)]
  exact ⟨⟨a + 1, rfl, by omega, e1.drew⟩, by simp only [Int.toNat_natCast]; omega⟩
/-- What is picked of a list. -/
def pick (P : Wt → Bool) (xs : List Wt) : ByteArray × Bool := match xs.find? P with
  | some x => (x.name, true)
  | none => (ByteArray.empty, false)
theorem pick_cons (P : Wt → Bool) (x : Wt) (xs : List Wt) : pick P (x :: xs) = if P x = true then (x.name, true) else pick P xs := by
  unfold pick
  rw [List.find?_cons]
  cases h : P x <;> simp
def readyN (now : Int) (x : Wt) : Bool := !x.asleep && (decide (x.til ≤ now) && (decide (now ≥ 0) && decide (now ≤ 1099511627776)))
theorem pick_ready (xs : List Wt) (now : Int) : pick (readyN now) xs = readyV xs now := by
  unfold readyV
  split
  · rename_i h
    unfold pick
    rw [List.find?_eq_none.2 (fun x _ => by unfold readyN; simp; omega)]
  · rename_i h
    have : readyN now = fun x => !x.asleep && decide (x.til ≤ now) := by
      funext x
      unfold readyN
      rw [decide_eq_true (show now ≥ 0 by omega), decide_eq_true (show now ≤ 1099511627776 by omega)]
      simp
    rw [this]
    rfl
theorem queueOrder_c {W : World} {A : Option Addr} {n c : Nat} {ops : List Op} (ho : OpsAt W A n ops) {R : Ending → World → Prop} (k : ∀ w', Ext [] W w' → R (.returned (.bool true)) w') : Calls Try.prog 5 #[.slice A n c] W R := by
  apply berthlaw25_QueueOrder_nf
  have hb := ho.2.2.2
  refine awake_c fun w1 e1 => ⟨_, rfl, sel_false rfl (New_c fun p f w2 e2 q2 hf => ⟨_, rfl, play_c (s := ⟨[], 0⟩) q2 ho (e1.trans e2) (fun b hb => Nat.le_trans e1.size (hf b hb)) fun w3 f3 q3 e3 g3 => ⟨rfl, ?_⟩⟩)⟩
  have hf0 : ∀ b ∈ f, W.heap.size ≤ b := fun b hb => Nat.le_trans e1.size (hf b hb)
  have t2 : Ext [] W w2 := e1.trans e2
  have t3 : Ext [] W w3 := Ext.old t2 hf0 e3
  have hf3 : ∀ b ∈ f3, W.heap.size ≤ b := Grow.old t2 hf0 g3
  have hfew := few ops
  obtain ⟨m, inv⟩ := q3.inv
  generalize playV ⟨[], 0⟩ ops = s at q3 hfew inv ⊢
  have hlen := inv.len
  refine List_c q3 fun L lc w4 e4 own4 => ⟨_, _, _, rfl, Len_c (q3.ext0 e4) ⟨_, rfl, sel_false (by simp) ?_⟩⟩
  have q4 := q3.ext0 e4
  have t4 := t3.trans e4
  have c4 := own_cells own4
  refine ⟨fun t w' => ∃ a : Nat, t = a ∧ a ≤ s.xs.length ∧ Ext [] w4 w', fun t _ => s.xs.length - t.toNat, ⟨0, rfl, by omega, Ext.refl _ _⟩, ?_⟩
  rintro _ _ w5 ⟨a, rfl, ha, e5⟩
  refine sel_dec (fun hlt => ?_) (fun hge => ?_)
  · have hlt : a < s.xs.length := by omega
    obtain ⟨x, ad, hx, rfl, -⟩ := rowW (c4.ext0 e5) rfl hlt
    have hxm := List.mem_of_getElem? hx
    have rdS : ∀ j v, x.cells[j]? = some v → ∀ w', Ext [] w4 w' → w'.cell? (Addr.add (Addr.add ad (Int.toNat (a : Int) * 6)) j) = some v := fun j v hj w' e => by
      obtain ⟨y, ad', hy, he, rd⟩ := rowW (c4.ext0 e) rfl hlt
      cases he
      rw [hx] at hy
      cases hy
      exact rd j v hj
    have hseq := inv.seq x hxm
    have hx0 := hfew x hxm
    have fin : ∀ w', Ext [] w4 w' → (∃ a' : Nat, IntKind.wrap .i64 ((a : Int) + 1) = a' ∧ a' ≤ s.xs.length ∧ Ext [] w4 w') ∧ s.xs.length - (IntKind.wrap .i64 ((a : Int) + 1)).toNat < s.xs.length - (a : Int).toNat := fun w' e => by
      rw [up64 a (by omega)]
      exact ⟨⟨a + 1, rfl, by omega, e⟩, by simp only [Int.toNat_natCast]; omega⟩
    refine ⟨fun w' => Ext [] w4 w', e5.drew, when_dec ⟨by omega, by omega⟩ (ptr_in ⟨_, rdS 2 _ rfl, sel_dec (fun h => by omega) (fun _ => when_dec ⟨by omega, by omega⟩ (ptr_in ⟨_, rdS 2 _ rfl, ?_⟩))⟩)⟩
    refine Next_c (q4.ext0 e5.drew) ⟨_, rfl, e5.drew, sel_dec (fun h => by omega) (fun _ => ?_)⟩
    refine sel_dec (fun hpos => ?_) (fun hz => ?_)
    · have hpos : 0 < a := by omega
      have ei : IntKind.wrap .i64 ((a : Int) - 1) = ((a - 1 : Nat) : Int) := by rw [w64 (by omega) (by omega)]; omega
      rw [ei]
      obtain ⟨y, hy⟩ : ∃ y, s.xs[a - 1]? = some y := ⟨s.xs[a - 1]'(by omega), List.getElem?_eq_getElem (by omega)⟩
      have rdY : ∀ w', Ext [] w4 w' → cellsC (fun a v => w'.cell? a = some v) (ad.add (Int.toNat ((a - 1 : Nat) : Int) * 6)) y.cells := fun w' e => by
        obtain ⟨y', ad', hy', he, rd⟩ := rowW (c4.ext0 e) rfl (a := a - 1) (by omega)
        cases he
        rw [hy] at hy'
        cases hy'
        exact rd
      refine when_dec ⟨by omega, by omega⟩ (ptr_in ⟨_, _, _, _, _, _, cellsC_S rdY, when_dec ⟨by omega, by omega⟩ (ptr_in ⟨_, _, _, _, _, _, cellsC_S (S := fun w' => Ext [] w4 w') (vs := x.cells) fun w' e j v hj => rdS j v hj w' e, ?_⟩)⟩)
      refine lawAhead_c y x fun w6 e6 => ⟨_, rfl, e5.drew.trans e6, sel_false (by rw [inv.sorted.get hy hx (by omega)]; rfl) ?_⟩
      refine when_dec ⟨by omega, by omega⟩ (ptr_in ⟨_, rdS 3 _ rfl, sel_intro (fun h => ?_) (fun h => ?_)⟩)
      · obtain ⟨h5, h4⟩ := hx0.2.2 (eq_of_beq h)
        refine when_dec ⟨by omega, by omega⟩ (ptr_in ⟨_, rdS 5 _ rfl, sel_false h5 (when_dec ⟨by omega, by omega⟩ (ptr_in ⟨_, rdS 4 _ rfl, sel_false (by rw [h4]; rfl) ?_⟩))⟩)
        exact apart_c (c4.ext0 (e5.drew.trans e6)) rfl inv.names inv.seqs (by omega) hlt fun w' e => fin w' ((e5.drew.trans e6).trans e)
      · exact apart_c (c4.ext0 (e5.drew.trans e6)) rfl inv.names inv.seqs (by omega) hlt fun w' e => fin w' ((e5.drew.trans e6).trans e)
    · refine when_dec ⟨by omega, by omega⟩ (ptr_in ⟨_, rdS 3 _ rfl, sel_intro (fun h => ?_) (fun h => ?_)⟩)
      · obtain ⟨h5, h4⟩ := hx0.2.2 (eq_of_beq h)
        refine when_dec ⟨by omega, by omega⟩ (ptr_in ⟨_, rdS 5 _ rfl, sel_false h5 (when_dec ⟨by omega, by omega⟩ (ptr_in ⟨_, rdS 4 _ rfl, sel_false (by rw [h4]; rfl) ?_⟩))⟩)
        exact apart_c (c4.ext0 e5.drew) rfl inv.names inv.seqs (by omega) hlt fun w' e => fin w' (e5.drew.trans e)
      · exact apart_c (c4.ext0 e5.drew) rfl inv.names inv.seqs (by omega) hlt fun w' e => fin w' (e5.drew.trans e)
  · -- what is ready
    refine ⟨fun t w' => ∃ a : Nat, t = a ∧ a ≤ n ∧ Ext [] w4 w', fun t _ => n - t.toNat, ⟨0, rfl, by omega, e5⟩, ?_⟩
    rintro _ _ w6 ⟨a, rfl, ha, e6⟩
    have last : Calls Try.prog 25 #[.pointer (some ⟨p, 0, none⟩)] w6 fun e w' => ∃ b, e = .returned (.bool b) ∧ R (.returned (.bool b)) w' :=
      down_c (q4.ext0 e6) fun w' e => ⟨_, rfl, k _ (Ext.old (t4.trans e6) hf3 e)⟩
    refine sel_dec (fun hlt => sel_dec (fun h20 => ?_) (fun _ => last)) (fun _ => last)
    obtain ⟨o, ad, hoa, rfl, rd⟩ := (ho.ext0 (t4.trans e6)).read (a := a) (by omega)
    refine when_dec ⟨by omega, by omega⟩ (ptr_in ⟨_, rd 3 _ rfl, ?_⟩)
    refine lt_eq (w64 (by omega) (by omega)) ?_
    refine ⟨fun wn sm t w' => w' = w6 ∧ ∃ b : Nat, t = (b : Int) - 1 ∧ b ≤ s.xs.length ∧ (wn, sm) = pick (readyN o.now) (s.xs.drop b), fun _ _ t _ => (t + 1).toNat, ⟨rfl, s.xs.length, rfl, by omega, by rw [List.drop_length]; rfl⟩, ?_⟩
    rintro wn sm _ _ w7 ⟨rfl, b, rfl, hb7, hp⟩
    refine sel_dec (fun hge => ?_) (fun hlt0 => ?_)
    · obtain ⟨b', rfl⟩ : ∃ b', b = b' + 1 := ⟨b - 1, by omega⟩
      have eb : ((b' + 1 : Nat) : Int) - 1 = (b' : Int) := by omega
      rw [eb]
      obtain ⟨x, ad', hx, hA, rx⟩ := rowW (c4.ext0 e6) rfl (a := b') (by omega)
      have hd : s.xs.drop b' = x :: s.xs.drop (b' + 1) := by
        obtain ⟨hxl, ex⟩ := List.getElem?_eq_some_iff.1 hx
        rw [List.drop_eq_getElem_cons hxl, ex]
      have ei : IntKind.wrap .i64 ((b' : Int) - 1) = (b' : Int) - 1 := w64 (by omega) (by omega)
      rw [ei]
      have stay : readyN o.now x = false → (w7 = w7 ∧ ∃ b : Nat, (b' : Int) - 1 = (b : Int) - 1 ∧ b ≤ s.xs.length ∧ (wn, sm) = pick (readyN o.now) (s.xs.drop b)) ∧ ((b' : Int) - 1 + 1).toNat < ((b' : Int) + 1).toNat := fun h =>
        ⟨⟨rfl, b', rfl, by omega, by rw [hd, pick_cons, h]; exact hp⟩, by omega⟩
      subst hA
      refine when_dec ⟨by omega, by omega⟩ (ptr_in ⟨_, rx 5 _ rfl, sel_intro (fun h1 => ?_) (fun h1 => stay (by unfold readyN; rw [h1]; rfl))⟩)
      refine when_dec ⟨by omega, by omega⟩ (ptr_in ⟨_, rx 4 _ rfl, sel_dec (fun h2 => sel_dec (fun h3 => sel_dec (fun h4 => ?_) (fun h4 => stay ?_)) (fun h3 => stay ?_)) (fun h2 => stay ?_)⟩)
      · refine when_dec ⟨by omega, by omega⟩ (ptr_in ⟨_, rx 0 _ rfl, ⟨rfl, b', rfl, by omega, ?_⟩, by show ((b' : Int) - 1 + 1).toNat < ((b' : Int) + 1).toNat; omega⟩)
        rw [hd, pick_cons, if_pos (by unfold readyN; rw [h1, decide_eq_true h2, decide_eq_true h3, decide_eq_true h4]; rfl)]
      · unfold readyN; rw [decide_eq_false h4]; simp
      · unfold readyN; rw [decide_eq_false h3]; simp
      · unfold readyN; rw [decide_eq_false h2]; simp
    · have hb0 : b = 0 := by omega
      subst hb0
      rw [List.drop_zero, pick_ready] at hp
      refine Ready_c (q4.ext0 e6) o.now fun w8 e8 => ⟨_, _, rfl, ?_⟩
      rw [← hp]
      refine sel_false (by simp) (sel_false (by simp) ?_)
      rw [up64 a (by omega)]
      exact ⟨⟨a + 1, rfl, by omega, e6.trans e8⟩, by simp only [Int.toNat_natCast]; omega⟩
theorem queueOrder_lifted (os : Os) (started : os.Started) (H : Type) (enc : TypeId × Value → H) :
    ReturnsInHanded {} Try.checked os 5 .any (Rows.queueOrderSpec.pre6 enc Try.prog Try.f5 Rows.queueOrderRow.domain false) (Rows.queueOrderSpec.post enc Try.prog Try.f5 false true false false) :=
  lift1 (C := Try.checked) (T := 25) (tb := 4) own (by kernel_rfl) Try.func5 (by kernel_rfl) (by kernel_rfl) Try.underlying4 rfl (fun _ _ => rfl) laidOut (by kernel_rfl) (of_decide_eq_true (by kernel_rfl)) os started H enc
    (fun W base v d p hok h hw => by
      obtain ⟨A, n, c, ops, rfl, ho, hnc⟩ := open_ops hok h hw
      exact queueOrder_c ho fun w' e => ⟨rfl, e.below⟩)
    (ChangeSpec.witness6 (enc := enc) (C := Try.checked) false ⟨#[], #[.slice none 0 0], []⟩ 8 (by kernel_rfl) (by kernel_rfl) (by kernel_rfl) (by kernel_rfl))
theorem queueOrder_holds : Rows.QueueOrderSaid :=
  OpenClaim.holds_of_wide 5 Try.f5 rfl rfl rfl rfl rfl rfl rfl ⟨rfl, rfl, rfl, rfl, rfl⟩ rfl rfl rfl rfl rfl (by kernel_rfl) Try.func5 (by kernel_rfl)
    (of_decide_eq_true (by kernel_rfl)) (by unfold Func.isWrapper; first | (rw [if_pos (by decide +kernel)]; kernel_rfl) | (rw [if_neg (by decide +kernel)]; exact ⟨rfl, rfl⟩))
    (fun os started H enc _ => queueOrder_lifted os started H enc)
end Go.Proofs.Ytfjgiaimlmnepaa
