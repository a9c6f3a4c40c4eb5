/- Posting: what the laws share. -/
import Derived.Test.YtpipenkaaodlgaaGreatDoorZi
set_option linter.unusedVariables false
set_option linter.unusedSimpArgs false
namespace Go.Proofs.YtpipenkaaodlgaaGreatDoor
open Go Go.V Go.B

theorem num_c (e : Int) {w : World} {R : Ending → World → Prop} (k : R (.returned (.int .i64 e)) w) : Calls Tryz.prog 11 #[.int .i64 e] w R := by
  apply berthlaw07_num_nf
  exact k
theorem ints_at {w : World} {A : Option Addr} {xs : List Int} (h : Cells w A (ints .i64 xs)) {n a : Nat} (hn : xs.length = n) (ha : a < n) : ∃ x ad, xs[a]? = some x ∧ A = some ad ∧ w.cell? (Addr.add ad (Int.toNat (a : Int) * 1)) = some (.int .i64 x) := by
  have hx : xs[a]? = some (xs[a]'(by omega)) := List.getElem?_eq_getElem (by omega)
  obtain ⟨ad, h1, h2⟩ := cells_int h hx
  exact ⟨_, ad, hx, h1, h2⟩
theorem SameInts_c {w : World} {A A' : Option Addr} {n n' c c' : Nat} {xs ys : List Int} (hx : Cells w A (ints .i64 xs)) (hn : xs.length = n) (hy : Cells w A' (ints .i64 ys)) (hn' : ys.length = n') (hb : n < 4611686018427387904) {R : Ending → World → Prop}
    (k : ∀ w', Ext [] w w' → R (.returned (.bool (decide (xs = ys)))) w') : Calls Tryz.prog 45 #[.slice A n c, .slice A' n' c'] w R := by
  apply berthref01_SameInts_nf
  refine sel_intro (fun h => ?_) (fun h => ?_)
  · have h : n ≠ n' := fun e => by rw [e] at h; simp at h
    have := k w (Ext.refl _ _)
    rw [decide_eq_false (fun e => h (by rw [← hn, ← hn', e]))] at this
    exact this
  have h : n = n' := by
    have h : ((n : Nat) : Int) = ((n' : Nat) : Int) := by simpa using h
    omega
  subst h
  refine ⟨fun t w' => ∃ a : Nat, t = a ∧ a ≤ n ∧ Ext [] w w' ∧ xs.take a = ys.take a, fun t _ => n - t.toNat, ⟨0, rfl, by omega, Ext.refl _ _, rfl⟩, ?_⟩
  rintro _ _ w1 ⟨a, rfl, ha, e1, he⟩
  refine sel_dec (fun hlt => ?_) (fun hge => ?_)
  · obtain ⟨x, ad, hxx, rfl, rx⟩ := ints_at (hx.ext0 e1) hn (a := a) (by omega)
    obtain ⟨y, ad', hyy, rfl, ry⟩ := ints_at (hy.ext0 e1) hn' (a := a) (by omega)
    refine when_dec ⟨by omega, by omega⟩ (ptr_in ⟨x, rx, when_dec ⟨by omega, by omega⟩ (ptr_in ⟨y, ry, ?_⟩)⟩)
    refine sel_intro (fun h => ?_) (fun h => ?_)
    · have h : x ≠ y := fun e => by subst e; simp at h
      have := k w1.drew e1.drew
      rw [decide_eq_false (fun e => h (by rw [e, hyy] at hxx; injection hxx with e2; exact e2.symm))] at this
      exact this
    · have h : x = y := by simpa using h
      rw [up64 a (by omega)]
      exact ⟨⟨a + 1, rfl, by omega, e1.drew, by rw [snoc_at hxx, snoc_at hyy, he, h]⟩, by simp only [Int.toNat_natCast]; omega⟩
  · have : a = n := by omega
    subst this
    rw [List.take_of_length_le (by omega), List.take_of_length_le (by omega)] at he
    have := k w1 e1
    rw [decide_eq_true he] at this
    exact this
theorem text_at {w : World} {A : Option Addr} {xs : List ByteArray} (h : Cells w A (SL.flat xs)) {n a : Nat} (hn : xs.length = n) (ha : a < n) : ∃ x ad, xs[a]? = some x ∧ A = some ad ∧ w.cell? (Addr.add ad (Int.toNat (a : Int) * 1)) = some (.string x) := by
  obtain ⟨x, ad, h1, h2, h3⟩ := Cells.row (L := SL) h hn ha
  exact ⟨x, ad, h1, h2, h3 0 _ rfl⟩
theorem SameTexts_c {w : World} {A A' : Option Addr} {n n' c c' : Nat} {xs ys : List ByteArray} (hx : Cells w A (SL.flat xs)) (hn : xs.length = n) (hy : Cells w A' (SL.flat ys)) (hn' : ys.length = n') (hb : n < 4611686018427387904) {R : Ending → World → Prop}
    (k : ∀ w', Ext [] w w' → R (.returned (.bool (decide (xs = ys)))) w') : Calls Tryz.prog 19 #[.slice A n c, .slice A' n' c'] w R := by
  apply berthref07_SameTexts_nf
  refine sel_intro (fun h => ?_) (fun h => ?_)
  · have h : n ≠ n' := fun e => by rw [e] at h; simp at h
    have := k w (Ext.refl _ _)
    rw [decide_eq_false (fun e => h (by rw [← hn, ← hn', e]))] at this
    exact this
  have h : n = n' := by
    have h : ((n : Nat) : Int) = ((n' : Nat) : Int) := by simpa using h
    omega
  subst h
  refine ⟨fun t w' => ∃ a : Nat, t = a ∧ a ≤ n ∧ Ext [] w w' ∧ xs.take a = ys.take a, fun t _ => n - t.toNat, ⟨0, rfl, by omega, Ext.refl _ _, rfl⟩, ?_⟩
  rintro _ _ w1 ⟨a, rfl, ha, e1, he⟩
  refine sel_dec (fun hlt => ?_) (fun hge => ?_)
  · obtain ⟨x, ad, hxx, rfl, rx⟩ := text_at (hx.ext0 e1) hn (a := a) (by omega)
    obtain ⟨y, ad', hyy, rfl, ry⟩ := text_at (hy.ext0 e1) hn' (a := a) (by omega)
    refine when_dec ⟨by omega, by omega⟩ (ptr_in ⟨x, rx, when_dec ⟨by omega, by omega⟩ (ptr_in ⟨y, ry, ?_⟩)⟩)
    rw [teq]
    refine sel_intro (fun h => ?_) (fun h => ?_)
    · have h : x ≠ y := fun e => by subst e; simp at h
      have := k w1.drew e1.drew
      rw [decide_eq_false (fun e => h (by rw [e, hyy] at hxx; injection hxx with e2; exact e2.symm))] at this
      exact this
    · have h : x = y := by simpa using h
      rw [up64 a (by omega)]
      exact ⟨⟨a + 1, rfl, by omega, e1.drew, by rw [snoc_at hxx, snoc_at hyy, he, h]⟩, by simp only [Int.toNat_natCast]; omega⟩
  · have : a = n := by omega
    subst this
    rw [List.take_of_length_le (by omega), List.take_of_length_le (by omega)] at he
    have := k w1 e1
    rw [decide_eq_true he] at this
    exact this
theorem is_c {w : World} {p bw : Nat} {S : SetV} {N : Int} (hs : SetAt w p bw S) {A : Option Addr} {n c : Nat} {ys : List Int} (hy : Cells w A (ints .i64 ys)) (hn : ys.length = n) (hN : (S.N : Int) = N) (he : S.mi = ys) {R : Ending → World → Prop}
    (k : ∀ w', Ext [] w w' → R (.returned (.bool true)) w') : Calls Tryz.prog 23 #[.pointer (some ⟨p, 0, none⟩), .int .i64 N, .slice A n c] w R := by
  apply berthlaw07_is_nf
  refine sel_true rfl (Size_c hs.ref ⟨_, rfl, sel_true (by rw [hN]; simp) (Members_c hs.ref fun A' c' w' e' own => ⟨_, _, _, rfl, SameInts_c (own_cells own) (mi_length S) (hy.ext0 e') hn (by have := count_le hs.ok; omega) fun w2 e2 => ⟨_, rfl, ?_⟩⟩)⟩)
  rw [decide_eq_true he]
  exact k w2 (e'.trans e2)
def zoneL : List Lab := [(⟨#[122, 111, 110, 101]⟩, ⟨#[97]⟩)]
theorem zone_ok : (checkS zoneL).2 = 0 := by decide +kernel
theorem Sets_eq {S T : SetV} (hs : S.Ok) (ht : T.Ok) (hN : S.N = T.N) (hm : ∀ i, S.mem i = T.mem i) : S = T := SetV.ext_mem hs ht hN hm
theorem awake_c {w : World} {R : Ending → World → Prop} (k : ∀ w', Ext [] w w' → R (.returned (.bool true)) w') : Calls Tryz.prog 5 #[] w R := by
  apply berthlaw07_awake_nf
  refine New_c (N := 3) (by omega) fun w4 F x e4 hF h4 ok4 hN hlab => ⟨_, _, rfl, sel_false rfl (num_c _ ⟨_, rfl, sel_false rfl fun w8 h8 => ?_⟩)⟩
  obtain ⟨b8, x8, z8⟩ := box_new (cs := [.string ⟨#[122, 111, 110, 101]⟩, .string ⟨#[97]⟩]) h8
  have hin : LIn w8 (some ⟨w4.heap.size, 0, none⟩) 1 zoneL := ⟨Cells.of_blk b8.blk, rfl, fun x hx => by
    simp only [zoneL, List.mem_singleton] at hx
    subst hx
    exact ⟨by decide, by decide⟩, by omega⟩
  have hp : putE x.N x.lab 2 zoneL = 0 := by
    unfold putE
    rw [hN, if_neg (by omega), hlab, if_neg (by simp)]
    exact zone_ok
  refine Put_c (h4.ext0 x8) ok4 2 hin (fun b hb hm => by have := h4.lt b hm; simp [ownF] at hb; omega) fun w11 F' x' ch => ⟨_, rfl, num_c _ ⟨_, rfl, sel_true (by rw [hp]; rfl) ?_⟩⟩
  have hla : ∀ i, x'.lab i = if i = 2 then some zoneL else none := fun i => by
    rw [ch.lab, hp]
    unfold updL
    by_cases e : i = 2
    · rw [if_pos ⟨rfl, e⟩, if_pos e]
    · rw [if_neg (fun h => e h.2), if_neg e, hlab]
  have E11 : Ext [] w w11 := (e4.trans x8).trans' ch.ex (fun b hb => .inr (hF b hb))
  have v11 := PxV.of ch.at_ ch.ok
  rw [← ch.q]
  have key : ∀ i : Nat, (∃ l, x'.lab (i : Int) = some l ∧ ((⟨#[122, 111, 110, 101]⟩, ⟨#[97]⟩) : Lab) ∈ l) ↔ i = 2 := fun i => by
    rw [hla]
    by_cases e : (i : Int) = 2
    · rw [if_pos e]
      exact ⟨fun _ => by omega, fun _ => ⟨_, rfl, by simp [zoneL]⟩⟩
    · rw [if_neg e]
      exact ⟨fun ⟨l, h, _⟩ => (by cases h), fun h => (by omega)⟩
  have hN' : x'.N = 3 := ch.N.trans hN
  have mi2 : ∀ S : SetV, S.N = 3 → (∀ i, S.mem i = true ↔ i = 2) → S.mi = [2] := fun S h1 h2 => by
    have h0 : S.mem 0 = false := by cases h : S.mem 0 with | false => rfl | true => have := (h2 0).1 h; omega
    have h1' : S.mem 1 = false := by cases h : S.mem 1 with | false => rfl | true => have := (h2 1).1 h; omega
    have h2' : S.mem 2 = true := (h2 2).2 rfl
    unfold SetV.mi SetV.members
    rw [h1]
    simp [List.range_succ, h0, h1', h2']
  refine With_c v11 _ _ fun p bw w17 S e17 hp17 hb17 hs hSN hSm => ⟨_, rfl, fun w18 h18 => ?_⟩
  obtain ⟨b18, x18, z18⟩ := box_new (cs := [.int .i64 2]) h18
  refine is_c (hs.ext0 x18) (ys := [2]) (Cells.of_blk b18.blk) rfl (by rw [hSN, hN']; rfl) (mi2 S (hSN.trans hN') (fun i => (hSm i).trans (key i))) fun w21 e21 => ⟨_, rfl, sel_true rfl ?_⟩
  refine CountP_c (((v11.ext0 e17).ext0 x18).ext0 e21) _ _ fun T oT hT hTN => ⟨_, rfl, ?_⟩
  have hc : T.count = 1 := by
    have h1 : T.members.length = T.count := members_length T
    have h2 : T.members = [2] := by
      have hnd : T.members.Nodup := List.nodup_range.filter _
      have hmem : ∀ i, i ∈ T.members ↔ i = 2 := fun i => by rw [mem_members oT, hT, key]
      match hm : T.members, hnd, hmem with
      | [], _, hmem => exact absurd ((hmem 2).2 rfl) (by simp)
      | [a], _, hmem => rw [(hmem a).1 (by simp)]
      | a :: b :: r, hnd, hmem =>
        have ha := (hmem a).1 (by simp)
        have hb := (hmem b).1 (by simp)
        subst ha; subst hb
        simp at hnd
    rw [← h1, h2]; rfl
  rw [hc]
  exact k w21 (((E11.trans e17).trans x18).trans e21)
/-- A step of a script that changes an index of 100 slots. -/
def slotOf (n : Int) : Int := Int.tmod (Int.tmod n 100 + 100) 100
theorem slotOf_in (n : Int) : 0 ≤ slotOf n ∧ slotOf n < 100 := by
  unfold slotOf
  have h1 := Int.tmod_lt_of_pos n (b := 100) (by omega)
  have h2 := Int.lt_tmod_of_pos n (b := 100) (by omega)
  have h3 : Int.tmod (Int.tmod n 100 + 100) 100 = (Int.tmod n 100 + 100) % 100 := Int.tmod_eq_emod_of_nonneg (by omega)
  omega
theorem slot_wrap (n : Int) : Int.tmod (IntKind.wrap .i64 (Int.tmod n 100 + 100)) 100 = slotOf n := by
  have h1 := Int.tmod_lt_of_pos n (b := 100) (by omega)
  have h2 := Int.lt_tmod_of_pos n (b := 100) (by omega)
  rw [w64 (by omega) (by omega)]
  rfl
def playS (f : LabF) (o : POp) : LabF :=
  if o.kind = 2 then updL f (putE 100 f (slotOf o.n) o.l) (slotOf o.n) (some o.l)
  else if o.kind = 3 then updL f (setE 100 f (slotOf o.n) o.l) (slotOf o.n) (some o.l)
  else if o.kind = 4 then updL f (dropE 100 f (slotOf o.n)) (slotOf o.n) none else f
end Go.Proofs.YtpipenkaaodlgaaGreatDoor
