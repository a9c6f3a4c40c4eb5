/- Slots: a copy of a table, the values as they are. -/
import Derived.Test.YtcampkaenlohbaaM16
set_option linter.unusedVariables false
set_option linter.unusedSimpArgs false
namespace Go.Proofs.Ytcampkaenlohbaa
open Go Go.V Go.B

def cmF : Nat → List Rw → List (ByteArray × Int) → List (ByteArray × Int)
  | _, [], m => m
  | k, x :: xs, m => cmF (k + 1) xs (if x.held then mput m x.name (k : Int) else m)
def cm (xs : List Rw) : List (ByteArray × Int) := cmF 0 xs []
theorem cmF_app : ∀ (xs ys : List Rw) (k : Nat) (m : List (ByteArray × Int)), cmF k (xs ++ ys) m = cmF (k + xs.length) ys (cmF k xs m)
  | [], ys, k, m => by simp [cmF]
  | x :: xs, ys, k, m => by
    simp only [List.cons_append, cmF, cmF_app xs ys (k + 1), List.length_cons]
    rw [show k + 1 + xs.length = k + (xs.length + 1) by omega]
theorem cm_step {xs : List Rw} {a : Nat} {x : Rw} (h : xs[a]? = some x) : cm (xs.take (a + 1)) = if x.held then mput (cm (xs.take a)) x.name (a : Int) else cm (xs.take a) := by
  have hl := (List.getElem?_eq_some_iff.1 h).1
  unfold cm
  rw [snoc_at h, cmF_app, List.length_take, Nat.min_eq_left (by omega), Nat.zero_add]
  simp only [cmF]
theorem cm_spec {xs : List Rw} (hu : ∀ (i j : Nat) (x y : Rw), xs[i]? = some x → xs[j]? = some y → x.held = true → y.held = true → x.name = y.name → i = j) : ∀ (a : Nat), a ≤ xs.length → (mkeys (cm (xs.take a))).Nodup ∧ ∀ k v, mget (cm (xs.take a)) k = some v ↔ ∃ (i : Nat) (x : Rw), i < a ∧ xs[i]? = some x ∧ x.held = true ∧ x.name = k ∧ v = (i : Int)
  | 0, _ => ⟨by simp [cm, cmF, mkeys], fun k v => by simp [cm, cmF, mget]⟩
  | a + 1, ha => by
    obtain ⟨x, hx⟩ : ∃ x, xs[a]? = some x := ⟨_, List.getElem?_eq_getElem (by omega)⟩
    obtain ⟨ih1, ih2⟩ := cm_spec hu a (by omega)
    rw [cm_step hx]
    cases hh : x.held with
    | false =>
      rw [if_neg (by simp)]
      refine ⟨ih1, fun k v => (ih2 k v).trans ⟨?_, ?_⟩⟩
      · rintro ⟨i, y, hi, h⟩; exact ⟨i, y, by omega, h⟩
      · rintro ⟨i, y, hi, h1, h2, h3⟩
        refine ⟨i, y, ?_, h1, h2, h3⟩
        by_cases e : i = a
        · subst e; rw [hx] at h1; cases h1; rw [hh] at h2; cases h2
        · omega
    | true =>
      rw [if_pos rfl]
      refine ⟨nodup_mput ih1 _ _, fun k v => ?_⟩
      rw [mget_mput]
      by_cases e : x.name = k
      · rw [if_pos e]
        constructor
        · intro h; cases h; exact ⟨a, x, by omega, hx, hh, e, rfl⟩
        · rintro ⟨i, y, hi, h1, h2, h3, rfl⟩
          rw [hu i a y x h1 hx h2 hh (by rw [h3, e])]
      · rw [if_neg e, ih2]
        constructor
        · rintro ⟨i, y, hi, h⟩; exact ⟨i, y, by omega, h⟩
        · rintro ⟨i, y, hi, h1, h2, h3⟩
          refine ⟨i, y, ?_, h1, h2, h3⟩
          by_cases e' : i = a
          · subst e'; rw [hx] at h1; cases h1; exact absurd h3.1 e
          · omega
/-- A copy. -/
def copyV (s : TS) : TS := ⟨s.most, s.rows, cm s.rows, s.low⟩
theorem copy_ok {s : TS} (h : s.ok) (hk : (mkeys s.m).Nodup) : (copyV s).ok := by
  obtain ⟨n1, n2⟩ := cm_spec (fun i j x y hx hy hh hh' e => h.uniq hx hy hh hh' e) s.rows.length (Nat.le_refl _)
  rw [List.take_of_length_le (Nat.le_refl _)] at n1 n2
  have hmp : ∀ k v, mget (cm s.rows) k = some v ↔ ∃ (i : Nat) (x : Rw), s.rows[i]? = some x ∧ x.held = true ∧ x.name = k ∧ v = (i : Int) := fun k v => by
    rw [n2]
    constructor
    · rintro ⟨i, x, _, h⟩; exact ⟨i, x, h⟩
    · rintro ⟨i, x, h1, h⟩; exact ⟨i, x, (List.getElem?_eq_some_iff.1 h1).1, h1, h⟩
  have hsame : ∀ k, mget (cm s.rows) k = mget s.m k := fun k => by
    cases hg : mget s.m k with
    | some v => exact (hmp k v).2 ((h.mp k v).1 hg)
    | none =>
      cases hc : mget (cm s.rows) k with
      | none => rfl
      | some v =>
        have := (h.mp k v).2 ((hmp k v).1 hc)
        rw [hg] at this; cases this
  have hl : (cm s.rows).length = s.m.length := same_len n1 hk hsame
  exact ⟨h.len, h.top, hmp, h.low, h.last, h.zero, h.good, by show (cm s.rows).length ≤ s.most; rw [hl]; exact h.full, by show (cm s.rows).length = _; rw [hl]; exact h.cnt⟩
theorem Copy_nil_c {w : World} {B p : Nat} {f : List Nat} {s : TS} (h : At w B p f s) {R : Ending → World → Prop}
    (k : ∀ p' f' w', Ext [] w w' → At w' w.heap.size p' f' (copyV s) → (∀ b ∈ f', w.heap.size ≤ b) → R (.returned (.pointer (some ⟨p', 0, none⟩))) w') : Calls Try.prog 27 #[.pointer (some ⟨p, 0, none⟩), .nilFunc] w R := by
  have hkeys := h.keys
  obtain ⟨r, A, n, c, q, inv, rfl⟩ := h
  have hl := q.own.len
  have hlen := inv.len
  have htop := inv.top
  apply slots_Table_int__Copy_nil_nf
  refine sel_false rfl ⟨fun w' => Ext [] w w', (Ext.refl _ _).drew, ptr_in ⟨_, fun w' e => cadd (q.hdr.ext0 e) rfl, ptr_in ⟨_, fun w' e => cadd (q.hdr.ext0 e) rfl, fun w8 h8 => ?_⟩⟩⟩
  obtain ⟨m8, x8', z8⟩ := map_new (β := Int) Value.string ki h8
  have x8 : Ext [] w w8 := x8'.undrew
  have z8 : w8.heap.size = w.heap.size + 1 := z8
  have m8 : MapAt w8 w.heap.size Value.string ki [] := m8
  refine ⟨x8, fun w9 h9 => ?_⟩
  obtain ⟨b9, x9, z9⟩ := box_new (cs := [.int .i64 (s.most : Int), .map (some w.heap.size), .slice none 0 0, .int .i64 (s.low : Int)]) h9
  have e9 : Ext [] w w9 := x8.trans x9
  have q9 := q.ext e9 (by simp)
  refine ⟨e9, ptr_in ⟨_, _, _, cadd q9.hdr rfl, ?_⟩⟩
  refine ⟨fun t w' => ∃ a : Nat, t = a ∧ a ≤ n ∧ Ext [] w w' ∧ MapAt w' w.heap.size Value.string ki (cm (s.rows.take a)) ∧ ∃ A' n' c', BlkT w' w8.heap.size [.int .i64 (s.most : Int), .map (some w.heap.size), .slice A' n' c', .int .i64 (s.low : Int)] 79 ∧ OwnL RL w' w.heap.size 81 A' n' c' (s.rows.take a) ∧ ∀ g ∈ ownF A', w9.heap.size ≤ g, fun t _ => n - t.toNat, ⟨0, rfl, by omega, e9, by simpa [cm, cmF] using m8.ext0 x9, none, 0, 0, b9, OwnL.nil _ _ _, by simp [ownF]⟩, ?_⟩
  rintro _ _ w1 ⟨a, rfl, ha, e1, m1, A', n', c', b1, own1, hA'⟩
  have s1 := e1.size
  refine sel_dec (fun hlt => ?_) (fun hge => ?_)
  · have hlt : a < n := by omega
    have q1 := q.ext e1 (by simp)
    obtain ⟨x, ad, hx, rfl, rd⟩ := q1.own.row (a := a) hlt
    have hn' : n' = a := by
      have := own1.len
      simp at this; omega
    subst hn'
    refine when_dec ⟨by omega, by omega⟩ (ptr_in ⟨_, _, _, rd, fun w2 h2 => ?_⟩)
    obtain ⟨b2, x2, z2⟩ := box_new (cs := Rw.zero.cells) h2
    obtain ⟨w3, hr3, b3, x3⟩ := storeW (P := Try.prog) (t := 81) (n := 3) (vs := x.cells) i81s b2 rfl rfl (RL.one x)
    have s3 := x3.size
    have e13 : Ext [] w1 w3 := x2.trans' x3 (fun b hb => .inr (by simp at hb; omega))
    have bh := b1.ext0 e13
    have own3 := own1.ext0 e13
    have m3 := m1.ext0 e13
    have hwb := b1.lt
    have hmr := m1.lt
    -- what both ways end in
    have fin : ∀ w4, Ext [w.heap.size] w3 w4 → MapAt w4 w.heap.size Value.string ki (cm (s.rows.take (n' + 1))) →
        ∃ S27 : World → Prop, S27 (World.drew w4) ∧ ∃ A29, ∃ A29l, ∃ A29c, (∀ w28, S27 w28 → World.cell? w28 (Addr.add ⟨Array.size (World.heap w8), 0, none⟩ 2) = some (Value.slice A29 A29l A29c)) ∧
          ∃ b30, ∃ s31, ∃ n32, V.cellsC (fun a_ x_ => ∀ w28, S27 w28 → World.cell? w28 a_ = some x_) ⟨Array.size (World.heap w1), 0, none⟩ [(Value.bool b30), (Value.string s31), (Value.int .i64 n32)] ∧
          ∀ w33, w33 = (World.alloc (World.drew w4) (.cells #[(Value.bool b30), (Value.string s31), (Value.int .i64 n32)] 81)) → S27 w33 ∧
          ∃ A34, ∃ A34l, ∃ A34c, ∃ w35, Sem.run Try.prog (Builtin.append_ #[77, 77] 77 #[(Value.slice A29 A29l A29c), (Value.slice (some ⟨Array.size (World.heap (World.drew w4)), 0, none⟩) 1 1)]) w33 = .ok (Value.slice A34 A34l A34c) w35 ∧
          S27 w35 ∧
          ∃ w36, Sem.run Try.prog (Instr.storeAt 77 (Value.pointer (some (Addr.add ⟨Array.size (World.heap w8), 0, none⟩ 2))) (Value.slice A34 A34l A34c)) w35 = .ok () w36 ∧
          (∃ a : Nat, IntKind.wrap .i64 ((n' : Int) + 1) = a ∧ a ≤ n ∧ Ext [] w w36 ∧ MapAt w36 w.heap.size Value.string ki (cm (s.rows.take a)) ∧ ∃ A' n' c', BlkT w36 w8.heap.size [.int .i64 (s.most : Int), .map (some w.heap.size), .slice A' n' c', .int .i64 (s.low : Int)] 79 ∧ OwnL RL w36 w.heap.size 81 A' n' c' (s.rows.take a) ∧ ∀ g ∈ ownF A', w9.heap.size ≤ g) ∧
          n - (IntKind.wrap .i64 ((n' : Int) + 1)).toNat < n - (n' : Int).toNat := fun w4 x4 m4 => by
      have s4 := x4.size
      have e4 : Ext [] w w4 := (e1.trans e13).trans' x4 (fun b hb => .inr (by simp at hb; omega))
      have b4 := bh.ext x4 (by simp; omega)
      have bx4 := b3.ext x4 (by simp; omega)
      have own4 := own3.ext x4 (fun g hg => by have := hA' g hg; simp; omega)
      have hq : ∀ {w'}, Ext (ownF A') w4 w' → w8.heap.size ∉ ownF A' := fun _ hm => by have := hA' _ hm; omega
      have hbx : w1.heap.size ∉ ownF A' := fun hm => by have := (own1.base _ hm).2; omega
      refine ⟨fun w' => Ext (ownF A') w4 w', (Ext.refl _ _).drew, A', n', c', fun w' e => cadd (b4.ext e (hq e)) rfl, _, _, _, cellsC_S (S := fun w' => Ext (ownF A') w4 w') (vs := x.cells) fun w' e => cadd0 (bx4.ext e hbx), fun w5 h5 => ?_⟩
      obtain ⟨b5, x5', z5⟩ := box_new (cs := RL.enc x) h5
      have x5 : Ext [] w4 w5 := x5'.undrew
      have z5 : w5.heap.size = w4.heap.size + 1 := z5
      obtain ⟨A2, c2, w6, hr6, own6, x6, hat⟩ := (own4.ext0 x5).more (P := Try.prog) (t := 77) (ty := 77) (x := x) u77 i81 rfl (by omega) b5 (by have := e4.size; omega) (by omega)
      have s6 := x6.size
      have e46 : Ext (ownF A') w4 w6 := x5.up.trans x6
      have b6 := b4.ext e46 (hq e46)
      obtain ⟨w7, hr7, b7, x7⟩ := store1a (P := Try.prog) (v := .slice A2 (n' + 1) c2) i77s b6 (i := 2) (by simp) rfl rfl
      have hA2 : ∀ g ∈ ownF A2, w9.heap.size ≤ g := fun g hg => by
        rcases hat with h | h
        · rw [h] at hg; exact hA' g hg
        · rw [h] at hg; simp at hg; omega
      rw [up64 n' (by omega)]
      refine ⟨x5.up, A2, n' + 1, c2, w6, hr6, e46, w7, hr7, ⟨n' + 1, rfl, by omega, ?_, ?_, A2, n' + 1, c2, b7, ?_, hA2⟩, by simp only [Int.toNat_natCast]; omega⟩
      · exact (e4.trans' e46 (fun b hb => .inr (by have := hA' b hb; omega))).trans' x7 (fun b hb => .inr (by simp at hb; omega))
      · exact (m4.ext e46 (fun hm => by have := hA' _ hm; omega)).ext x7 (by simp; omega)
      · rw [snoc_at hx]
        exact own6.ext x7 (fun g hg => by have := hA2 g hg; simp; omega)
    refine ⟨w3, hr3, _, cadd b3 rfl, sel_intro (fun hh => ?_) (fun hh => ?_)⟩
    · obtain ⟨w4, hr4, m4, x4⟩ := store_map (P := Try.prog) kS u28 (show MapAt w3.drew w.heap.size Value.string ki _ from m3) x.name (n' : Int)
      have x4 : Ext [w.heap.size] w3 w4 := x4.undrew
      refine ⟨_, cadd bh rfl, _, cadd b3 rfl, w4, hr4, fin w4 x4 ?_⟩
      rw [cm_step hx, if_pos hh]; exact m4
    · refine fin w3 (Ext.refl _ _) ?_
      rw [cm_step hx, if_neg (by rw [hh]; simp)]; exact m3
  · have : a = n := by omega
    subst this
    rw [List.take_of_length_le (by omega)] at m1 own1
    have hn' : s.rows.length = n' := own1.len
    have hwb := b1.lt
    refine k w8.heap.size (w8.heap.size :: w.heap.size :: ownF A') w1 e1 ⟨w.heap.size, A', n', c', ⟨b1, own1, m1, fun hm => by have := hA' _ hm; omega, by simp; exact ⟨by omega, fun hm => by have := hA' _ hm; omega⟩, by omega⟩, copy_ok inv hkeys, rfl⟩ ?_
    intro b hb
    simp at hb
    rcases hb with rfl | rfl | hb
    · omega
    · omega
    · have := hA' b hb; omega
end Go.Proofs.Ytcampkaenlohbaa
