/- The table of names and slots: Put, Drop. -/
import Derived.Test.YtcampkaenlohbaaK1
set_option linter.unusedVariables false
set_option linter.unusedSimpArgs false
namespace Go.Proofs.Ytcampkaenlohbaa
open Go Go.V Go.B

/-- The lowest slot that is free. -/
def freeAt (rows : List Rw) : Nat := rows.findIdx (fun x => !x.held)
theorem freeAt_of {rows : List Rw} {a : Nat} (h1 : ∀ i, i < a → ∃ x, rows[i]? = some x ∧ x.held = true) (h2 : a = rows.length ∨ ∃ x, rows[a]? = some x ∧ x.held = false) : freeAt rows = a := by
  unfold freeAt
  have hlo : ∀ (i : Nat) (hi : i < rows.length), i < a → rows[i].held = true := fun i hi hia => by
    obtain ⟨x, hx, hh⟩ := h1 i hia
    obtain ⟨_, e⟩ := List.getElem?_eq_some_iff.1 hx
    rw [e]; exact hh
  rcases h2 with rfl | ⟨x, hx, hh⟩
  · rw [List.findIdx_eq_length]
    intro x hx
    obtain ⟨i, hi⟩ := List.mem_iff_getElem?.1 hx
    obtain ⟨hil, e⟩ := List.getElem?_eq_some_iff.1 hi
    have := hlo i hil hil
    rw [e] at this
    simp [this]
  · obtain ⟨hal, e⟩ := List.getElem?_eq_some_iff.1 hx
    rw [List.findIdx_eq hal]
    refine ⟨by rw [e, hh]; rfl, fun j hj => ?_⟩
    simp [hlo j (by omega) hj]
def putRows (rows : List Rw) (a : Nat) (x : Rw) : List Rw := if a = rows.length then rows ++ [x] else rows.set a x
def putV (s : TS) (name : ByteArray) (v : Int) : TS × Int × Int :=
  if (lookV s name).2 = 0 then (s, 0, 52) else if (lookV s name).2 ≠ 54 then (s, 0, (lookV s name).2) else if s.most ≤ s.m.length then (s, 0, 53) else
  (⟨s.most, putRows s.rows (freeAt s.rows) ⟨true, name, v⟩, mput s.m name (freeAt s.rows : Int), freeAt s.rows + 1⟩, (freeAt s.rows : Int), 0)
theorem put_at {rows : List Rw} {a : Nat} {x y : Rw} (ha : a ≤ rows.length) {j : Nat} : (putRows rows a x)[j]? = some y ↔ (j = a ∧ y = x) ∨ (j ≠ a ∧ rows[j]? = some y) := by
  unfold putRows
  split
  · rename_i e
    subst e
    rcases Nat.lt_trichotomy j rows.length with h | h | h
    · rw [List.getElem?_append_left h]
      constructor
      · intro e; exact .inr ⟨by omega, e⟩
      · rintro (⟨e, _⟩ | ⟨_, e⟩)
        · omega
        · exact e
    · subst h
      have e1 : (rows ++ [x])[rows.length]? = some x := by rw [List.getElem?_append_right (Nat.le_refl _), Nat.sub_self]; rfl
      rw [e1]
      constructor
      · intro e; cases e; exact .inl ⟨rfl, rfl⟩
      · rintro (⟨_, rfl⟩ | ⟨h, _⟩)
        · rfl
        · exact absurd rfl h
    · have h1 : (rows ++ [x])[j]? = none := List.getElem?_eq_none (by simp; omega)
      have h2 : rows[j]? = none := List.getElem?_eq_none (by omega)
      rw [h1, h2]
      constructor
      · intro e; cases e
      · rintro (⟨e, _⟩ | ⟨_, e⟩)
        · omega
        · cases e
  · exact set_at (by omega)
theorem TInv.put {most : Nat} {rows : List Rw} {m : List (ByteArray × Int)} {low : Nat} (h : TInv most rows m low) (hk : (mkeys m).Nodup) {a : Nat} (ha : a ≤ rows.length) (h1 : ∀ i, i < a → ∃ x, rows[i]? = some x ∧ x.held = true) (h2 : a = rows.length ∨ ∃ x, rows[a]? = some x ∧ x.held = false)
    {name : ByteArray} (hn : mget m name = none) (hg : ¬ badN name) (hm : m.length < most) (v : Int) : TInv most (putRows rows a ⟨true, name, v⟩) (mput m name (a : Int)) (a + 1) := by
  have hcnt : (putRows rows a ⟨true, name, v⟩).countP (·.held) = rows.countP (·.held) + 1 := by
    unfold putRows
    split
    · simp
    · rename_i hne
      rcases h2 with h2 | ⟨x, hx, hh⟩
      · exact absurd h2 hne
      · have := cnt_held ⟨true, name, v⟩ hx
        rw [if_neg (by rw [hh]; simp), if_pos rfl] at this
        omega
  have hlen : (mput m name (a : Int)).length = m.length + 1 := length_out _ (mget_none.1 hn)
  refine ⟨?_, h.top, fun k u => ?_, fun i hi => ?_, fun y hy => ?_, fun y hy hf => ?_, fun y hy hf => ?_, by omega, by rw [hcnt, hlen, h.cnt]⟩
  · unfold putRows
    split
    · rename_i e
      subst e
      have hall : rows.countP (·.held) = rows.length := List.countP_eq_length.2 fun x hx => by
        obtain ⟨i, hi⟩ := List.mem_iff_getElem?.1 hx
        obtain ⟨hil, _⟩ := List.getElem?_eq_some_iff.1 hi
        obtain ⟨y, hy, hh⟩ := h1 i hil
        rw [hi] at hy
        cases hy
        exact hh
      have := h.cnt
      simp; omega
    · simpa using h.len
  · rw [mget_mput]
    by_cases e : name = k
    · rw [if_pos e]
      constructor
      · intro hu; cases hu
        exact ⟨a, ⟨true, name, v⟩, (put_at ha).2 (.inl ⟨rfl, rfl⟩), rfl, e, rfl⟩
      · rintro ⟨j, y, hy, hh, hyn, rfl⟩
        rcases (put_at ha).1 hy with ⟨rfl, _⟩ | ⟨_, hy⟩
        · rfl
        · have := (h.mp k (j : Int)).2 ⟨j, y, hy, hh, hyn, rfl⟩
          rw [← e, hn] at this
          cases this
    · rw [if_neg e, h.mp]
      constructor
      · rintro ⟨j, y, hy, hh, hyn, rfl⟩
        refine ⟨j, y, (put_at ha).2 (.inr ⟨fun ej => ?_, hy⟩), hh, hyn, rfl⟩
        subst ej
        rcases h2 with h2 | ⟨x, hx, hf⟩
        · have := (List.getElem?_eq_some_iff.1 hy).1; omega
        · rw [hx] at hy; cases hy; rw [hf] at hh; cases hh
      · rintro ⟨j, y, hy, hh, hyn, rfl⟩
        rcases (put_at ha).1 hy with ⟨_, rfl⟩ | ⟨_, hy⟩
        · exact absurd hyn e
        · exact ⟨j, y, hy, hh, hyn, rfl⟩
  · by_cases e : i = a
    · subst e
      exact ⟨_, (put_at ha).2 (.inl ⟨rfl, rfl⟩), rfl⟩
    · obtain ⟨x, hx, hh⟩ := h1 i (by omega)
      exact ⟨x, (put_at ha).2 (.inr ⟨e, hx⟩), hh⟩
  · rw [List.getLast?_eq_getElem?] at hy
    rcases (put_at ha).1 hy with ⟨_, rfl⟩ | ⟨hne, hy⟩
    · rfl
    · refine h.last y ?_
      rw [List.getLast?_eq_getElem?]
      have hl : (putRows rows a ⟨true, name, v⟩).length = rows.length ∨ (a = rows.length ∧ (putRows rows a ⟨true, name, v⟩).length = rows.length + 1) := by
        unfold putRows
        split
        · rename_i e; exact .inr ⟨e, by simp⟩
        · exact .inl (by simp)
      rcases hl with hl | ⟨e, hl⟩
      · rw [hl] at hy; exact hy
      · rw [hl] at hne; omega
  · obtain ⟨j, hj⟩ := List.mem_iff_getElem?.1 hy
    rcases (put_at ha).1 hj with ⟨_, rfl⟩ | ⟨_, hj⟩
    · cases hf
    · exact h.zero y (List.mem_of_getElem? hj) hf
  · obtain ⟨j, hj⟩ := List.mem_iff_getElem?.1 hy
    rcases (put_at ha).1 hj with ⟨_, rfl⟩ | ⟨_, hj⟩
    · show 1 ≤ name.size ∧ name.size ≤ 63
      unfold badN at hg; omega
    · exact h.good y (List.mem_of_getElem? hj) hf
theorem look54 {s : TS} {name : ByteArray} (e0 : (lookV s name).2 ≠ 0) (e : (lookV s name).2 = 54) : ¬ badN name ∧ mget s.m name = none := by
  unfold lookV at e e0
  split at e
  · cases e
  · rename_i hb
    rw [if_neg hb] at e0
    refine ⟨hb, ?_⟩
    cases hg : mget s.m name with
    | none => rfl
    | some v => rw [hg] at e0; exact absurd rfl e0
theorem Put_c {w : World} {B p : Nat} {f : List Nat} {s : TS} (h : At w B p f s) (name : ByteArray) (v : Int) {R : Ending → World → Prop}
    (k : ∀ w' f', At w' B p f' (putV s name v).1 → Ext f w w' → Grow w f f' → R (.returned (.tuple #[.int .i64 (putV s name v).2.1, .int .i64 (putV s name v).2.2])) w') :
    Calls Try.prog 11 #[.pointer (some ⟨p, 0, none⟩), .string name, .int .i64 v] w R := by
  apply slots_Table_int__Put_nf
  refine look_c h name ⟨_, _, rfl, ?_⟩
  have same : ∀ x w', putV s name v = (s, 0, x) → Ext [] w w' → R (.returned (.tuple #[.int .i64 0, .int .i64 x])) w' := fun x w' hv e => by
    have := k w' f
    rw [hv] at this
    exact this (h.ext0 e) (Ext.up e) (Grow.refl _ _)
  refine sel_intro (fun e => same 52 w (by unfold putV; rw [if_pos (eq_of_beq e)]) (Ext.refl _ _)) (fun e => ?_)
  have e0 : (lookV s name).2 ≠ 0 := fun x => by rw [x] at e; cases e
  refine sel_intro (fun e5 => ?_) (fun e5 => ?_)
  · have e5 : (lookV s name).2 ≠ 54 := by simpa using e5
    exact same _ w (by unfold putV; rw [if_neg e0, if_pos e5]) (Ext.refl _ _)
  have e5 : (lookV s name).2 = 54 := by simpa using e5
  obtain ⟨hgood, hnone⟩ := look54 e0 e5
  obtain ⟨r, A, n, c, q, inv, rfl⟩ := h
  have hl := q.own.len
  have hrows := inv.len
  have htop := inv.top
  have d : Ext [] w w.drew := (Ext.refl [] w).drew
  have qd := q.ext d (by simp)
  refine ptr_in ⟨_, cadd q.hdr rfl, _, len_map (P := Try.prog) u28 qd.mp, ptr_in ⟨_, cadd q.hdr rfl, sel_dec (fun hf => same 53 _ (by unfold putV; rw [if_neg e0, if_neg (by simp [e5]), if_pos (by omega)]) d) (fun hf => ?_)⟩⟩
  have hv : putV s name v = (⟨s.most, putRows s.rows (freeAt s.rows) ⟨true, name, v⟩, mput s.m name (freeAt s.rows : Int), freeAt s.rows + 1⟩, (freeAt s.rows : Int), 0) := by
    unfold putV; rw [if_neg e0, if_neg (by simp [e5]), if_neg (by omega)]
  rw [hv] at k
  have hrF := q.hr
  simp only [List.mem_cons, not_or] at hrF
  have hlt := q.lt
  have hlow : s.low ≤ n := by
    rcases Nat.lt_or_ge n s.low with h' | h'
    · obtain ⟨x, hx, _⟩ := inv.low n h'
      have := (List.getElem?_eq_some_iff.1 hx).1; omega
    · exact h'
  refine ptr_in ⟨_, cadd qd.hdr rfl, fun t w' => ∃ a : Nat, t = a ∧ a ≤ n ∧ w' = w.drew ∧ ∀ i, i < a → ∃ x, s.rows[i]? = some x ∧ x.held = true, fun t _ => n - t.toNat, ⟨s.low, rfl, hlow, rfl, inv.low⟩, ?_⟩
  rintro _ _ _ ⟨a, rfl, ha, rfl, hlo⟩
  -- the name and the next low
  have tail : ∀ (w1 : World) (A1 : Option Addr) (n1 c1 : Nat), freeAt s.rows = a → BlkT w1 p [.int .i64 (s.most : Int), .map (some r), .slice A1 n1 c1, .int .i64 (s.low : Int)] 79 → OwnL RL w1 B 81 A1 n1 c1 (putRows s.rows a ⟨true, name, v⟩) → MapAt w1 r Value.string ki s.m → Ext (p :: r :: ownF A) w w1 → (ownF A1 = ownF A ∨ ∃ g, ownF A1 = [g] ∧ w.heap.size ≤ g) →
      TInv s.most (putRows s.rows a ⟨true, name, v⟩) (mput s.m name (a : Int)) (a + 1) →
      V.ptr (some ⟨p, 0, none⟩) fun a39 =>
      ∃ m40, World.cell? w1 (Addr.add a39 1) = some (Value.map m40) ∧
      ∃ w41, Sem.run Try.prog (Instr.mapUpdate 28 (Value.map m40) (Value.string name) (Value.int .i64 (a : Int))) w1 = .ok () w41 ∧
      V.ptr (some ⟨p, 0, none⟩) fun a42 =>
      ∃ w43, Sem.run Try.prog (Instr.storeAt 3 (Value.pointer (some (Addr.add a42 3))) (Value.int .i64 (IntKind.wrap .i64 ((a : Int) + 1)))) w41 = .ok () w43 ∧
      R (Ending.returned (Value.tuple #[(Value.int .i64 (a : Int)), (Value.int .i64 0)])) w43 := fun w1 A1 n1 c1 hfr hd own mp e hA inv1 => by
    have hA1 : p ∉ ownF A1 ∧ r ∉ ownF A1 := by
      rcases hA with hA | ⟨g, hA, hg⟩
      · rw [hA]; exact ⟨q.hp, hrF.2⟩
      · rw [hA]
        have h1 := hlt p (by simp)
        have h2 := hlt r (by simp)
        simp
        omega
    obtain ⟨w2, hr2, mp2, e2⟩ := store_map (P := Try.prog) kS u28 mp name (a : Int)
    have hd2 := hd.ext e2 (by simp; exact fun e => hrF.1 e.symm)
    obtain ⟨w3, hr3, hd3, e3⟩ := store1a (P := Try.prog) (t := 3) (v := .int .i64 ((a + 1 : Nat) : Int)) i3s hd2 (i := 3) (by simp) rfl rfl
    rw [up64 a (by omega)]
    rw [hfr] at k
    refine ptr_in ⟨_, cadd hd rfl, w2, hr2, ptr_in ⟨w3, hr3, k w3 (p :: r :: ownF A1) ⟨r, A1, n1, c1, ⟨hd3, (own.ext e2 (fun b hb => by simp; exact fun e => hA1.2 (e ▸ hb))).ext e3 (fun b hb => by simp; exact fun e => hA1.1 (e ▸ hb)), mp2.ext e3 (by simp; exact hrF.1), hA1.1, by simp only [List.mem_cons, not_or]; exact ⟨hrF.1, hA1.2⟩, Nat.le_trans q.hB (Nat.le_trans e.size (Nat.le_trans e2.size e3.size))⟩, inv1, rfl⟩ ?_ ?_⟩⟩
    · exact (e.trans (e2.weaken (fun b hb => .inl (by simp at hb; simp [hb])))).trans (e3.weaken (fun b hb => .inl (by simp at hb; simp [hb])))
    · intro b hb
      simp only [List.mem_cons] at hb
      rcases hb with rfl | rfl | hb
      · exact .inl (by simp)
      · exact .inl (by simp)
      · rcases hA with hA | ⟨g, hA, hg⟩
        · rw [hA] at hb; exact .inl (by simp [hb])
        · rw [hA] at hb; simp at hb; subst hb; exact .inr hg
  refine ptr_in ⟨_, _, _, cadd qd.hdr rfl, sel_dec (fun hlt1 => ?_) (fun hge => ?_)⟩
  · obtain ⟨x, ad, hx, hA, rx⟩ := qd.own.row (a := a) (by omega)
    subst hA
    refine ptr_in ⟨_, _, _, cadd qd.hdr rfl, when_dec ⟨by omega, by omega⟩ (ptr_in ⟨_, rx 0 _ rfl, sel_intro (fun hh => ?_) (fun hh => ?_)⟩)⟩
    · rw [up64 a (by omega)]
      refine ⟨⟨a + 1, rfl, by omega, rfl, fun i hi => ?_⟩, by simp only [Int.toNat_natCast]; omega⟩
      by_cases e : i = a
      · subst e; exact ⟨x, hx, hh⟩
      · exact hlo i (by omega)
    · have hfr := freeAt_of hlo (.inr ⟨x, hx, hh⟩)
      have hpr : putRows s.rows a ⟨true, name, v⟩ = s.rows.set a ⟨true, name, v⟩ := by unfold putRows; rw [if_neg (by omega)]
      obtain ⟨g, w1, hg, hr1, own1, e1⟩ := qd.own.set (P := Try.prog) i81s (i := a) (by omega) ⟨true, name, v⟩
      cases hg
      have hr1' : Sem.run Try.prog (Instr.storeAt 81 (.pointer (some (Addr.add ⟨g, 0, none⟩ (Int.toNat (a : Int) * 3)))) (.agg #[.bool true, .string name, .int .i64 v])) w.drew = .ok () w1 := by rw [Int.toNat_natCast]; exact hr1
      refine ptr_in ⟨_, _, _, cadd qd.hdr rfl, sel_false (by simp; omega) (ptr_in ⟨_, _, _, cadd qd.hdr rfl, when_dec ⟨by omega, by omega⟩ (ptr_in ⟨w1, hr1', ?_⟩)⟩)⟩
      exact tail w1 _ n c hfr (qd.hdr.ext e1 q.hp) (by rw [hpr]; exact own1) (qd.mp.ext e1 hrF.2) ((Ext.up d).trans (e1.weaken (fun b hb => .inl (by simp [hb])))) (.inl rfl) (inv.put q.mp.nodup (by omega) hlo (.inr ⟨x, hx, hh⟩) hnone hgood (by omega) v)
  · have han : a = n := by omega
    subst han
    have hfr := freeAt_of hlo (.inl hl.symm)
    have hpr : putRows s.rows a ⟨true, name, v⟩ = (s.rows ++ [Rw.zero]).set a ⟨true, name, v⟩ := by
      unfold putRows
      rw [if_pos hl.symm, List.set_append_right _ _ (by omega), hl, Nat.sub_self]
      rfl
    refine ptr_in ⟨_, _, _, cadd qd.hdr rfl, sel_intro (fun _ => ?_) (fun hno => by simp at hno)⟩
    refine ptr_in ⟨_, _, _, cadd qd.hdr rfl, fun w1 h1 => ?_⟩
    obtain ⟨b1, x1, z1⟩ := box_new (cs := Rw.zero.cells) h1
    obtain ⟨A2, c2, w2, hr2, own2, e2, hat2⟩ := (qd.own.ext0 x1).more (P := Try.prog) (ty := 77) (x := Rw.zero) u77 i81 rfl (by omega) b1 (Nat.le_trans qd.hB x1.size) (by omega)
    have hp1 := qd.hdr.ext x1 (by simp)
    have hp2 := hp1.ext e2 q.hp
    obtain ⟨w3, hr3, hp3, e3⟩ := store1a (P := Try.prog) (v := .slice A2 (a + 1) c2) i77s hp2 (i := 2) (by simp) rfl rfl
    have hdl := d.size
    have hpl := hlt p (by simp)
    have hrl := hlt r (by simp)
    have hA2 : ownF A2 = ownF A ∨ ∃ g, ownF A2 = [g] ∧ w.heap.size ≤ g := by
      rcases hat2 with e | e
      · exact .inl e
      · exact .inr ⟨_, e, Nat.le_trans hdl x1.size⟩
    have hpA2 : p ∉ ownF A2 := by
      rcases hA2 with e | ⟨g, e, hg⟩
      · rw [e]; exact q.hp
      · rw [e]; simp; omega
    have hrA2 : r ∉ ownF A2 := by
      rcases hA2 with e | ⟨g, e, hg⟩
      · rw [e]; exact hrF.2
      · rw [e]; simp; omega
    have own3 := own2.ext e3 (fun b hb => by simp; exact fun e => hpA2 (e ▸ hb))
    obtain ⟨g, w4, hg, hr4, own4, e4⟩ := own3.set (P := Try.prog) i81s (i := a) (by omega) ⟨true, name, v⟩
    subst hg
    have hr4' : Sem.run Try.prog (Instr.storeAt 81 (.pointer (some (Addr.add ⟨g, 0, none⟩ (Int.toNat (a : Int) * 3)))) (.agg #[.bool true, .string name, .int .i64 v])) w3 = .ok () w4 := by rw [Int.toNat_natCast]; exact hr4
    refine ⟨_, _, _, _, hr2, ptr_in ⟨w3, hr3, ptr_in ⟨_, _, _, cadd hp3 rfl, when_dec ⟨by omega, by omega⟩ (ptr_in ⟨w4, hr4', ?_⟩)⟩⟩⟩
    have nf : ∀ b ∈ ownF (some ⟨g, 0, none⟩), b ∈ p :: r :: ownF A ∨ w.heap.size ≤ b := fun b hb => by
      rcases hA2 with e | ⟨g', e, hg'⟩
      · rw [e] at hb; exact .inl (by simp [hb])
      · rw [e] at hb; simp at hb; exact .inr (by omega)
    have ee : Ext (p :: r :: ownF A) w w4 := ((((Ext.up d).then x1).trans' e2 (fun b hb => .inl (by simp [hb]))).trans' e3 (fun b hb => .inl (by simp at hb; simp [hb]))).trans' e4 nf
    refine tail w4 _ (a + 1) c2 hfr (hp3.ext e4 hpA2) (by rw [hpr]; exact own4) ((((qd.mp.ext x1 (by simp)).ext e2 hrF.2).ext e3 (by simp; exact hrF.1)).ext e4 hrA2) ee hA2 (inv.put q.mp.nodup (by omega) hlo (.inl hl.symm) hnone hgood (by omega) v)
end Go.Proofs.Ytcampkaenlohbaa
