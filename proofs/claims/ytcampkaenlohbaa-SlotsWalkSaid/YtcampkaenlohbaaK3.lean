/- The table of names and slots: Drop. -/
import Derived.Test.YtcampkaenlohbaaK2
set_option linter.unusedVariables false
set_option linter.unusedSimpArgs false
namespace Go.Proofs.Ytcampkaenlohbaa
open Go Go.V Go.B

theorem cut0 (A : Option Addr) (c sz : Nat) : V.cut A c 0 sz = A := by
  unfold V.cut
  split
  · rfl
  · cases A <;> simp [Addr.add_zero']
/-- One beyond the highest slot in use. -/
def spanOf : List Rw → Nat
  | [] => 0
  | x :: xs => if spanOf xs = 0 then (if x.held = true then 1 else 0) else spanOf xs + 1
theorem spanOf_eq : ∀ {rows : List Rw} {n : Nat}, (∀ (i : Nat) (x : Rw), n ≤ i → rows[i]? = some x → x.held = false) → (n = 0 ∨ ∃ x, rows[n - 1]? = some x ∧ x.held = true) → spanOf rows = n
  | [], n, h1, h2 => by
    rcases h2 with rfl | ⟨x, hx, _⟩
    · rfl
    · simp at hx
  | a :: xs, 0, h1, h2 => by
    have ih := spanOf_eq (rows := xs) (n := 0) (fun i x _ hi => h1 (i + 1) x (Nat.zero_le _) (by simpa using hi)) (.inl rfl)
    have ha := h1 0 a (Nat.le_refl _) (by simp)
    unfold spanOf
    rw [if_pos ih, if_neg (by rw [ha]; simp)]
  | a :: xs, k + 1, h1, h2 => by
    have h2' : ∃ x, (a :: xs)[k]? = some x ∧ x.held = true := by
      rcases h2 with h | h
      · cases h
      · exact h
    have ih := spanOf_eq (rows := xs) (n := k) (fun i x hi hx => h1 (i + 1) x (by omega) (by simpa using hx)) (by
      cases k with
      | zero => exact .inl rfl
      | succ j =>
        obtain ⟨x, hx, hh⟩ := h2'
        exact .inr ⟨x, by simpa using hx, hh⟩)
    unfold spanOf
    rw [ih]
    cases k with
    | zero =>
      obtain ⟨x, hx, hh⟩ := h2'
      simp at hx
      subst hx
      rw [if_pos rfl, if_pos hh]
    | succ j => rw [if_neg (by omega)]
def trimT (rows : List Rw) : List Rw := rows.take (spanOf rows)
def dropV (s : TS) (name : ByteArray) : TS × Int × Int := if (lookV s name).2 ≠ 0 then (s, 0, (lookV s name).2) else
  (⟨s.most, trimT (s.rows.set (lookV s name).1.toNat Rw.zero), mdel s.m name, if (lookV s name).1 < s.low then (lookV s name).1.toNat else s.low⟩, (lookV s name).1, 0)
theorem TInv.drop {most : Nat} {rows : List Rw} {m : List (ByteArray × Int)} {low : Nat} (h : TInv most rows m low) (hk : (mkeys m).Nodup) {i : Nat} {x : Rw} (hx : rows[i]? = some x) (hh : x.held = true) {n : Nat} (hn : n ≤ rows.length)
    (h1 : ∀ (j : Nat) (y : Rw), n ≤ j → (rows.set i Rw.zero)[j]? = some y → y.held = false) (h2 : n = 0 ∨ ∃ y, (rows.set i Rw.zero)[n - 1]? = some y ∧ y.held = true) {low' : Nat} (hl1 : low' ≤ low) (hl2 : low' ≤ i) : TInv most ((rows.set i Rw.zero).take n) (mdel m x.name) low' := by
  have hil := (List.getElem?_eq_some_iff.1 hx).1
  have at_ : ∀ {j : Nat} {y : Rw}, ((rows.set i Rw.zero).take n)[j]? = some y ∧ y.held = true ↔ j ≠ i ∧ rows[j]? = some y ∧ y.held = true := fun {j} {y} => by
    rw [List.getElem?_take]
    constructor
    · rintro ⟨hy, hf⟩
      split at hy
      · rcases (set_at hil).1 hy with ⟨_, rfl⟩ | ⟨h', hy⟩
        · cases hf
        · exact ⟨h', hy, hf⟩
      · cases hy
    · rintro ⟨hne, hy, hf⟩
      have hs := (set_at (x := Rw.zero) hil).2 (.inr ⟨hne, hy⟩)
      refine ⟨?_, hf⟩
      rcases Nat.lt_or_ge j n with h' | h'
      · rw [if_pos h']; exact hs
      · have := h1 j y h' hs; rw [hf] at this; cases this
  have hg : mget m x.name = some (i : Int) := (h.mp _ _).2 ⟨i, x, hx, hh, rfl, rfl⟩
  have hmem : x.name ∈ mkeys m := by
    by_cases hc : x.name ∈ mkeys m
    · exact hc
    · have := mget_none.2 hc; rw [hg] at this; cases this
  have hdl := length_mdel hmem
  have hfull := h.full
  refine ⟨?_, h.top, fun k u => ?_, fun j hj => ?_, fun y hy => ?_, fun y hy hf => ?_, fun y hy hf => ?_, by omega, ?_⟩
  · have := h.len
    rw [List.length_take, List.length_set]; omega
  · rw [mget_mdel hk]
    by_cases e : x.name = k
    · rw [if_pos e]
      constructor
      · intro hu; cases hu
      · rintro ⟨j, y, hy, hf, hyn, rfl⟩
        obtain ⟨hne, hy', _⟩ := at_.1 ⟨hy, hf⟩
        have := (h.mp k (j : Int)).2 ⟨j, y, hy', hf, hyn, rfl⟩
        rw [← e, hg] at this
        simp at this
        omega
    · rw [if_neg e, h.mp]
      constructor
      · rintro ⟨j, y, hy, hf, hyn, rfl⟩
        have hne : j ≠ i := fun ej => by subst ej; rw [hx] at hy; cases hy; exact e hyn
        exact ⟨j, y, (at_.2 ⟨hne, hy, hf⟩).1, hf, hyn, rfl⟩
      · rintro ⟨j, y, hy, hf, hyn, rfl⟩
        exact ⟨j, y, (at_.1 ⟨hy, hf⟩).2.1, hf, hyn, rfl⟩
  · obtain ⟨y, hy, hf⟩ := h.low j (by omega)
    exact ⟨y, at_.2 ⟨by omega, hy, hf⟩⟩
  · have hy' := List.getLast?_eq_getElem? ▸ hy
    rw [List.length_take, List.length_set, Nat.min_eq_left hn, List.getElem?_take] at hy'
    split at hy'
    · rcases h2 with h0 | ⟨z, hz, hf⟩
      · omega
      · rw [hz] at hy'; cases hy'; exact hf
    · cases hy'
  · rcases List.mem_or_eq_of_mem_set (List.mem_of_mem_take hy) with hy | rfl
    · exact h.zero y hy hf
    · rfl
  · obtain ⟨j, hj⟩ := List.mem_iff_getElem?.1 hy
    exact h.good y (List.mem_of_getElem? (at_.1 ⟨hj, hf⟩).2.1) hf
  · have e1 := cnt_held Rw.zero hx
    rw [if_pos hh, if_neg (show ¬ Rw.zero.held = true by decide)] at e1
    have e2 : (rows.set i Rw.zero).countP (·.held) = ((rows.set i Rw.zero).take n).countP (·.held) + ((rows.set i Rw.zero).drop n).countP (·.held) := by
      rw [← List.countP_append, List.take_append_drop]
    have e3 : ((rows.set i Rw.zero).drop n).countP (·.held) = 0 := by
      rw [List.countP_eq_zero]
      intro y hy hf
      obtain ⟨j, hj⟩ := List.mem_iff_getElem?.1 hy
      rw [List.getElem?_drop] at hj
      have := h1 (n + j) y (by omega) hj
      rw [this] at hf; cases hf
    have := h.cnt
    omega
theorem Drop_c {w : World} {B p : Nat} {f : List Nat} {s : TS} (h : At w B p f s) (name : ByteArray) {R : Ending → World → Prop}
    (k : ∀ w', At w' B p f (dropV s name).1 → Ext f w w' → R (.returned (.tuple #[.int .i64 (dropV s name).2.1, .int .i64 (dropV s name).2.2])) w') :
    Calls Try.prog 13 #[.pointer (some ⟨p, 0, none⟩), .string name] w R := by
  apply slots_Table_int__Drop_nf
  simp only [Nat.sub_zero, cut0]
  refine look_c h name ⟨_, _, rfl, ?_⟩
  by_cases e0 : (lookV s name).2 = 0
  rotate_left
  · have hv : dropV s name = (s, 0, (lookV s name).2) := by unfold dropV; rw [if_pos e0]
    rw [hv] at k
    exact sel_true (by simpa using e0) (k w h (Ext.refl _ _))
  obtain ⟨i, x, hx, hh, hname, e1, hg⟩ := lookV_ok h e0
  obtain ⟨r, A, n, c, q, inv, rfl⟩ := h
  have hl := q.own.len
  have hil := (List.getElem?_eq_some_iff.1 hx).1
  have hrows := inv.len
  have htop := inv.top
  have hv : dropV s name = (⟨s.most, trimT (s.rows.set i Rw.zero), mdel s.m name, if (i : Int) < s.low then i else s.low⟩, (i : Int), 0) := by
    unfold dropV; rw [if_neg (by simp [e0]), e1, Int.toNat_natCast]
  rw [hv] at k
  rw [e0, e1]
  have hrF := q.hr
  simp only [List.mem_cons, not_or] at hrF
  have hlt := q.lt
  subst hname
  obtain ⟨w1, hr1, mp1, x1⟩ := drop_map (P := Try.prog) (ty := 0) (tk := 9) kS u28 q.mp x.name
  have hd1 := q.hdr.ext x1 (by simp; exact fun e => hrF.1 e.symm)
  have own1 := q.own.ext x1 (fun b hb => by simp; exact fun e => hrF.2 (e ▸ hb))
  obtain ⟨g, w2, rfl, hr2, own2, x2⟩ := own1.set (P := Try.prog) i81s (i := i) (by omega) Rw.zero
  have hr2' : Sem.run Try.prog (Instr.storeAt 81 (.pointer (some (Addr.add ⟨g, 0, none⟩ (Int.toNat (i : Int) * 3)))) (.agg #[.bool false, .string ByteArray.empty, .int .i64 0])) w1 = .ok () w2 := by rw [Int.toNat_natCast]; exact hr2
  have hd2 := hd1.ext x2 q.hp
  have mp2 := mp1.ext x2 hrF.2
  obtain ⟨rows1, hrows1⟩ : ∃ rows1, rows1 = s.rows.set i Rw.zero := ⟨_, rfl⟩
  rw [← hrows1] at own2 k
  have hl1 : rows1.length = n := by rw [hrows1, List.length_set]; exact hl
  refine sel_false rfl (ptr_in ⟨_, cadd q.hdr rfl, w1, hr1, ptr_in ⟨_, _, _, cadd hd1 rfl, when_dec ⟨by omega, by omega⟩ (ptr_in ⟨w2, hr2', ?_⟩)⟩⟩)
  have xe : Ext (p :: r :: ownF (some ⟨g, 0, none⟩)) w w2 := (x1.weaken (fun b hb => .inl (by simp at hb; simp [hb]))).trans (x2.weaken (fun b hb => .inl (by simp [hb])))
  refine ⟨fun w' => ∃ n' : Nat, n' ≤ n ∧ BlkT w' p [.int .i64 (s.most : Int), .map (some r), .slice (some ⟨g, 0, none⟩) n' c, .int .i64 (s.low : Int)] 79 ∧ OwnL RL w' B 81 (some ⟨g, 0, none⟩) n' c (rows1.take n') ∧ MapAt w' r Value.string ki (mdel s.m x.name) ∧ Ext (p :: r :: ownF (some ⟨g, 0, none⟩)) w w' ∧ ∀ (j : Nat) (y : Rw), n' ≤ j → rows1[j]? = some y → y.held = false,
    fun w' => match w'.cell? ⟨p, 2, none⟩ with | some (.slice _ l _) => l | _ => 0, ⟨n, Nat.le_refl _, hd2, by rw [List.take_of_length_le (by omega)]; exact own2, mp2, xe, fun j y hj hy => by have := (List.getElem?_eq_some_iff.1 hy).1; omega⟩, ?_⟩
  rintro _ w3 ⟨n', hn', hd3, own3, mp3, x3, hoff⟩
  -- the low slot, and out
  have fin : (n' = 0 ∨ ∃ y, rows1[n' - 1]? = some y ∧ y.held = true) →
      V.ptr (some ⟨p, 0, none⟩) fun a32 =>
      ∃ n33, World.cell? (World.drew w3) (Addr.add a32 3) = some (Value.int .i64 n33) ∧
      V.ptr (some ⟨p, 0, none⟩) fun a34 =>
      ∃ w35, Sem.run Try.prog (Instr.storeAt 3 (Value.pointer (some (Addr.add a34 3))) (Value.int .i64 (if (i : Int) < n33 then (i : Int) else n33))) (World.drew w3) = .ok () w35 ∧
      R (Ending.returned (Value.tuple #[(Value.int .i64 (i : Int)), (Value.int .i64 0)])) w35 := fun hend => by
    have hsp : spanOf rows1 = n' := spanOf_eq hoff hend
    have d : Ext [] w3 w3.drew := (Ext.refl [] w3).drew
    have hd4 := hd3.ext d (by simp)
    obtain ⟨w5, hr5, hd5, x5⟩ := store1a (P := Try.prog) (t := 3) (v := .int .i64 ((if (i : Int) < s.low then i else s.low : Nat) : Int)) i3s hd4 (i := 3) (by simp) rfl rfl
    have hlo : (if (i : Int) < (s.low : Int) then (i : Int) else (s.low : Int)) = ((if (i : Int) < s.low then i else s.low : Nat) : Int) := by split <;> rfl
    refine ptr_in ⟨_, cadd hd4 rfl, ptr_in ?_⟩
    rw [hlo]
    refine ⟨w5, hr5, k w5 ⟨r, some ⟨g, 0, none⟩, n', c, ⟨hd5, ?_, (mp3.ext d (by simp)).ext x5 (by simp; exact hrF.1), q.hp, q.hr, Nat.le_trans q.hB (Nat.le_trans x3.size (Nat.le_trans d.size x5.size))⟩, ?_, rfl⟩ ?_⟩
    · show OwnL RL w5 B 81 (some ⟨g, 0, none⟩) n' c (trimT rows1)
      unfold trimT
      rw [hsp]
      exact (own3.ext0 d).ext x5 (fun b hb => by simp; exact fun e => q.hp (e ▸ hb))
    · show TInv s.most (trimT rows1) (mdel s.m x.name) _
      unfold trimT
      rw [hsp, hrows1]
      rw [hrows1] at hoff hend
      have hb : (if (i : Int) < (s.low : Int) then i else s.low) ≤ s.low ∧ (if (i : Int) < (s.low : Int) then i else s.low) ≤ i := by
        by_cases hc : (i : Int) < (s.low : Int)
        · rw [if_pos hc]; omega
        · rw [if_neg hc]; omega
      exact inv.drop q.mp.nodup hx hh (by omega) hoff hend hb.1 hb.2
    · exact (x3.drew).trans' x5 (fun b hb => .inl (by simp at hb; simp [hb]))
  refine ptr_in ⟨_, _, _, cadd hd3 rfl, sel_dec (fun hpos => ?_) (fun hz => fin (.inl (by omega)))⟩
  have hpos : 0 < n' := by omega
  have ei : IntKind.wrap .i64 ((n' : Int) - 1) = ((n' - 1 : Nat) : Int) := by rw [w64 (by omega) (by omega)]; omega
  obtain ⟨y, ad, hy, hA, ry⟩ := own3.row (a := n' - 1) (by omega)
  cases hA
  have hy' : rows1[n' - 1]? = some y := by rw [List.getElem?_take, if_pos (by omega)] at hy; exact hy
  refine ptr_in ⟨_, _, _, cadd hd3 rfl, ptr_in ⟨_, _, _, cadd hd3 rfl, ?_⟩⟩
  rw [ei]
  refine when_dec ⟨by omega, by omega⟩ (ptr_in ⟨_, ry 0 _ rfl, sel_intro (fun hnh => ?_) (fun hhd => fin (.inr ⟨y, hy', by simpa using hhd⟩))⟩)
  have d : Ext [] w3 w3.drew := (Ext.refl [] w3).drew
  have hd4 := hd3.ext d (by simp)
  have hcap := own3.cap
  refine ptr_in ⟨_, _, _, cadd hd4 rfl, ptr_in ⟨_, _, _, cadd hd4 rfl, ?_⟩⟩
  rw [ei]
  have d2 : Ext [] w3 w3.drew.drew := d.drew
  obtain ⟨w5, hr5, hd5, x5⟩ := store1a (P := Try.prog) (v := .slice (some ⟨g, 0, none⟩) (n' - 1) c) i77s (hd3.ext d2 (by simp)) (i := 2) (by simp) rfl rfl
  have own5 := ((own3.ext0 d2).ext x5 (fun b hb => by simp; exact fun e => q.hp (e ▸ hb))).take (n := n' - 1) (by omega) hpos
  rw [List.take_take, Nat.min_eq_left (by omega)] at own5
  refine when_dec ⟨by omega, by omega⟩ (ptr_in ⟨w5, hr5, ⟨n' - 1, by omega, hd5, own5, (mp3.ext d2 (by simp)).ext x5 (by simp; exact hrF.1), (x3.then d2).trans' x5 (fun b hb => .inl (by simp at hb; simp [hb])), fun j z hj hz => ?_⟩, ?_⟩)
  · by_cases e : j = n' - 1
    · subst e; rw [hy'] at hz; cases hz; simpa using hnh
    · exact hoff j z (by omega) hz
  · have h3 := hd3.cell (i := 2) rfl
    have h5 := hd5.cell (i := 2) rfl
    simp only [h3, h5]
    omega
end Go.Proofs.Ytcampkaenlohbaa
