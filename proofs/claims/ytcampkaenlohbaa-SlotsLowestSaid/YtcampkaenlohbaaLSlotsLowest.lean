/- Whatever script comes in, berthlaw05.SlotsLowest returns true and leaves what came in as it was. -/
import Derived.Test.YtcampkaenlohbaaK4
import Derived.Test.YtcampkaenlohbaaRows
set_option linter.unusedVariables false
set_option linter.unusedSimpArgs false
namespace Go.Proofs.Ytcampkaenlohbaa
open Go Go.V Go.B
open Go.ChangeShapes Go.WideShapes Go.ChangeAt Go.RowKit

theorem own : ownKnob Try.prog.godebug = none := by kernel_rfl
theorem laidOut : laidOutB Try.prog = true := by kernel_rfl
theorem u29 : Try.prog.underlying 29 = some (.map 3 3) := by kernel_rfl
theorem kI : KeyT Try.prog 3 (Value.int .i64) := keyInt (by kernel_rfl)
theorem lookI {w : World} {r : Nat} {m : List (Int × Int)} (h : MapAt w r ki ki m) (j : Int) : (Instr.lookup 29 (.map (some r)) (.int .i64 j) false).run Try.prog w = .ok (.int .i64 ((mget m j).getD 0)) w := by
  cases hg : mget m j with
  | some v => exact (look_yes (P := Try.prog) kI u29 zI h hg).1
  | none => exact (look_no (P := Try.prog) kI u29 zI h hg).1
structure Lo (W w : World) (B p : Nat) (f : List Nat) (s : TS) (r1 r2 : Nat) (so : List (ByteArray × Int)) (iu : List (Int × Int)) : Prop where
  hat : At w B p f s
  most : s.most = 40
  ext : Ext [] W w
  hf : ∀ b ∈ f, W.heap.size ≤ b
  m1 : MapAt w r1 Value.string ki so
  m2 : MapAt w r2 ki ki iu
  n1 : r1 ∉ f
  n2 : r2 ∉ f
  ne : r1 ≠ r2
  h1 : W.heap.size ≤ r1
  h2 : W.heap.size ≤ r2
  same : ∀ k, mget so k = mget s.m k
  use : ∀ j, ((mget iu j).getD 0 = 1 ∧ occ s.m j) ∨ ((mget iu j).getD 0 = 0 ∧ ¬ occ s.m j)
theorem Lo.ext0 {W w w' : World} {B p : Nat} {f : List Nat} {s : TS} {r1 r2 : Nat} {so : List (ByteArray × Int)} {iu : List (Int × Int)} (h : Lo W w B p f s r1 r2 so iu) (e : Ext [] w w') : Lo W w' B p f s r1 r2 so iu :=
  ⟨h.hat.ext0 e, h.most, h.ext.trans e, h.hf, h.m1.ext0 e, h.m2.ext0 e, h.n1, h.n2, h.ne, h.h1, h.h2, h.same, h.use⟩
/-- Behind a call that changed the table alone. -/
theorem Lo.turn {W w w' : World} {B p : Nat} {f f' : List Nat} {s s' : TS} {r1 r2 : Nat} {so : List (ByteArray × Int)} {iu : List (Int × Int)} (h : Lo W w B p f s r1 r2 so iu) (q : At w' B p f' s') (e : Ext f w w') (g : Grow w f f') (hm : s'.most = s.most) (same : s'.m = s.m) : Lo W w' B p f' s' r1 r2 so iu :=
  ⟨q, by rw [hm, h.most], Ext.old h.ext h.hf e, Grow.old h.ext h.hf g, h.m1.ext e h.n1, h.m2.ext e h.n2, fun hm => by
    rcases g _ hm with h' | h'
    · exact h.n1 h'
    · have := h.m1.lt; omega, fun hm => by
    rcases g _ hm with h' | h'
    · exact h.n2 h'
    · have := h.m2.lt; omega, h.ne, h.h1, h.h2, by rw [same]; exact h.same, by rw [same]; exact h.use⟩
/-- Len and Find fit what the law keeps. -/
theorem tail_c {W w : World} {B p : Nat} {f : List Nat} {s : TS} {r1 r2 : Nat} {so : List (ByteArray × Int)} {iu : List (Int × Int)} (h : Lo W w B p f s r1 r2 so iu) {b : Nat} {o : Op} (hb : BlkT w b o.cells 31) {R : Ending → World → Prop} {K : World → Prop} (k : ∀ w', Ext [] w w' → K w') :
    Calls Try.prog 14 #[(Value.pointer (some ⟨p, 0, none⟩))] w fun e32 w33 =>
    ∃ n31, e32 = Ending.returned (Value.int .i64 n31) ∧
    ∃ n34, ∃ w35, Sem.run Try.prog (Builtin.len_ #[28] 3 #[(Value.map (some r1))]) w33 = .ok (Value.int .i64 n34) w35 ∧
    V.sel (n31 != n34)
    (R (Ending.returned (Value.bool false)) w35)
    (∃ s36, World.cell? w35 (Addr.add ⟨b, 0, none⟩ 3) = some (Value.string s36) ∧
    Calls Try.prog 15 #[(Value.pointer (some ⟨p, 0, none⟩)), (Value.string s36)] w35 fun e40 w41 =>
    ∃ n37, ∃ n38, ∃ b39, e40 = Ending.returned (Value.tuple #[(Value.int .i64 n37), (Value.int .i64 n38), (Value.bool b39)]) ∧
    ∃ s42, World.cell? w41 (Addr.add ⟨b, 0, none⟩ 3) = some (Value.string s42) ∧
    ∃ n43, ∃ b44, ∃ w45, Sem.run Try.prog (Instr.lookup 28 (Value.map (some r1)) (Value.string s42) true) w41 = .ok (Value.tuple #[(Value.int .i64 n43), (Value.bool b44)]) w45 ∧
    V.sel (!(b39 == b44))
    (R (Ending.returned (Value.bool false)) w45)
    (V.sel b39
    (V.sel (n37 != n43)
    (R (Ending.returned (Value.bool false)) w45)
    (K w45))
    (K w45))) := by
  have hlen := same_len h.m1.nodup h.hat.keys h.same
  refine Len_c h.hat ⟨_, rfl, _, _, len_map (P := Try.prog) u28 h.m1, sel_false (by rw [hlen]; simp) ⟨_, cadd hb rfl, Find_c h.hat o.name fun w1 e1 => ⟨_, _, _, rfl, _, cadd (hb.ext e1 (by simp)) rfl, ?_⟩⟩⟩
  have hz := look_zero h.hat o.name
  have hs := look_some h.hat o.name
  have hm := h.m1.ext0 e1
  unfold findV
  cases hg : mget s.m o.name with
  | some v =>
    rw [hg] at hs hz
    have e0 : (lookV s o.name).2 = 0 := by simpa using hz
    have ev : (lookV s o.name).1 = v := by rw [hs]
    rw [if_pos e0, ev]
    have hgo : mget so o.name = some v := by rw [h.same, hg]
    exact ⟨_, _, _, (look_yes (P := Try.prog) kS u28 zI hm hgo).2, sel_false rfl (sel_true rfl (sel_false (by simp) (k w1 e1)))⟩
  | none =>
    rw [hg] at hz
    have e0 : ¬ (lookV s o.name).2 = 0 := by simpa using hz
    rw [if_neg e0]
    have hgo : mget so o.name = none := by rw [h.same, hg]
    exact ⟨_, _, _, (look_no (P := Try.prog) kS u28 zI hm hgo).2, sel_false rfl (sel_false rfl (k w1 e1))⟩
set_option maxRecDepth 4000 in
theorem slotsLowest_c {W : World} {A : Option Addr} {n c : Nat} {ops : List Op} (ho : OpsAt W A n ops) {R : Ending → World → Prop} (k : ∀ w', Ext [] W w' → R (.returned (.bool true)) w') : Calls Try.prog 4 #[.slice A n c] W R := by
  apply berthlaw05_SlotsLowest_nf
  have hbd := ho.2.2
  refine fixed_c fun w1 e1 => ⟨_, rfl, sel_false rfl (New_c 40 (fun h => by omega) fun p f w2 _ _ e2 q2 hf => ⟨_, _, rfl, sel_false rfl (sel_false rfl ?_)⟩)⟩
  intro w3 h3 w4 h4
  obtain ⟨m3, e3, z3⟩ := map_new (β := Int) Value.string ki h3
  obtain ⟨m4, e4, z4⟩ := map_new (β := Int) ki ki h4
  have hW := (e1.trans e2).size
  have L0 : Lo W w4 w1.heap.size p f ⟨40, [], [], 0⟩ w2.heap.size w3.heap.size [] [] := by
    refine ⟨(At.ext0 (s := ⟨40, [], [], 0⟩) q2 e3).ext0 e4, rfl, ((e1.trans e2).trans e3).trans e4, fun b hb => Nat.le_trans e1.size (hf b hb), m3.ext0 e4, m4, fun hm => by have := q2.lt _ hm; omega, fun hm => by have := q2.lt _ hm; omega, by omega, hW, by omega, fun k => rfl, fun j => .inr ⟨rfl, ?_⟩⟩
    rintro ⟨k, hk⟩
    simp [mget] at hk
  obtain ⟨r1, hr1⟩ : ∃ r1, r1 = w2.heap.size := ⟨_, rfl⟩
  obtain ⟨r2, hr2⟩ : ∃ r2, r2 = w3.heap.size := ⟨_, rfl⟩
  rw [← hr1, ← hr2] at L0 ⊢
  refine ⟨fun t w' => ∃ (a : Nat) (f : List Nat) (s : TS) (so : List (ByteArray × Int)) (iu : List (Int × Int)), t = a ∧ a ≤ n ∧ Lo W w' w1.heap.size p f s r1 r2 so iu, fun t _ => n - t.toNat, ⟨0, f, _, [], [], rfl, by omega, L0⟩, ?_⟩
  rintro _ _ w5 ⟨a, f5, s, so, iu, rfl, ha, L5⟩
  refine sel_dec (fun hlt => ?_) (fun hge => k w5 L5.ext)
  obtain ⟨o, ad, hoa, rfl, rd⟩ := (ho.ext0 L5.ext).read (a := a) (by omega)
  refine when_dec ⟨by omega, by omega⟩ (ptr_in ⟨_, _, _, _, _, rd, fun w6 h6 => ?_⟩)
  obtain ⟨w7, hr7, b7, e7⟩ := op_box (o := o) h6
  have L7 := L5.ext0 e7
  obtain ⟨bx, hbx⟩ : ∃ bx, bx = w5.heap.size := ⟨_, rfl⟩
  rw [← hbx] at b7 hr7 ⊢
  have hbf : bx ∉ f5 := fun hm => by have := L5.hat.lt _ hm; omega
  have hb1 : bx ≠ r1 := fun e => by have := L5.m1.lt; omega
  have hb2 : bx ≠ r2 := fun e => by have := L5.m2.lt; omega
  -- a round ends
  have fin : ∀ {f' s' so' iu'} (w' : World), Lo W w' w1.heap.size p f' s' r1 r2 so' iu' → (∃ (a' : Nat) (f : List Nat) (s : TS) (so : List (ByteArray × Int)) (iu : List (Int × Int)), IntKind.wrap .i64 ((a : Int) + 1) = a' ∧ a' ≤ n ∧ Lo W w' w1.heap.size p f s r1 r2 so iu) ∧ n - (IntKind.wrap .i64 ((a : Int) + 1)).toNat < n - (a : Int).toNat := fun {f' s' so' iu'} w' L => by
    rw [up64 a (by omega)]
    exact ⟨⟨a + 1, f', s', so', iu', rfl, by omega, L⟩, by simp only [Int.toNat_natCast]; omega⟩
  have hinv := L7.hat.inv
  refine ⟨w7, hr7, _, cadd b7 rfl, sel_intro (fun _ => ?_) (fun _ => sel_intro (fun _ => ?_) (fun _ => sel_intro (fun _ => ?_) (fun _ => tail_c L7 b7 fun w' e => fin w' (L7.ext0 e))))⟩
  · -- Put
    refine ⟨_, cadd b7 rfl, _, cadd b7 rfl, Put_c L7.hat o.name o.v fun w8 f8 q8 e8 g8 => ⟨_, _, rfl, ?_⟩⟩
    have b8 := b7.ext e8 hbf
    refine sel_intro (fun hno => ?_) (fun hyes => ?_)
    · -- refused
      have hs : (putV s o.name o.v).1 = s := by
        unfold putV at hno ⊢
        split
        · rfl
        · split
          · rfl
          · split
            · rfl
            · rename_i g1 g2 g3
              rw [if_neg g1, if_neg g2, if_neg g3] at hno
              cases hno
      rw [hs] at q8
      have L8 := L7.turn q8 e8 g8 rfl rfl
      exact tail_c L8 b8 fun w' e => fin w' (L8.ext0 e)
    · have hc : (putV s o.name o.v).2.2 = 0 := by simpa using hyes
      have hz := look_zero L7.hat o.name
      have hls := look_some L7.hat o.name
      have hput : putV s o.name o.v = (⟨s.most, putRows s.rows (freeAt s.rows) ⟨true, o.name, o.v⟩, mput s.m o.name (freeAt s.rows : Int), freeAt s.rows + 1⟩, (freeAt s.rows : Int), 0) ∧ mget s.m o.name = none := by
        unfold putV at hc ⊢
        split
        · rename_i g1; rw [if_pos g1] at hc; cases hc
        · rename_i g1
          rw [if_neg g1] at hc
          split
          · rename_i g2
            rw [if_pos g2] at hc
            exact absurd hc g1
          · rename_i g2
            rw [if_neg g2] at hc
            split
            · rename_i g3; rw [if_pos g3] at hc; cases hc
            · exact ⟨rfl, (look54 g1 (by simpa using g2)).2⟩
      obtain ⟨hput, hnone⟩ := hput
      rw [hput] at q8 ⊢
      have inv8 := q8.inv
      obtain ⟨sl, hsl⟩ : ∃ sl, sl = freeAt s.rows := ⟨_, rfl⟩
      rw [← hsl] at q8 inv8 ⊢
      dsimp only at q8 inv8 ⊢
      have hocc : ¬ occ s.m (sl : Int) := by
        rintro ⟨kk, hk⟩
        obtain ⟨i, x, hx, hh, _, hi⟩ := (hinv.mp _ _).1 hk
        have hi' : i = sl := by omega
        subst hi'
        rw [hsl] at hx
        rcases free_at s.rows with h' | ⟨y, hy, hf⟩
        · have := (List.getElem?_eq_some_iff.1 hx).1; omega
        · rw [hx] at hy; cases hy; rw [hf] at hh; cases hh
      have hlt40 : sl < 40 := by
        have hsle : sl ≤ s.rows.length := by rw [hsl]; exact free_le _
        have h1 : (putRows s.rows sl ⟨true, o.name, o.v⟩)[sl]? = some ⟨true, o.name, o.v⟩ := (put_at hsle).2 (.inl ⟨rfl, rfl⟩)
        have h2 := (List.getElem?_eq_some_iff.1 h1).1
        have h3 := inv8.len
        have h4 := L7.most
        simp only at h3
        omega
      have hW7 := L7.ext
      have e08 := Ext.old L7.ext L7.hf e8
      have m1' := L7.m1.ext e8 L7.n1
      have m2' := L7.m2.ext e8 L7.n2
      have hu := L7.use (sl : Int)
      have hu0 : (mget iu (sl : Int)).getD 0 = 0 := by
        rcases hu with ⟨_, h'⟩ | ⟨h', _⟩
        · exact absurd h' hocc
        · exact h'
      refine ⟨_, _, lookI m2' (sl : Int), sel_false (by rw [hu0]; rfl) (sel_dec (fun h => by have h : (sl : Int) < 0 := h; omega) (fun _ => sel_dec (fun h => by have h : (sl : Int) ≥ 40 := h; omega) (fun _ => ?_)))⟩
      refine ⟨fun t w' => ∃ b : Nat, t = b ∧ b ≤ sl ∧ w' = w8, fun t _ => sl - t.toNat, ⟨0, rfl, by omega, rfl⟩, ?_⟩
      rintro _ _ _ ⟨b, rfl, hb, rfl⟩
      refine sel_dec (fun hblt => ?_) (fun hbge => ?_)
      · have hub : (mget iu (b : Int)).getD 0 = 1 := by
          rcases L7.use (b : Int) with ⟨h', _⟩ | ⟨_, h'⟩
          · exact h'
          · exfalso
            obtain ⟨x, hx, hh⟩ := free_lo (rows := s.rows) (i := b) (by omega)
            exact h' ⟨x.name, (hinv.mp _ _).2 ⟨b, x, hx, hh, rfl, rfl⟩⟩
        refine ⟨_, _, lookI m2' (b : Int), sel_false (by rw [hub]; rfl) ?_⟩
        rw [up64 b (by omega)]
        exact ⟨⟨b + 1, rfl, by omega, rfl⟩, by simp only [Int.toNat_natCast]; omega⟩
      · have hgo : mget so o.name = none := by rw [L7.same, hnone]
        obtain ⟨w9, hr9, m9, e9⟩ := store_map (P := Try.prog) kS u28 m1' o.name (sl : Int)
        have hne := L7.ne
        obtain ⟨w10, hr10, m10, e10⟩ := store_map (P := Try.prog) kI u29 (m2'.ext e9 (by simp; exact Ne.symm hne)) (sl : Int) (1 : Int)
        have hf8 := Grow.old L7.ext L7.hf g8
        have n18 : r1 ∉ f8 := fun hm => by
          rcases g8 _ hm with h' | h'
          · exact L7.n1 h'
          · have := L7.m1.lt; omega
        have n28 : r2 ∉ f8 := fun hm => by
          rcases g8 _ hm with h' | h'
          · exact L7.n2 h'
          · have := L7.m2.lt; omega
        have hR1 := L7.h1
        have hR2 := L7.h2
        have L10 : Lo W w10 w1.heap.size p f8 ⟨s.most, putRows s.rows sl ⟨true, o.name, o.v⟩, mput s.m o.name (sl : Int), sl + 1⟩ r1 r2 (mput so o.name (sl : Int)) (mput iu (sl : Int) 1) := by
          refine ⟨(q8.ext e9 (fun b hb => by simp; exact fun e => n18 (e ▸ hb))).ext e10 (fun b hb => by simp; exact fun e => n28 (e ▸ hb)), L7.most, (e08.trans' e9 (fun b hb => .inr (by simp at hb; omega))).trans' e10 (fun b hb => .inr (by simp at hb; omega)), hf8, m9.ext e10 (by simp; exact hne), m10, n18, n28, hne, hR1, hR2, fun kk => ?_, fun j => ?_⟩
          · rw [mget_mput, mget_mput, L7.same]
          · have hoc : occ (mput s.m o.name (sl : Int)) j ↔ j = (sl : Int) ∨ occ s.m j := by
              constructor
              · rintro ⟨kk, hk⟩
                rw [mget_mput] at hk
                split at hk
                · cases hk; exact .inl rfl
                · exact .inr ⟨kk, hk⟩
              · rintro (rfl | ⟨kk, hk⟩)
                · exact ⟨o.name, by rw [mget_mput, if_pos rfl]⟩
                · refine ⟨kk, ?_⟩
                  rw [mget_mput, if_neg (fun e => by rw [← e, hnone] at hk; cases hk)]
                  exact hk
            show ((mget (mput iu (sl : Int) 1) j).getD 0 = 1 ∧ occ (mput s.m o.name (sl : Int)) j) ∨ ((mget (mput iu (sl : Int) 1) j).getD 0 = 0 ∧ ¬ occ (mput s.m o.name (sl : Int)) j)
            rw [mget_mput, hoc]
            by_cases e : (sl : Int) = j
            · rw [if_pos e]; exact .inl ⟨rfl, .inl e.symm⟩
            · rw [if_neg e]
              rcases L7.use j with ⟨h', h''⟩ | ⟨h', h''⟩
              · exact .inl ⟨h', .inr h''⟩
              · exact .inr ⟨h', fun hh => by
                  rcases hh with h3 | h3
                  · exact e h3.symm
                  · exact h'' h3⟩
        have b10 := (b8.ext e9 (by simp; exact hb1)).ext e10 (by simp; exact hb2)
        refine ⟨_, cadd b8 rfl, _, _, _, (look_no (P := Try.prog) kS u28 zI m1' hgo).2, sel_false rfl ⟨_, cadd b8 rfl, w9, hr9, w10, hr10, tail_c L10 b10 fun w' e => fin w' (L10.ext0 e)⟩⟩
  · -- Set
    refine ⟨_, cadd b7 rfl, _, cadd b7 rfl, Set_c L7.hat o.name o.v fun w8 q8 e8 => ⟨_, rfl, ?_⟩⟩
    have hs : (setV s o.name o.v).m = s.m ∧ (setV s o.name o.v).most = s.most := by unfold setV; split <;> exact ⟨rfl, rfl⟩
    have L8 := L7.turn q8 e8 (Grow.refl _ _) hs.2 hs.1
    exact tail_c L8 (b7.ext e8 hbf) fun w' e => fin w' (L8.ext0 e)
  · -- Drop
    refine ⟨_, cadd b7 rfl, Drop_c L7.hat o.name fun w8 q8 e8 => ⟨_, _, rfl, _, cadd (b7.ext e8 hbf) rfl, ?_⟩⟩
    have b8 := b7.ext e8 hbf
    have m1' := L7.m1.ext e8 L7.n1
    have m2' := L7.m2.ext e8 L7.n2
    have hz := look_zero L7.hat o.name
    have hls := look_some L7.hat o.name
    cases hg : mget s.m o.name with
    | none =>
      rw [hg] at hz
      have e0 : ¬ (lookV s o.name).2 = 0 := by simpa using hz
      have hv : dropV s o.name = (s, 0, (lookV s o.name).2) := by unfold dropV; rw [if_pos e0]
      rw [hv] at q8 ⊢
      have hgo : mget so o.name = none := by rw [L7.same, hg]
      have L8 := L7.turn q8 e8 (Grow.refl _ _) rfl rfl
      refine ⟨_, _, _, (look_no (P := Try.prog) kS u28 zI m1' hgo).2, sel_false (by simp [e0]) (sel_false rfl (sel_false rfl ?_))⟩
      exact tail_c L8 b8 fun w' e => fin w' (L8.ext0 e)
    | some v =>
      rw [hg] at hz hls
      have e0 : (lookV s o.name).2 = 0 := by simpa using hz
      have e1 : (lookV s o.name).1 = v := by rw [hls]
      have hv : dropV s o.name = (⟨s.most, trimT (s.rows.set v.toNat Rw.zero), mdel s.m o.name, if v < s.low then v.toNat else s.low⟩, v, 0) := by
        unfold dropV; rw [if_neg (by simp [e0]), e1]
      rw [hv] at q8 ⊢
      have hgo : mget so o.name = some v := by rw [L7.same, hg]
      have hf8 := L7.hf
      have e08 := Ext.old L7.ext L7.hf e8
      have hne := L7.ne
      have hR1 := L7.h1
      have hR2 := L7.h2
      obtain ⟨w9, hr9, m9, e9⟩ := drop_map (P := Try.prog) (ty := 0) (tk := 9) kS u28 m1' o.name
      obtain ⟨w10, hr10, m10, e10⟩ := store_map (P := Try.prog) kI u29 (m2'.ext e9 (by simp; exact Ne.symm hne)) v (0 : Int)
      have L10 : Lo W w10 w1.heap.size p f5 ⟨s.most, trimT (s.rows.set v.toNat Rw.zero), mdel s.m o.name, if v < s.low then v.toNat else s.low⟩ r1 r2 (mdel so o.name) (mput iu v 0) := by
        refine ⟨(q8.ext e9 (fun b hb => by simp; exact fun e => L7.n1 (e ▸ hb))).ext e10 (fun b hb => by simp; exact fun e => L7.n2 (e ▸ hb)), L7.most, (e08.trans' e9 (fun b hb => .inr (by simp at hb; omega))).trans' e10 (fun b hb => .inr (by simp at hb; omega)), hf8, m9.ext e10 (by simp; exact hne), m10, L7.n1, L7.n2, hne, hR1, hR2, fun kk => ?_, fun j => ?_⟩
        · show mget (mdel so o.name) kk = mget (mdel s.m o.name) kk
          rw [mget_mdel L7.m1.nodup, mget_mdel L7.hat.keys, L7.same]
        · have hoc : occ (mdel s.m o.name) j ↔ j ≠ v ∧ occ s.m j := by
            constructor
            · rintro ⟨kk, hk⟩
              rw [mget_mdel L7.hat.keys] at hk
              split at hk
              · cases hk
              · rename_i hkn
                refine ⟨fun e => ?_, kk, hk⟩
                subst e
                obtain ⟨i, x, hx, _, hxn, hi⟩ := (hinv.mp _ _).1 hk
                obtain ⟨i', x', hx', _, hxn', hi'⟩ := (hinv.mp _ _).1 hg
                have : i = i' := by omega
                subst this
                rw [hx] at hx'
                cases hx'
                exact hkn (hxn'.symm.trans hxn)
            · rintro ⟨hjv, kk, hk⟩
              refine ⟨kk, ?_⟩
              rw [mget_mdel L7.hat.keys, if_neg (fun e => by rw [← e, hg] at hk; cases hk; exact hjv rfl)]
              exact hk
          show ((mget (mput iu v 0) j).getD 0 = 1 ∧ occ (mdel s.m o.name) j) ∨ ((mget (mput iu v 0) j).getD 0 = 0 ∧ ¬ occ (mdel s.m o.name) j)
          rw [mget_mput, hoc]
          by_cases e : v = j
          · rw [if_pos e]; exact .inr ⟨rfl, fun h' => h'.1 e.symm⟩
          · rw [if_neg e]
            rcases L7.use j with ⟨h', h''⟩ | ⟨h', h''⟩
            · exact .inl ⟨h', Ne.symm e, h''⟩
            · exact .inr ⟨h', fun hh => h'' hh.2⟩
      have b10 := (b8.ext e9 (by simp; exact hb1)).ext e10 (by simp; exact hb2)
      refine ⟨_, _, _, (look_yes (P := Try.prog) kS u28 zI m1' hgo).2, sel_false rfl (sel_true rfl (sel_false (by simp [ki]) (sel_true rfl ⟨_, cadd b8 rfl, w9, hr9, w10, hr10, ?_⟩)))⟩
      exact tail_c L10 b10 fun w' e => fin w' (L10.ext0 e)
set_option maxRecDepth 8000 in
theorem slotsLowest_lifted (os : Os) (started : os.Started) (H : Type) (enc : TypeId × Value → H) :
    ReturnsInHanded {} Try.checked os 4 .any (Rows.slotsLowestSpec.pre6 enc Try.prog Try.f4 Rows.slotsLowestRow.domain false) (Rows.slotsLowestSpec.post enc Try.prog Try.f4 false true false false) :=
  lift1 (C := Try.checked) (T := 23) (tb := 4) own (by kernel_rfl) Try.func4 (by kernel_rfl) (by kernel_rfl) Try.underlying4 rfl (fun _ _ => rfl) laidOut (by kernel_rfl) (of_decide_eq_true (by kernel_rfl)) os started H enc
    (fun W base v d p hok h hw => by
      obtain ⟨A, n, c, ops, rfl, ho⟩ := open_ops hok h hw
      exact slotsLowest_c ho fun w' e => ⟨rfl, e.below⟩)
    (ChangeSpec.witness6 (enc := enc) (C := Try.checked) false ⟨#[], #[.slice none 0 0], []⟩ 8 (by kernel_rfl) (by kernel_rfl) (by kernel_rfl) (by kernel_rfl))
theorem slotsLowest_holds : Rows.SlotsLowestSaid :=
  OpenClaim.holds_of_wide 4 Try.f4 rfl rfl rfl rfl rfl rfl rfl ⟨rfl, rfl, rfl, rfl, rfl⟩ rfl rfl rfl rfl rfl (by kernel_rfl) Try.func4 (by kernel_rfl)
    (of_decide_eq_true (by kernel_rfl)) (by unfold Func.isWrapper; first | (rw [if_pos (by decide +kernel)]; kernel_rfl) | (rw [if_neg (by decide +kernel)]; exact ⟨rfl, rfl⟩))
    (fun os started H enc _ => slotsLowest_lifted os started H enc)
end Go.Proofs.Ytcampkaenlohbaa
