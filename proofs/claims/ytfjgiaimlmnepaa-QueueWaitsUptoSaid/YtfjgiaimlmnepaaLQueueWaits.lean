/- Whatever script of bounded bulk and moment come in, berthlaw25.QueueWaits returns true and leaves what came in as it was. -/
import Derived.Test.YtfjgiaimlmnepaaQ11
import Derived.Test.YtfjgiaimlmnepaaOgU
import Derived.Test.YtfjgiaimlmnepaaRows
set_option linter.unusedVariables false
set_option linter.unusedSimpArgs false
namespace Go.Proofs.Ytfjgiaimlmnepaa
open Go Go.V Go.B
open Go.ChangeShapes Go.WideShapes Go.ChangeAt Go.RowKit

theorem own : ownKnob Try.prog.godebug = none := by kernel_rfl
theorem laidOut : laidOutB Try.prog = true := by kernel_rfl
theorem park_out {w : World} {B p : Nat} {f : List Nat} {s : QS} (h : At w B p f s) {j : Nat} {x : Wt} (hj : s.xs[j]? = some x) {now : Int} (ho : now < 0 ∨ 1099511627776 < now) : parkV s x.name now = (s, 254) := by
  unfold parkV
  rw [idx_yes (QAt.names h) hj rfl]
  simp only [if_pos ho]
theorem park_in {w : World} {B p : Nat} {f : List Nat} {s : QS} (h : At w B p f s) {j : Nat} {x : Wt} (hj : s.xs[j]? = some x) {now : Int} (h0 : 0 ≤ now) (h1 : now ≤ 1099511627776) : parkV s x.name now = (⟨s.xs.set j (x.parked now), s.next⟩, 0) := by
  unfold parkV
  rw [idx_yes (QAt.names h) hj rfl]
  simp only [if_neg (show ¬ (now < 0 ∨ 1099511627776 < now) by omega), getD_of hj]
set_option maxRecDepth 2000 in
theorem queueWaits_c {W : World} {A : Option Addr} {n c : Nat} {ops : List Op} (ho : OpsAt W A n ops) (hbulk : n ≤ 1048576) (now : Int) {R : Ending → World → Prop} (k : ∀ w', Ext [] W w' → R (.returned (.bool true)) w') :
    Calls Try.prog 6 #[.slice A n c, .int .i64 now] W R := by
  apply berthlaw25_QueueWaits_nf
  refine awake_c fun w1 e1 => ⟨_, rfl, sel_false rfl (New_c fun p f w2 e2 q2 hf => ⟨_, rfl, play_c (s := ⟨[], 0⟩) q2 ho (e1.trans e2) (fun b hb => Nat.le_trans e1.size (hf b hb)) fun w3 f3 q3 e3 g3 => ⟨rfl, ?_⟩⟩)⟩
  have hf0 : ∀ b ∈ f, W.heap.size ≤ b := fun b hb => Nat.le_trans e1.size (hf b hb)
  have t2 : Ext [] W w2 := e1.trans e2
  have t3 : Ext [] W w3 := Ext.old t2 hf0 e3
  have hf3 : ∀ b ∈ f3, W.heap.size ≤ b := Grow.old t2 hf0 g3
  have hfew := few ops
  have hn := ho.2.1
  rw [hn] at hfew
  obtain ⟨m, inv⟩ := q3.inv
  generalize playV ⟨[], 0⟩ ops = s at q3 hfew inv ⊢
  have hlen := inv.len
  refine List_c q3 fun L lc w4 e4 own4 => ⟨_, _, _, rfl, ?_⟩
  have q4 := q3.ext0 e4
  have t4 := t3.trans e4
  refine sel_intro (fun h0 => ?_) (fun h0 => ?_)
  · have hnil : s.xs = [] := by
      have : s.xs.length = 0 := by simpa using h0
      exact List.eq_nil_of_length_eq_zero this
    refine Park_v q4 bytesA now fun w5 f5 q5 e5 g5 => ⟨_, rfl, num_c _ ⟨_, rfl, ?_⟩⟩
    have hv : parkV s bytesA now = (s, 252) := by unfold parkV; rw [hnil]; rfl
    rw [hv] at q5 ⊢
    refine sel_true rfl (Len_c q5 ⟨_, rfl, ?_⟩)
    rw [hnil]
    exact k w5 (Ext.old t4 hf3 e5)
  have hpos : 0 < s.xs.length := by
    rcases Nat.eq_zero_or_pos s.xs.length with h | h
    · rw [h] at h0; simp at h0
    · exact h
  refine when_dec (by omega) (lt_eq (tmod_nat n s.xs.length) ?_)
  obtain ⟨i, hi⟩ : ∃ i, i = n % s.xs.length := ⟨_, rfl⟩
  have hil : i < s.xs.length := by rw [hi]; exact Nat.mod_lt _ hpos
  rw [← hi]
  obtain ⟨x, adL, hx, hL, rx⟩ := rowW own4.cells rfl hil
  have hxm := List.mem_of_getElem? hx
  have hx0 := hfew x hxm
  have hLf : ∀ b ∈ ownF L, b ∉ f3 := fun b hb hm => by
    have h1 := own4.base b hb
    have := q3.lt b hm
    omega
  -- out of time
  have out : (now < 0 ∨ 1099511627776 < now) → Calls Try.prog 17 #[.pointer (some ⟨p, 0, none⟩), .string x.name, .int .i64 now] w4 fun e27 w28 =>
      ∃ n26, e27 = Ending.returned (Value.int .i64 n26) ∧
      Calls Try.prog 11 #[(Value.int .i64 n26)] w28 fun e30 w31 =>
      ∃ n29, e30 = Ending.returned (Value.int .i64 n29) ∧
      V.sel (n29 == 254)
      (Calls Try.prog 19 #[(Value.pointer (some ⟨p, 0, none⟩))] w31 fun e33 w34 =>
      ∃ A32, ∃ A32l, ∃ A32c, e33 = Ending.returned (Value.slice A32 A32l A32c) ∧
      Calls Try.prog 26 #[(Value.slice A32 A32l A32c), (Value.slice L s.xs.length lc)] w34 fun e36 w37 =>
      ∃ b35, e36 = Ending.returned (Value.bool b35) ∧
      R (Ending.returned (Value.bool b35)) w37)
      (R (Ending.returned (Value.bool false)) w31) := fun ho => by
    refine Park_v q4 x.name now fun w5 f5 q5 e5 g5 => ⟨_, rfl, num_c _ ⟨_, rfl, ?_⟩⟩
    rw [park_out q4 hx ho] at q5 ⊢
    have ownL := own4.ext e5 hLf
    refine sel_true rfl (List_c q5 fun L6 c6 w6 e6 own6 => ⟨_, _, _, rfl, SameRows_c own6.cells own6.len (OwnW.ext0 ownL e6).cells rfl (show s.xs.length < 4611686018427387904 by omega) (fun _ w7 e7 => ⟨_, rfl, k w7 (((Ext.old t4 hf3 e5).trans e6).trans e7)⟩) (fun h => absurd rfl h)⟩)
  subst hL
  refine sel_dec (fun hneg => when_dec ⟨by omega, by omega⟩ (ptr_in ⟨_, rx 0 _ rfl, out (.inl hneg)⟩)) (fun hn0 => sel_dec (fun hbig => when_dec ⟨by omega, by omega⟩ (ptr_in ⟨_, rx 0 _ rfl, out (.inr hbig)⟩)) (fun hn1 => ?_))
  have hn0 : 0 ≤ now := by omega
  have hn1 : now ≤ 1099511627776 := by omega
  refine when_dec ⟨by omega, by omega⟩ (ptr_in ⟨_, _, _, _, _, _, rx, fun w5 h5 => ?_⟩)
  obtain ⟨w6, hr6, b6, e6⟩ := wt_box (x := x) h5
  have t6 := t4.trans e6
  obtain ⟨bx, hbx⟩ : ∃ bx, bx = w4.heap.size := ⟨_, rfl⟩
  rw [← hbx] at b6 hr6 ⊢
  have hbxf : bx ∉ f3 := fun hm => by have := q4.lt _ hm; omega
  have hbxL : bx ∉ ownF (some adL) := fun hm => by have := (own4.base _ hm).2; omega
  have hbxW : W.heap.size ≤ bx := by rw [hbx]; exact t4.size
  refine ⟨w6, hr6, fun t w' => ∃ (a : Nat) (f : List Nat) (z : QS) (x : Wt), t = a ∧ a ≤ 9 ∧ At w' w1.heap.size p f z ∧ Ext [] W w' ∧ (∀ b ∈ f, W.heap.size ≤ b) ∧ OwnW w' w3.heap.size (some adL) s.xs.length lc z.xs ∧ (∀ b ∈ ownF (some adL), b ∉ f) ∧ BlkT w' bx x.cells 34 ∧ bx ∉ f ∧ z.xs[i]? = some x ∧ 0 ≤ x.tries ∧ x.tries ≤ 1048576 + a,
    fun t _ => 9 - t.toNat, ⟨0, f3, s, x, rfl, by omega, q4.ext0 e6, t6, hf3, own4.ext0 e6, hLf, b6, hbxf, hx, hx0.1, by omega⟩, ?_⟩
  rintro _ _ w7 ⟨a, f7, z, y, rfl, ha, q7, t7, hf7, own7, hL7, b7, hb7, hy, hy0, hy1⟩
  refine sel_dec (fun hlt => ?_) (fun hge => k w7 t7)
  refine ⟨_, cadd b7 rfl, Park_v q7 y.name now fun w8 f8 q8 e8 g8 => ⟨_, rfl, num_c _ ⟨_, rfl, ?_⟩⟩⟩
  rw [park_in q7 hy hn0 hn1] at q8 ⊢
  refine sel_false rfl ?_
  have b8 := b7.ext e8 hb7
  have own8 := own7.ext e8 hL7
  have hb8 : bx ∉ f8 := fun hm => by
    rcases g8 _ hm with h | h
    · exact hb7 h
    · have := b7.lt; omega
  have hL8 : ∀ b ∈ ownF (some adL), b ∉ f8 := fun b hb hm => by
    rcases g8 _ hm with h | h
    · exact hL7 b hb h
    · have := (own7.base b hb).2; omega
  have t8 := Ext.old t7 hf7 e8
  have et : IntKind.wrap .i64 (y.tries + 1) = y.tries + 1 := w64 (by omega) (by omega)
  have en : IntKind.wrap .i64 (now + 64) = now + 64 := w64 (by omega) (by omega)
  obtain ⟨w9, hr9, b9, e9⟩ := store1a (P := Try.prog) (t := 3) (v := .int .i64 (y.tries + 1)) i3s b8 (i := 3) (by simp [Wt.cells]) rfl rfl
  obtain ⟨w10, hr10, b10, e10⟩ := store1a (P := Try.prog) (t := 4) (v := .bool true) i4s b9 (i := 5) (by simp [Wt.cells]) rfl rfl
  obtain ⟨w11, hr11, b11, e11⟩ := store1a (P := Try.prog) (t := 3) (v := .int .i64 (now + 64)) i3s b10 (i := 4) (by simp [Wt.cells]) rfl rfl
  refine ⟨_, cadd b8 rfl, ?_⟩
  rw [et, en]
  refine ⟨w9, hr9, w10, hr10, w11, hr11, _, cadd b11 rfl, ?_⟩
  have e811 : Ext [bx] w8 w11 := (e9.trans e10).trans e11
  -- the end of a round
  have fin : ∀ w12, BlkT w12 bx (y.parked now).cells 34 → Ext [bx] w8 w12 →
      V.when (decide ((0 : Int) ≤ (i : Int) ∧ ((i : Int) : Int) < ((s.xs.length : Nat) : Int))) (V.ptr (some adL) fun a86 =>
      ∃ w87, Sem.run Try.prog (Instr.storeAt 34 (Value.pointer (some (Addr.add a86 ((Int.toNat (i : Int)) * 6)))) (.agg ⟨(y.parked now).cells⟩)) w12 = .ok () w87 ∧
      Calls Try.prog 19 #[(Value.pointer (some ⟨p, 0, none⟩))] w87 fun e89 w90 =>
      ∃ A88, ∃ A88l, ∃ A88c, e89 = Ending.returned (Value.slice A88 A88l A88c) ∧
      Calls Try.prog 26 #[(Value.slice A88 A88l A88c), (Value.slice (some adL) s.xs.length lc)] w90 fun e92 w93 =>
      ∃ b91, e92 = Ending.returned (Value.bool b91) ∧
      V.sel (!b91)
      (R (Ending.returned (Value.bool false)) w93)
      ((∃ (a' : Nat) (f : List Nat) (z : QS) (x : Wt), IntKind.wrap .i64 ((a : Int) + 1) = a' ∧ a' ≤ 9 ∧ At w93 w1.heap.size p f z ∧ Ext [] W w93 ∧ (∀ b ∈ f, W.heap.size ≤ b) ∧ OwnW w93 w3.heap.size (some adL) s.xs.length lc z.xs ∧ (∀ b ∈ ownF (some adL), b ∉ f) ∧ BlkT w93 bx x.cells 34 ∧ bx ∉ f ∧ z.xs[i]? = some x ∧ 0 ≤ x.tries ∧ x.tries ≤ 1048576 + a') ∧ 9 - (IntKind.wrap .i64 ((a : Int) + 1)).toNat < 9 - (a : Int).toNat)) := fun w12 b12 e12 => by
    have own12 := own8.ext e12 (fun b hb => by simp; exact fun e => hbxL (e ▸ hb))
    obtain ⟨g, w13, hg, hr13, own13, e13⟩ := own_setRow own12 hil (y.parked now)
    cases hg
    rw [Int.toNat_natCast]
    refine when_dec ⟨by omega, by omega⟩ (ptr_in ⟨w13, hr13, ?_⟩)
    have q13 := (q8.ext e12 (fun b hb => by simp; exact fun e => hb8 (e ▸ hb))).ext e13 (fun b hb hm => hL8 b hm hb)
    have b13 := b12.ext e13 hbxL
    have t13 : Ext [] W w13 := (t8.trans' e12 (fun b hb => .inr (by simp at hb; omega))).trans' e13 (fun b hb => .inr (by have := (own12.base b hb).1; have := t3.size; omega))
    have hzl := own7.len
    refine List_c q13 fun L14 c14 w14 e14 own14 => ⟨_, _, _, rfl, SameRows_c own14.cells rfl (OwnW.ext0 own13 e14).cells (by rw [List.length_set]; exact hzl) (by rw [List.length_set]; omega) (fun _ w15 e15 => ⟨_, rfl, sel_false rfl ?_⟩) (fun h => absurd rfl h)⟩
    have ee := e14.trans e15
    rw [up64 a (by omega)]
    refine ⟨⟨a + 1, f8, _, y.parked now, rfl, by omega, q13.ext0 ee, t13.trans ee, Grow.old t7 hf7 g8, own13.ext0 ee, hL8, b13.ext ee (by simp), hb8, ?_, ?_, ?_⟩, by omega⟩
    · show (z.xs.set i (y.parked now))[i]? = _
      rw [List.getElem?_set_self (by omega)]
    · unfold Wt.parked; simp only []; split <;> omega
    · unfold Wt.parked; simp only []; split <;> omega
  have hty : (if y.tries < 1099511627776 then y.tries + 1 else y.tries) = y.tries + 1 := if_pos (by omega)
  refine sel_dec (fun h7 => ?_) (fun h7 => ?_)
  · have hw : waitV (y.tries + 1) = ((2 ^ y.tries.toNat : Nat) : Int) := by
      unfold waitV
      rw [show min (y.tries + 1 - 1).toNat 6 = y.tries.toNat by omega]
    have hle := waitV_le (y.tries + 1)
    refine ⟨_, cadd b11 rfl, ?_⟩
    have e1 : IntKind.wrap .i64 (y.tries + 1 - 1) = y.tries := by rw [w64 (by omega) (by omega)]; omega
    have e2 : IntKind.wrap .u64 y.tries = y.tries := u64 (by omega) (by omega)
    have e3 : IntKind.wrap .i64 (1 * 2 ^ (min y.tries.toNat 64)) = waitV (y.tries + 1) := by
      have h2 : min y.tries.toNat 64 = y.tries.toNat := by omega
      have h3 : ((2 : Int) ^ y.tries.toNat) = waitV (y.tries + 1) := by rw [hw]; simp
      rw [h2, Int.one_mul, h3]
      exact w64 (by omega) (by omega)
    rw [e1, e2, e3, w64 (x := now + waitV (y.tries + 1)) (by omega) (by omega)]
    obtain ⟨w12, hr12, b12, e12⟩ := store1a (P := Try.prog) (t := 3) (v := .int .i64 (now + waitV (y.tries + 1))) i3s b11 (i := 4) (by simp [Wt.cells]) rfl rfl
    have b12 : BlkT w12 bx (y.parked now).cells 34 := by
      have hp : y.parked now = ⟨y.name, y.pr, y.seq, y.tries + 1, now + waitV (y.tries + 1), true⟩ := by unfold Wt.parked; rw [hty]
      rw [hp]; exact b12
    exact when_dec (by omega) ⟨w12, hr12, _, _, _, _, _, _, cadd0 b12, fin w12 b12 (e811.trans e12)⟩
  · have b11 : BlkT w11 bx (y.parked now).cells 34 := by
      have hw : waitV (y.tries + 1) = 64 := by
        unfold waitV
        rw [show min (y.tries + 1 - 1).toNat 6 = 6 by omega]
        rfl
      have hp : y.parked now = ⟨y.name, y.pr, y.seq, y.tries + 1, now + 64, true⟩ := by unfold Wt.parked; rw [hty, hw]
      rw [hp]; exact b11
    exact ⟨_, _, _, _, _, _, cadd0 b11, fin w11 b11 e811⟩
section
theorem bulk_pos {H : Type} (d : DataW H) : 1 ≤ Rows.uptoBulk d := by
  unfold Rows.uptoBulk
  split <;> omega
theorem bulk_all {H : Type} : ∀ (ds : List (DataW H)), ds.length ≤ Rows.uptoBulkAll ds
  | [] => by simp
  | d :: r => by
    unfold Rows.uptoBulkAll
    have := bulk_pos d
    have := bulk_all r
    simp only [List.length_cons]; omega
theorem bulk_len {H : Type} (d : DataW H) : Go.Joins.sliceLen d ≤ Rows.uptoBulk d := by
  cases d with
  | slice el sp =>
    have := bulk_all el
    show el.length ≤ Rows.uptoBulk (.slice el sp)
    unfold Rows.uptoBulk
    omega
  | _ => exact Nat.zero_le _
end
theorem queueWaits_lifted (os : Os) (started : os.Started) (H : Type) (enc : TypeId × Value → H) (F : Stop.Interp) :
    ReturnsInHanded {} Try.checked os 6 .any ((Rows.OpenSpec.upto Rows.queueWaitsSpec).preRow enc Try.prog Try.f6 Rows.queueWaitsUptoRow.domain false []) (((Rows.OpenSpec.upto Rows.queueWaitsSpec).at F).post enc Try.prog Try.f6 false true false false) :=
  lift2U (C := Try.checked) (T := 25) (U := 3) (tb := 4) (k := Rows.uptoSmall) rfl own (by kernel_rfl) Try.func6 (by kernel_rfl) (by kernel_rfl) Try.underlying4 rfl (fun _ _ _ _ => rfl) laidOut (by kernel_rfl) (of_decide_eq_true (by kernel_rfl)) (by kernel_rfl) (of_decide_eq_true (by kernel_rfl)) os started H enc F
    (fun W base v v' d d' p p' hok h hw hok' h' hw' hk => by
      obtain ⟨A, n, c, ops, rfl, ho, hnc⟩ := open_ops hok h hw
      obtain ⟨z, rfl, -⟩ := open_int Try.underlying3 hok' h'
      have hl := Go.Joins.sliceLen_Trod Try.underlying25 h
      have hb := bulk_len d
      have hk' : Rows.uptoBulkAll [d, d'] ≤ 1048576 := of_decide_eq_true hk
      simp only [Rows.uptoBulkAll] at hk'
      exact queueWaits_c ho (by omega) z fun w' e => ⟨rfl, e.below⟩)
    (OpenSpec.witness (enc := enc) (C := Try.checked) (s := Rows.OpenSpec.upto Rows.queueWaitsSpec) (k := Rows.uptoSmall) rfl false ⟨#[], #[.slice none 0 0, .int .i64 0], []⟩ 8 (by kernel_rfl) (by kernel_rfl) (by kernel_rfl) (x := ([.nil, .lit (.int .i64 0)], [], [])) (by kernel_rfl) (by kernel_rfl) (by kernel_rfl))
theorem queueWaits_holds : Rows.QueueWaitsUptoSaid :=
  OpenClaim.holds_of_cond 6 Try.f6 rfl rfl rfl rfl rfl rfl rfl ⟨rfl, rfl, rfl, rfl, rfl⟩ rfl rfl rfl rfl rfl (by kernel_rfl) Try.func6 (by kernel_rfl)
    (of_decide_eq_true (by kernel_rfl)) (by unfold Func.isWrapper; first | (rw [if_pos (by decide +kernel)]; kernel_rfl) | (rw [if_neg (by decide +kernel)]; exact ⟨rfl, rfl⟩))
    (fun os started H enc _ F => by
      rw [OpenClaim.pre_eq_preRow]
      exact queueWaits_lifted os started H enc F)
end Go.Proofs.Ytfjgiaimlmnepaa
