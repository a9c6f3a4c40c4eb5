/- Labels: lists of the call's own, written over and grown; a list that is spoilt. -/
import Derived.Test.YtcohengppaighaaGreatDoorLt1
import Derived.Test.YtcohengppaighaaGreatDoorLr
set_option linter.unusedVariables false
set_option linter.unusedSimpArgs false
namespace Go.B
open Go.V Go.RowKit Go.Proofs

section
variable {α : Type} {L : Lay α} {w w' : World} {B n c : Nat} {e : TypeId} {A : Option Addr} {xs : List α}
set_option maxHeartbeats 1000000 in
/-- xs[i] = y. -/
theorem LstL.set {P : Program} {t : TypeId} (own : LstL L w B e A n c xs) {i : Nat} (y : α) (hi : i < n) (ht : (P.info? t).map (·.size) = some L.sz) :
    ∃ g w', A = some ⟨g, 0, Option.none⟩ ∧ (Instr.storeAt t (.pointer (some (Addr.add ⟨g, 0, Option.none⟩ (i * L.sz)))) (.agg ⟨L.enc y⟩)).run P w = .ok () w' ∧ LstL L w' B e A n c (xs.set i y) ∧ Ext (ownF A) w w' := by
  have hlen := own.len
  have hcap := own.cap
  rcases own.blk with ⟨_, h0⟩ | ⟨g, bs, rfl, hBg, hbk, hbl, htk⟩
  · omega
  have h1 : i * L.sz + L.sz ≤ n * L.sz := by rw [← Nat.succ_mul]; exact Nat.mul_le_mul_right _ hi
  have h2 : n * L.sz ≤ bs.length := Nat.le_trans (Nat.mul_le_mul_right _ hcap) hbl
  obtain ⟨w2, hr, hb2, ex⟩ := storeN (P := P) ht hbk (o := i * L.sz) (L.len y) (by omega) (L.one y)
  refine ⟨g, w2, rfl, by rw [Addr.add0]; exact hr, ⟨by simp [hlen], hcap, own.max, .inr ⟨g, _, rfl, hBg, hb2, ?_, ?_⟩⟩, ex⟩
  · simp only [List.length_append, List.length_take, List.length_drop, L.len]
    omega
  · have a1 : (bs.take (i * L.sz)).length = i * L.sz := by rw [List.length_take]; omega
    have a2 : (L.enc y).length = L.sz := L.len y
    rw [← flat_setRow (L := L) (by omega : i < xs.length), ← htk, List.take_append, List.length_append, a1, a2, List.take_of_length_le (l := bs.take (i * L.sz) ++ L.enc y) (by rw [List.length_append, a1, a2]; omega), List.take_take, Nat.min_eq_left (by omega : i * L.sz ≤ n * L.sz), List.drop_take]
set_option maxHeartbeats 2000000 in
/-- append(xs, ys...) where xs is full. -/
theorem LstL.full {P : Program} {t ty : TypeId} {z : Value} {bytes m cy : Nat} (ht : P.underlying t = some (.slice e)) (hi : (P.info? e).map (fun i => (i.zero, i.size, i.bytes)) = some (some z, L.sz, bytes)) (hz : z.cells.size = L.sz) (hb0 : 0 < bytes) {ys : List α} {Y : Option Addr}
    (own : LstL L w B e A n n xs) (hys : Cells w Y (L.flat ys)) (hm : ys.length = m) (h1 : 1 ≤ m) (hn : (n + m) * bytes ≤ 140737488355328) :
    ∃ A' c' w2, (Builtin.append_ #[t, t] ty #[.slice A n n, .slice Y m cy]).run P w = .ok (.slice A' (n + m) c') w2 ∧ LstL L w2 w.heap.size e A' (n + m) c' (xs ++ ys) ∧ Ext [] w w2 := by
  obtain ⟨i, hi1, hz0, hz1, hz2⟩ := info_parts hi
  have hlen := own.len
  have hcap := own.cap
  have hpos := L.pos
  have hfl : L.flat (xs ++ ys) = L.flat xs ++ L.flat ys := L.flat_app _ _
  have hxl : (L.flat xs).length = n * L.sz := by rw [L.flat_len, hlen]
  have hyl : (L.flat ys).length = m * L.sz := by rw [L.flat_len, hm]
  have hnb : n + m ≤ 140737488355328 := Nat.le_trans (Nat.le_mul_of_pos_right _ hb0) hn
  have hms : 1 ≤ m * L.sz := Nat.mul_pos h1 hpos
  obtain ⟨q, rfl, -⟩ := hys 0 _ (List.getElem?_eq_getElem (by omega))
  have hnews : ∀ j v, (L.flat ys)[j]? = some v → w.cell? (q.add j) = some v := fun j v hj => by
    obtain ⟨ad, e1, e2⟩ := hys j v hj
    cases e1; exact e2
  rcases own.blk with ⟨rfl, h0⟩ | ⟨g, bs, rfl, hBg, hbk, hbl, htk⟩
  · subst h0
    rw [Nat.zero_add] at hn
    have hxs : xs = [] := List.length_eq_zero_iff.1 hlen
    subst hxs
    have hr := run_append_nil (P := P) (w := w) t ty e i z ht hi1 hz0 q m cy (L.flat ys) (by rw [hyl, hz1]) hnews (by omega) (by omega) (by rw [hz2]; omega)
    have hge := grownCap_ge w m 0 e
    rw [Nat.zero_add]
    refine ⟨_, _, _, hr, ⟨by simp [hm], hge, grownCap_le_maxLen w m 0 e (by simp only [maxLen]; omega), .inr ⟨_, ((L.flat ys).toArray ++ Builtin.zeroCells z.cells (grownCap w m 0 e - m)).toList, rfl, Nat.le_refl _, BlkT.new w.drew _ _, ?_, ?_⟩⟩, ((Ext.refl _ w).drew).alloc _⟩
    · simp only [Array.length_toList, Array.size_append, List.size_toArray, size_zeroCells, hz, hyl]
      rw [← Nat.add_mul]
      exact Nat.mul_le_mul_right _ (by omega)
    · rw [List.nil_append, Array.toList_append, ← hyl, List.take_left' (by simp)]
  · have holds : ∀ j v, (L.flat xs)[j]? = some v → w.cell? ((⟨g, 0, Option.none⟩ : Addr).add j) = some v := fun j v hj => by
      obtain ⟨ad, e1, e2⟩ := own.cells j v hj
      cases e1; exact e2
    have hfit := growslice_fits (need := n + m) (old := n) (bytes := i.bytes) (by omega) (by rw [hz2]; exact hn)
    have hr := run_append_grow (P := P) (w := w) t ty e i z ht hi1 hz0 ⟨g, 0, Option.none⟩ n n (L.flat xs) (by rw [hxl, hz1]) holds q m cy (L.flat ys) (by rw [hyl, hz1]) hnews (by omega) (by omega) hfit
    have hge2 := grownCap_ge w (n + m) n e
    refine ⟨_, _, _, hr, ⟨by simp [hlen, hm], hge2, grownCap_le_maxLen w (n + m) n e (by simp only [maxLen]; omega), .inr ⟨_, ((L.flat xs).toArray ++ (L.flat ys).toArray ++ Builtin.zeroCells z.cells (grownCap w (n + m) n e - (n + m))).toList, rfl, Nat.le_refl _, BlkT.new w.drew _ _, ?_, ?_⟩⟩, ((Ext.refl _ w).drew).alloc _⟩
    · simp only [Array.length_toList, Array.size_append, List.size_toArray, size_zeroCells, hz, hyl, hxl]
      rw [← Nat.add_mul, ← Nat.add_mul]
      exact Nat.mul_le_mul_right _ (by omega)
    · rw [hfl, Array.toList_append, Array.toList_append, Nat.add_mul, ← hxl, ← hyl]
      rw [List.take_left' (by simp)]
end
end Go.B
namespace Go.Proofs.YtcohengppaighaaGreatDoor
open Go Go.V Go.B

theorem iL : (Tryz.prog.info? 40).map (·.size) = some 2 := by kernel_rfl
section
variable {w : World} {R : Ending → World → Prop} {A : Option Addr} {n c B : Nat} {l : List Lab}
set_option maxHeartbeats 1000000 in
theorem spoil_c (own : LOwn w B A n n l) (hB : B ≤ w.heap.size) (mark : ByteArray) (hbig : n * 32 ≤ 140737488351232) (k : ∀ w', Ext (ownF A) w w' → R (.returned undef) w') : Calls Tryz.prog 19 #[.slice A n n, .string mark] w R := by
  apply berthlaw03_spoil_nf
  refine ⟨fun t w' => ∃ (a : Nat) (l' : List Lab), t = a ∧ a ≤ n ∧ Ext (ownF A) w w' ∧ LOwn w' B A n n l', fun t _ => n - t.toNat, ⟨0, l, rfl, by omega, Ext.refl _ _, own⟩, ?_⟩
  rintro _ _ w7 ⟨a, l', rfl, ha, e7, own7⟩
  refine sel_dec (fun hlt => when_dec ⟨by omega, by omega⟩ ?_) (fun hge => ?_)
  · obtain ⟨g, w9, rfl, hr, o9, x9⟩ := own7.set (P := Tryz.prog) (t := 40) (i := a) (⟨#[63]⟩, mark) (by omega) iL
    rw [Int.toNat_natCast]
    refine ptr_in ⟨w9, hr, ?_⟩
    rw [up64 a (by omega)]
    exact ⟨⟨a + 1, _, rfl, by omega, e7.trans x9, o9⟩, by simp only [Int.toNat_natCast]; omega⟩
  have s7 := e7.size
  refine ⟨fun G gn gc t w' => ∃ a : Nat, t = a ∧ a ≤ 16 ∧ Ext [] w7 w' ∧ gn = n + a ∧ ((a = 0 ∧ G = A ∧ gc = n ∧ LOwn w' B A n n l') ∨ ∃ gl, LOwn w' w7.heap.size G gn gc gl), fun _ _ _ t _ => 16 - t.toNat, ⟨0, rfl, by omega, Ext.refl _ _, rfl, .inl ⟨rfl, rfl, rfl, own7⟩⟩, ?_⟩
  rintro G gn gc _ _ w15 ⟨a2, rfl, ha2, e15, rfl, hG⟩
  have s15 := e15.size
  refine sel_dec (fun hlt w16 h16 => ?_) (fun hge2 => ?_)
  · obtain ⟨b16, x16, z16⟩ := box_new h16
    rw [up64 a2 (by omega)]
    rcases hG with ⟨rfl, rfl, rfl, own15⟩ | ⟨gl, own15⟩
    · obtain ⟨A17, c17, w18, hr, ho, he⟩ := LstL.full (P := Tryz.prog) (t := 22) (ty := 22) (m := 1) (cy := 1) (ys := [((⟨#[63, 63]⟩ : ByteArray), mark)]) (by exact Tryz.underlying22) infoL rfl (by decide) (own15.ext0 x16) (Cells.of_blk b16.blk) rfl (by omega) (by omega)
      exact ⟨_, _, _, _, hr, ⟨0 + 1, rfl, by omega, (e15.trans x16).trans he, by omega, .inr ⟨_, ho.weaken (by omega)⟩⟩, by simp only [Int.toNat_natCast]; omega⟩
    · obtain ⟨A17, c17, w18, hr, ho, he, hat⟩ := LstL.more (P := Tryz.prog) (t := 22) (ty := 22) (x := ((⟨#[63, 63]⟩ : ByteArray), mark)) (by exact Tryz.underlying22) infoL rfl (by decide) (own15.ext0 x16) b16 (by omega) (by omega)
      exact ⟨_, _, _, _, hr, ⟨a2 + 1, rfl, by omega, Ext.old (e15.trans x16) (fun b hb => (own15.fresh b hb).1) he, by omega, .inr ⟨_, ho⟩⟩, by simp only [Int.toNat_natCast]; omega⟩
  -- the list itself still stands
  have own15 : LOwn w15 B A n n l' := own7.ext0 e15
  clear hG
  refine ⟨fun M mn mc t w' => ∃ (a : Nat) (ml : List Lab), t = a ∧ a ≤ 80 ∧ Ext [] w15 w' ∧ mn = a ∧ LOwn w' w15.heap.size M mn mc ml, fun _ _ _ t _ => 80 - t.toNat, ⟨0, [], rfl, by omega, Ext.refl _ _, rfl, LstL.nil _ _ _⟩, ?_⟩
  rintro M mn mc _ _ w24 ⟨a3, ml, rfl, ha3, e24, rfl, ownM⟩
  refine sel_dec (fun hlt w25 h25 => ?_) (fun hge3 => ?_)
  · rw [up64 mn (by omega)]
    obtain ⟨A26, c26, w27, hr, ho, he, _⟩ := more_lab e24 ownM h25 (by omega)
    exact ⟨_, _, _, _, hr, ⟨mn + 1, _, rfl, by omega, he, rfl, ho⟩, by simp only [Int.toNat_natCast]; omega⟩
  have hml := ownM.len
  obtain ⟨A28, c28, w29, hr, ho, he⟩ := LstL.full (P := Tryz.prog) (t := 22) (ty := 22) (cy := mc) (by exact Tryz.underlying22) infoL rfl (by decide) (own15.ext0 e24) ownM.cells hml (by omega) (by omega)
  have xx : Ext (ownF A) w w29 := ((e7.trans' e15 (by simp)).trans' e24 (by simp)).trans' he (by simp)
  refine ⟨_, _, _, _, hr, sel_dec (fun hp => when_dec ⟨by omega, by omega⟩ ?_) (fun hp => absurd (by omega) hp)⟩
  obtain ⟨g, w31, rfl, hr2, o31, x31⟩ := ho.set (P := Tryz.prog) (t := 40) (i := 0) (⟨#[63]⟩, mark) (by omega) iL
  have hf := ho.fresh g (by simp [ownF])
  have s24 := e24.size
  exact ptr_in ⟨w31, hr2, k _ (xx.trans' x31 fun x hx => .inr (by simp [ownF] at hx; omega))⟩
end
/-! ### what is asked, what is wanted -/
def ansS (kind : Int) (l : List Lab) (o : LOp) : List Lab := if kind = 7 then (makeS l).1 else if kind = 8 then (parseS (bs o.text)).1 else if kind = 11 then (putS l o.key o.value).1 else if kind = 12 then delS l o.key else (patchS l o.ds).1
theorem ans_len {kind : Int} {l : List Lab} {o : LOp} : (ansS kind l o).length ≤ 32 ∨ (ansS kind l o).length ≤ l.length := by
  unfold ansS
  split
  · exact .inl make_len
  split
  · exact .inl parse_len
  split
  · exact .inl put_len32
  split
  · exact .inr (List.length_filter_le _ _)
  · exact .inl patch_len
section
variable {w : World} {R : Ending → World → Prop} {A : Option Addr} {n c : Nat} {l : List Lab} {o : LOp}
theorem asked_c (kind : Int) (hl : LIn w A n l) (h : o.In w) (k : ∀ w' A' n', Ext [] w w' → LOwn w' w.heap.size A' n' n' (ansS kind l o) → R (.returned (.slice A' n' n')) w') : Calls Tryz.prog 15 #[.int .i64 kind, .slice A n c, .agg ⟨o.cells⟩] w R := by
  obtain ⟨okind, oA, on, oc, ol, oB, om, oc2, ol2, oD, oq, oc3, ods, text, key, value, num⟩ := o
  have hds : DIn w oD oq ods := h.ds
  have hkey : key.size ≤ 140737488351232 := h.key
  show Calls _ _ #[.int .i64 kind, .slice A n c, .agg #[.int .i64 okind, .slice oA on oc, .slice oB om oc2, .slice oD oq oc3, .string text, .string key, .string value, .int .i64 num]] w R
  apply berthlaw03_asked_nf
  intro w11 h11
  obtain ⟨b11, x11, z11⟩ := box_new (cs := LOp.cells ⟨okind, oA, on, oc, ol, oB, om, oc2, ol2, oD, oq, oc3, ods, text, key, value, num⟩) h11
  have wk : ∀ {w' A' n' l'}, LOwn w' w11.heap.size A' n' n' l' → LOwn w' w.heap.size A' n' n' l' := fun h => h.weaken (by omega)
  unfold ansS at k
  refine sel_intro (fun h7 => ?_) (fun h7 => sel_intro (fun h8 => ?_) (fun h8 => sel_intro (fun h9 => ?_) (fun h9 => sel_intro (fun h10 => ?_) (fun h10 => ?_))))
  · have h7 : kind = 7 := by simpa using h7
    rw [if_pos h7] at k
    exact Make_c (hl.ext0 x11) fun w16 A' n' e o => ⟨_, _, _, _, _, rfl, k _ _ _ (x11.trans e) (wk o)⟩
  · have h7 : kind ≠ 7 := by simpa using h7
    have h8 : kind = 8 := by simpa using h8
    rw [if_neg h7, if_pos h8] at k
    exact ⟨_, cadd b11 rfl, Parse_c text fun w16 A' n' e o => ⟨_, _, _, _, _, rfl, k _ _ _ (x11.trans e) (wk o)⟩⟩
  · have h7 : kind ≠ 7 := by simpa using h7
    have h8 : kind ≠ 8 := by simpa using h8
    have h9 : kind = 11 := by simpa using h9
    rw [if_neg h7, if_neg h8, if_pos h9] at k
    exact ⟨_, cadd b11 rfl, _, cadd b11 rfl, Put_c (hl.ext0 x11) hkey fun w16 A' n' e o => ⟨_, _, _, _, rfl, k _ _ _ (x11.trans e) (wk o)⟩⟩
  · have h7 : kind ≠ 7 := by simpa using h7
    have h8 : kind ≠ 8 := by simpa using h8
    have h9 : kind ≠ 11 := by simpa using h9
    have h10 : kind = 12 := by simpa using h10
    rw [if_neg h7, if_neg h8, if_neg h9, if_pos h10] at k
    exact ⟨_, cadd b11 rfl, Del_c (hl.ext0 x11).c hl.len hl.big key fun w16 A' n' e o _ => ⟨_, _, _, _, rfl, k _ _ _ (x11.trans e) (wk o)⟩⟩
  · have h7 : kind ≠ 7 := by simpa using h7
    have h8 : kind ≠ 8 := by simpa using h8
    have h9 : kind ≠ 11 := by simpa using h9
    have h10 : kind ≠ 12 := by simpa using h10
    rw [if_neg h7, if_neg h8, if_neg h9, if_neg h10] at k
    intro w34 h34
    obtain ⟨b34, x34, z34⟩ := box_new (cs := []) h34
    obtain ⟨A36, c36, w37, hr, i37, e37⟩ := copyD (hds.ext0 x11) h34 oc3
    refine ⟨_, _, _, cadd (b11.ext x34 (by simp)) rfl, _, _, _, _, hr, Patch_c ((hl.ext0 x11).ext0 e37) i37 fun w41 A' n' e o => ⟨_, _, _, _, rfl, k _ _ _ ((x11.trans e37).trans e) (o.weaken (by have := e37.size; omega))⟩⟩
theorem wanted_c (kind : Int) (hl : LIn w A n l) (h : o.In w) (k : ∀ w' A' n' c', Ext [] w w' → LOwn w' w.heap.size A' n' c' (ansS kind l o) → R (.returned (.slice A' n' c')) w') : Calls Tryz.prog 16 #[.int .i64 kind, .slice A n c, .agg ⟨o.cells⟩] w R := by
  obtain ⟨okind, oA, on, oc, ol, oB, om, oc2, ol2, oD, oq, oc3, ods, text, key, value, num⟩ := o
  have hds : DIn w oD oq ods := h.ds
  show Calls _ _ #[.int .i64 kind, .slice A n c, .agg #[.int .i64 okind, .slice oA on oc, .slice oB om oc2, .slice oD oq oc3, .string text, .string key, .string value, .int .i64 num]] w R
  apply berthlaw03_wanted_nf
  intro w11 h11
  obtain ⟨b11, x11, z11⟩ := box_new (cs := LOp.cells ⟨okind, oA, on, oc, ol, oB, om, oc2, ol2, oD, oq, oc3, ods, text, key, value, num⟩) h11
  have wk : ∀ {w' A' n' c' l'}, LOwn w' w11.heap.size A' n' c' l' → LOwn w' w.heap.size A' n' c' l' := fun h => h.weaken (by omega)
  unfold ansS at k
  refine sel_intro (fun h7 => ?_) (fun h7 => sel_intro (fun h8 => ?_) (fun h8 => sel_intro (fun h9 => ?_) (fun h9 => sel_intro (fun h10 => ?_) (fun h10 => ?_))))
  · have h7 : kind = 7 := by simpa using h7
    rw [if_pos h7] at k
    exact rMake_c (hl.ext0 x11) fun w16 A' n' c' e o => ⟨_, _, _, _, _, rfl, k _ _ _ _ (x11.trans e) (wk o)⟩
  · have h7 : kind ≠ 7 := by simpa using h7
    have h8 : kind = 8 := by simpa using h8
    rw [if_neg h7, if_pos h8] at k
    exact ⟨_, cadd b11 rfl, rParse_c text fun w16 A' n' c' e o => ⟨_, _, _, _, _, rfl, k _ _ _ _ (x11.trans e) (wk o)⟩⟩
  · have h7 : kind ≠ 7 := by simpa using h7
    have h8 : kind ≠ 8 := by simpa using h8
    have h9 : kind = 11 := by simpa using h9
    rw [if_neg h7, if_neg h8, if_pos h9] at k
    exact ⟨_, cadd b11 rfl, _, cadd b11 rfl, rPut_c (hl.ext0 x11) fun w16 A' n' c' e o => ⟨_, _, _, _, rfl, k _ _ _ _ (x11.trans e) (wk o)⟩⟩
  · have h7 : kind ≠ 7 := by simpa using h7
    have h8 : kind ≠ 8 := by simpa using h8
    have h9 : kind ≠ 11 := by simpa using h9
    have h10 : kind = 12 := by simpa using h10
    rw [if_neg h7, if_neg h8, if_neg h9, if_pos h10] at k
    exact ⟨_, cadd b11 rfl, rDel_c (hl.ext0 x11).c hl.len hl.big key fun w16 A' n' c' e o _ => ⟨_, _, _, _, rfl, k _ _ _ _ (x11.trans e) (wk o)⟩⟩
  · have h7 : kind ≠ 7 := by simpa using h7
    have h8 : kind ≠ 8 := by simpa using h8
    have h9 : kind ≠ 11 := by simpa using h9
    have h10 : kind ≠ 12 := by simpa using h10
    rw [if_neg h7, if_neg h8, if_neg h9, if_neg h10] at k
    exact ⟨_, _, _, cadd b11 rfl, rPatch_c (hl.ext0 x11) (hds.ext0 x11) fun w41 A' n' c' e o => ⟨_, _, _, _, rfl, k _ _ _ _ (x11.trans e) (wk o)⟩⟩
end
end Go.Proofs.YtcohengppaighaaGreatDoor
