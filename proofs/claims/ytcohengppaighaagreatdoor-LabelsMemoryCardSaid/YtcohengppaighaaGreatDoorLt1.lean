/- Labels: a step that asks lists, a step that turns them. -/
import Derived.Test.YtcohengppaighaaGreatDoorLo
import Derived.Test.YtcohengppaighaaGreatDoorRfA
set_option linter.unusedVariables false
set_option linter.unusedSimpArgs false
namespace Go.Proofs.YtcohengppaighaaGreatDoor
open Go Go.V Go.B

theorem make_len {l : List Lab} : (makeS l).1.length ≤ 32 := by
  rcases make_res (l := l) with h | h
  · exact h.2.len
  · rw [h.2]; simp
theorem parse_len {t : List UInt8} : (parseS t).1.length ≤ 32 := by
  rcases parse_res (t := t) with h | h
  · exact h.2.len
  · rw [h.2]; simp
theorem put_len32 {l : List Lab} {k v : ByteArray} : (putS l k v).1.length ≤ 32 := by
  rcases put_res (l := l) (k := k) (v := v) with h | h
  · exact h.2.2.len
  · rw [h.2]; simp
end Go.Proofs.YtcohengppaighaaGreatDoor
namespace Go.B
open Go.V Go.RowKit
/-- append([]T{}, xs...), the empty block laid before. -/
theorem copyL2 {α : Type} {L : Lay α} {e : TypeId} {A : Option Addr} {xs : List α} {P : Program} {t ty : TypeId} {z : Value} {bytes m : Nat} (ht : P.underlying t = some (.slice e)) (hi : (P.info? e).map (fun i => (i.zero, i.size, i.bytes)) = some (some z, L.sz, bytes)) (hz : z.cells.size = L.sz) (hb0 : 0 < bytes)
    {W w : World} {b : Nat} (ex : Ext [] W w) (hB : W.heap.size ≤ b) (hb : BlkT w b [] e) (hx : Cells w A (L.flat xs)) (hn : xs.length = m) (hbb : m * bytes ≤ 140737488355328) (cy : Nat) :
    ∃ A' c' w2, (Builtin.append_ #[t, t] ty #[.slice (some ⟨b, 0, none⟩) 0 0, .slice A m cy]).run P w = .ok (.slice A' m c') w2 ∧ OwnL L w2 W.heap.size e A' m c' xs ∧ Ext [] W w2 ∧ Ext [b] w w2 := by
  have o1 : w.ownsRow W.heap.size e L.sz (.slice (some ⟨b, 0, none⟩) 0 0) 0 [] := own_of hb hB (Nat.le_refl _) (by simp only [maxLen]; omega) (by simp) (by simp)
  obtain ⟨A', c', w2, hr, ho, he, hat⟩ := appR (P := P) (ty := ty) (m := m) (cy := cy) (Y := A) ht hi hz L.pos hb0 o1 (ys := L.flat xs) (by rw [L.flat_len, hn]) hx (L.flat_one _) (by have := ex.size; omega) (by rw [Nat.zero_add]; exact hbb)
  rw [Nat.zero_add] at hr ho
  exact ⟨A', c', w2, hr, by unfold OwnL; simpa using ho, ex.trans' he (fun x hx => .inr (by simp [ownF] at hx; omega)), by simpa [ownF] using he⟩
end Go.B
namespace Go.Proofs.YtcohengppaighaaGreatDoor
open Go Go.V Go.B
theorem copyD2 {W w : World} {b : Nat} {D : Option Addr} {q : Nat} {ds : List DL} (e : Ext [] W w) (hB : W.heap.size ≤ b) (hb : BlkT w b [] 59) (h : DIn w D q ds) (c : Nat) :
    ∃ A' c' w2, (Builtin.append_ #[23, 23] 23 #[.slice (some ⟨b, 0, none⟩) 0 0, .slice D q c]).run Tryz.prog w = .ok (.slice A' q c') w2 ∧ DIn w2 A' q ds ∧ Ext [] W w2 ∧ Ext [b] w w2 := by
  have hbig := h.big
  obtain ⟨A', c', w2, hr, ho, he, he2⟩ := copyL2 (L := DLL) (P := Tryz.prog) (t := 23) (ty := 23) (e := 59) (xs := ds) (m := q) (by exact Tryz.underlying23) infoD rfl (by decide) e hB hb h.c h.len (by omega) c
  exact ⟨A', c', w2, hr, ⟨ho.lst.cells, h.len, h.sz, hbig⟩, he, he2⟩
section
variable {w : World} {R : Ending → World → Prop}
theorem sameR {A B : Option Addr} {n m c c' : Nat} {l : List Lab} (hA : Cells w A (LbL.flat l)) (hn : l.length = n) (hB : Cells w B (LbL.flat l)) (hm : l.length = m) (big : n * 32 ≤ 140737488351232)
    (k : ∀ w', Ext [] w w' → R (.returned (.bool true)) w') : Calls Tryz.prog 70 #[.slice A n c, .slice B m c'] w R :=
  rSame_c hA hn hB hm big fun w' e => by rw [decide_eq_true rfl]; exact k w' e
theorem CopyI {A : Option Addr} {n c : Nat} {l : List Lab} (h : LIn w A n l)
    (k : ∀ w' A' c', Ext [] w w' → LIn w' A' n l → R (.returned (.slice A' n c')) w') : Calls Tryz.prog 69 #[.slice A n c] w R :=
  rCopy_c h.c h.len h.big fun w' A' c' e o => k w' A' c' e (LOwn.in_ o h.sz h.big)
theorem lists_c {o : LOp} (h : o.In w) (k : ∀ w', Ext [] w w' → R (.returned (.bool true)) w') : Calls Tryz.prog 46 #[.agg ⟨o.cells⟩] w R := by
  obtain ⟨kind, A, n, c, l, B, m, c2, l2, D, q, c3, ds, text, key, value, num⟩ := o
  have hl : LIn w A n l := h.l
  have hbig := hl.big
  show Calls _ _ #[.agg #[.int .i64 kind, .slice A n c, .slice B m c2, .slice D q c3, .string text, .string key, .string value, .int .i64 num]] w R
  apply berthlaw03_lists_nf
  intro w9 h9
  obtain ⟨b9, x9, z9⟩ := box_new h9
  refine ⟨_, cadd b9 rfl, sel_intro (fun _ => ?_) (fun _ => sel_intro (fun _ => ?_) (fun _ => sel_intro (fun _ => ?_) (fun _ => ?_)))⟩
  · refine ⟨_, _, _, cadd b9 rfl, CopyI (hl.ext0 x9) fun w14 A12 c12 e14 i14 => ⟨_, _, _, rfl, Check_c i14 fun w18 e18 => ⟨_, _, rfl, ?_⟩⟩⟩
    have e18' := e14.trans e18
    refine ⟨_, _, _, cadd (b9.ext e18' (by simp)) rfl, rCheck_c (hl.ext0 (x9.trans e18')) fun w23 e23 => ⟨_, _, rfl, sel_true (beq_self_eq_true _) ?_⟩⟩
    rw [beq_self_eq_true]
    exact k _ ((x9.trans e18').trans e23)
  · refine ⟨_, _, _, cadd b9 rfl, CopyI (hl.ext0 x9) fun w14 A12 c12 e14 i14 => ⟨_, _, _, rfl, Make_c i14 fun w32 A28 n28 e32 o32 => ⟨_, _, _, _, _, rfl, ?_⟩⟩⟩
    have e32' := e14.trans e32
    refine ⟨_, _, _, cadd (b9.ext e32' (by simp)) rfl, rMake_c (hl.ext0 (x9.trans e32')) fun w38 A34 n34 c34 e38 o38 => ⟨_, _, _, _, _, rfl, ?_⟩⟩
    have ln := o32.len
    have := @make_len l
    refine sameR (o32.ext0 e38).cells ln o38.cells o38.len (by omega) fun w41 e41 => ⟨_, rfl, sel_true rfl (sel_true (by rw [beqBytes, decide_eq_true rfl]) ?_)⟩
    rw [beq_self_eq_true]
    exact k _ (((x9.trans e32').trans e38).trans e41)
  · refine ⟨_, cadd b9 rfl, Parse_c text fun w47 A43 n43 e47 o47 => ⟨_, _, _, _, _, rfl, ?_⟩⟩
    refine ⟨_, cadd (b9.ext e47 (by simp)) rfl, rParse_c text fun w53 A49 n49 c49 e53 o53 => ⟨_, _, _, _, _, rfl, ?_⟩⟩
    have ln := o47.len
    have := @parse_len (bs text)
    refine sameR (o47.ext0 e53).cells ln o53.cells o53.len (by omega) fun w56 e56 => ⟨_, rfl, sel_true rfl (sel_true (beq_self_eq_true _) ?_)⟩
    rw [beq_self_eq_true]
    exact k _ (((x9.trans e47).trans e53).trans e56)
  · refine ⟨_, _, _, cadd b9 rfl, CopyI (hl.ext0 x9) fun w60 A58 c58 e60 i60 => ⟨_, _, _, rfl, Text_c i60 fun w64 e64 => ⟨_, _, rfl, ?_⟩⟩⟩
    have e64' := e60.trans e64
    refine ⟨_, _, _, cadd (b9.ext e64' (by simp)) rfl, rText_c (hl.ext0 (x9.trans e64')) fun w69 e69 => ⟨_, _, rfl, sel_true (by rw [beqBytes, decide_eq_true rfl]) ?_⟩⟩
    rw [beq_self_eq_true]
    exact k _ ((x9.trans e64').trans e69)
set_option maxHeartbeats 1000000 in
theorem turns_c {o : LOp} (h : o.In w) (k : ∀ w', Ext [] w w' → R (.returned (.bool true)) w') : Calls Tryz.prog 47 #[.agg ⟨o.cells⟩] w R := by
  obtain ⟨kind, A, n, c, l, B, m, c2, l2, D, q, c3, ds, text, key, value, num⟩ := o
  have hl : LIn w A n l := h.l
  have hl2 : LIn w B m l2 := h.l2
  have hds : DIn w D q ds := h.ds
  have hkey : key.size ≤ 140737488351232 := h.key
  have hbig := hl.big
  show Calls _ _ #[.agg #[.int .i64 kind, .slice A n c, .slice B m c2, .slice D q c3, .string text, .string key, .string value, .int .i64 num]] w R
  apply berthlaw03_turns_nf
  intro w9 h9
  obtain ⟨b9, x9, z9⟩ := box_new h9
  have b9d := b9.ext (Ext.refl [] w9).drew (by simp)
  have x9d := x9.drew
  have S : ∀ w', Ext [] w9.drew w' → BlkT w' w.heap.size _ _ := fun w' e => b9d.ext e (by simp)
  refine ⟨_, cadd b9 rfl, sel_intro (fun _ => ?_) (fun _ => sel_intro (fun _ => ?_) (fun _ => sel_intro (fun _ => ?_) (fun _ => sel_intro (fun _ => ?_) (fun _ => ?_))))⟩
  · refine ⟨fun w' => Ext [] w9.drew w', Ext.refl _ _, _, _, _, fun w' e => cadd (S w' e) rfl, _, fun w' e => cadd (S w' e) rfl, CopyI (hl.ext0 x9d) fun w17 A15 c15 e17 i17 => ⟨_, _, _, rfl, e17, GetI i17 key fun w21 e21 => ⟨_, _, rfl, e17.trans e21, ?_⟩⟩⟩
    have e21' := e17.trans e21
    refine ⟨_, _, _, cadd (S _ e21') rfl, _, cadd (S _ e21') rfl, rGet_c (hl.ext0 (x9d.trans e21')).c hl.len hbig key ⟨_, _, rfl, sel_true (by rw [beqBytes, decide_eq_true rfl]) ?_⟩⟩
    rw [beq_self_eq_true]
    exact k _ (x9d.trans e21')
  · refine ⟨fun w' => Ext [] w9.drew w', Ext.refl _ _, _, _, _, fun w' e => cadd (S w' e) rfl, _, fun w' e => cadd (S w' e) rfl, _, fun w' e => cadd (S w' e) rfl, CopyI (hl.ext0 x9d) fun w35 A33 c33 e35 i35 => ⟨_, _, _, rfl, e35, Put_c i35 hkey fun w39 A36 n36 e39 o39 => ⟨_, _, _, _, rfl, e35.trans e39, ?_⟩⟩⟩
    have e39' := e35.trans e39
    refine ⟨_, _, _, cadd (S _ e39') rfl, _, cadd (S _ e39') rfl, _, cadd (S _ e39') rfl, rPut_c (hl.ext0 (x9d.trans e39')) fun w46 A43 n43 c43 e46 o46 => ⟨_, _, _, _, rfl, ?_⟩⟩
    have ln := o39.len
    have := @put_len32 l key value
    refine sameR (o39.ext0 e46).cells ln o46.cells o46.len (by omega) fun w49 e49 => ⟨_, rfl, sel_true rfl ?_⟩
    rw [beq_self_eq_true]
    exact k _ (((x9d.trans e39').trans e46).trans e49)
  · refine ⟨fun w' => Ext [] w9.drew w', Ext.refl _ _, _, _, _, fun w' e => cadd (S w' e) rfl, _, fun w' e => cadd (S w' e) rfl, CopyI (hl.ext0 x9d) fun w56 A54 c54 e56 i56 => ⟨_, _, _, rfl, e56, Del_c i56.c i56.len hbig key fun w60 A57 n57 e60 o60 hle => ⟨_, _, _, _, rfl, e56.trans e60, ?_⟩⟩⟩
    have e60' := e56.trans e60
    refine ⟨_, _, _, cadd (S _ e60') rfl, _, cadd (S _ e60') rfl, rDel_c (hl.ext0 (x9d.trans e60')).c hl.len hbig key fun w66 A63 n63 c63 e66 o66 hle2 => ⟨_, _, _, _, rfl, ?_⟩⟩
    refine sameR (o60.ext0 e66).cells o60.len o66.cells o66.len (by omega) fun w69 e69 => ⟨_, rfl, sel_true rfl ?_⟩
    rw [beq_self_eq_true]
    exact k _ (((x9d.trans e60').trans e66).trans e69)
  · refine ⟨fun w' => Ext [] w9.drew w', Ext.refl _ _, _, _, _, fun w' e => cadd (S w' e) rfl, _, _, _, fun w' e => cadd (S w' e) rfl, CopyI (hl.ext0 x9d) fun w76 A74 c74 e76 i76 => ⟨_, _, _, rfl, e76, CopyI (hl2.ext0 (x9d.trans e76)) fun w79 A77 c77 e79 i79 => ⟨_, _, _, rfl, e76.trans e79, ?_⟩⟩⟩
    refine walkI (i76.ext0 e79) i79 fun w82 A80 q80 c80 e82 i82 hq => ⟨_, _, _, rfl, (e76.trans e79).trans e82, ?_⟩
    have e82' := (e76.trans e79).trans e82
    refine ⟨_, _, _, cadd (S _ e82') rfl, _, _, _, cadd (S _ e82') rfl, rDiff_c (hl.ext0 (x9d.trans e82')) (hl2.ext0 (x9d.trans e82')) fun w87 A85 q85 c85 e87 o87 hq2 => ⟨_, _, _, rfl, ?_⟩⟩
    refine sameDiffs_c (i82.ext0 e87).c i82.len o87.cells o87.len i82.big fun w90 e90 => ⟨_, rfl, ?_⟩
    rw [decide_eq_true rfl]
    exact k _ (((x9d.trans e82').trans e87).trans e90)
  · refine ⟨fun A' n' c' e w' => Ext [] w9.drew w' ∧ Cells w' A' (LbL.flat (patchS l ds).1) ∧ (patchS l ds).1.length = n' ∧ e = (patchS l ds).2, ⟨fun w' => Ext [] w9.drew w', Ext.refl _ _, _, _, _, fun w' e => cadd (S w' e) rfl, _, _, _, fun w' e => cadd (S w' e) rfl, ?_, ?_, trivial⟩, ?_⟩
    · refine CopyI (hl.ext0 x9d) fun w98 A96 c96 e98 i98 => ⟨_, _, _, rfl, e98, fun w99 h99 => ?_⟩
      obtain ⟨b99, x99, z99⟩ := box_new (cs := []) h99
      obtain ⟨A100, c100, w101, hr, i101, e101⟩ := copyD (hds.ext0 (x9d.trans e98)) h99 c3
      refine ⟨e98.trans x99, _, _, _, _, hr, e98.trans e101, Patch_c (i98.ext0 e101) i101 fun w105 A102 n102 e105 o105 => ⟨_, _, _, _, rfl, (e98.trans e101).trans e105, (e98.trans e101).trans e105, o105.cells, o105.len, rfl⟩⟩
    · intro w106 h106
      obtain ⟨b106, x106, z106⟩ := box_new (cs := []) h106
      refine ⟨x106, rCopy_c (hl.ext0 (x9d.trans x106)).c hl.len hbig fun w109 A107 c107 e109 o109 => ⟨_, _, _, rfl, x106.trans e109, ?_⟩⟩
      have e109' := x106.trans e109
      obtain ⟨A110, c110, w111, hr, i111, e111, f111⟩ := copyD2 e109' (Nat.le_refl _) (b106.ext e109 (by simp)) (hds.ext0 (x9d.trans e109')) c3
      have i111' : LIn w111 A107 n l := LOwn.in_ (o109.ext f111 fun b hb => by have := (o109.fresh b hb).1; have hd : w9.drew.heap.size = w9.heap.size := rfl; simp; omega) hl.sz hbig
      refine ⟨_, _, _, _, hr, e111, Patch_c i111' i111 fun w115 A112 n112 e115 o115 => ⟨_, _, _, _, rfl, e111.trans e115, e111.trans e115, o115.cells, o115.len, rfl⟩⟩
    · rintro A' n' c' _ _ w119 ⟨e119, hc, hn, rfl⟩
      refine ⟨_, _, _, cadd (S _ e119) rfl, _, _, _, cadd (S _ e119) rfl, rPatch_c (hl.ext0 (x9d.trans e119)) (hds.ext0 (x9d.trans e119)) fun w125 A122 n122 c122 e125 o125 => ⟨_, _, _, _, rfl, ?_⟩⟩
      have := @patch_len l ds
      refine sameR (hc.ext0 e125) hn o125.cells o125.len (by omega) fun w128 e128 => ⟨_, rfl, sel_true rfl ?_⟩
      rw [beq_self_eq_true]
      exact k _ (((x9d.trans e119).trans e125).trans e128)
end
end Go.Proofs.YtcohengppaighaaGreatDoor
