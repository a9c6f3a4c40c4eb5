/- Ordered: Del, New. -/
import Derived.Test.YtjlkdadafddodaaGreatDoorO8
set_option linter.unusedVariables false
set_option linter.unusedSimpArgs false
namespace Go.Proofs.YtjlkdadafddodaaGreatDoor
open Go Go.V Go.B

def delE (x : Ix) (key : ByteArray) (slot : Int) : Int := if barV x.N key slot ≠ 0 then barV x.N key slot else if (x.val key slot).isSome then 0 else 83
theorem count_zero {S : SetV} (h : S.Ok) : S.count = 0 ↔ ∀ i, S.mem i = false := by
  rw [← members_length, List.length_eq_zero_iff]
  constructor
  · intro e i
    cases hm : S.mem i with
    | false => rfl
    | true => have := (mem_members h i).2 hm; rw [e] at this; cases this
  · intro hh
    rw [List.eq_nil_iff_forall_not_mem]
    intro i hi
    have := (mem_members h i).1 hi
    rw [hh i] at this; cases this
theorem mget_nil_of {m : List (Int × Int)} (h : m.length = 0) (i : Int) : mget m i = none := by
  rw [List.length_eq_zero_iff.1 h]; rfl
set_option maxRecDepth 4000 in
set_option maxHeartbeats 2000000 in
theorem Del_c {w : World} {F : List Nat} {cnt : Nat} {x : Ix} (h : IxAt w F cnt x) (ok : IxOk x) (hc : cnt ≤ 7999999999000) (key : ByteArray) (slot : Int) {R : Ending → World → Prop}
    (k : ∀ w' F' x', Chg w w' F F' cnt x x' → (∀ k i, x'.val k i = if delE x key slot = 0 ∧ k = key ∧ i = slot then none else x.val k i) → R (.returned (.int .i64 (delE x key slot))) w') :
    Calls Tryz.prog 46 #[.pointer (some ⟨x.q, 0, none⟩), .string key, .int .i64 slot] w R := by
  apply ordered_Index_Del_nf
  refine bars_c h key slot ⟨_, rfl, sel_intro (fun hb => ?_) (fun hb => ?_)⟩
  · have hb : barV x.N key slot ≠ 0 := by simpa using hb
    have e : delE x key slot = barV x.N key slot := by unfold delE; rw [if_pos hb]
    rw [← e]
    exact k w F x (Chg.same h ok (Ext.refl _ _) (by omega)) fun k' i => by rw [if_neg (fun hh => by rw [e] at hh; exact hb hh.1)]
  have hb : barV x.N key slot = 0 := by simpa using hb
  obtain ⟨hkey, s, rfl, hs⟩ := bar_zero hb
  have gone : x.val key (s : Int) = none → ∀ w', Ext [] w w' → R (.returned (.int .i64 83)) w' := fun hv w' e' => by
    have e : delE x key s = 83 := by unfold delE; rw [if_neg (by simp [hb]), hv]; rfl
    rw [← e]
    exact k w' F x (Chg.same h ok e' (by omega)) fun k' i => by rw [if_neg (fun hh => by rw [e] at hh; cases hh.1)]
  cases hcol : x.cols key with
  | none =>
    have hv : x.val key (s : Int) = none := by unfold Ix.val; rw [hcol]; rfl
    refine column_c (w0 := w) (.inr ⟨F, cnt, rfl, h⟩) (Ext.refl _ _) key fun c f w9 e9 v9 _ _ => ⟨_, rfl, ?_⟩
    have hC0 : x.colOf key = C0 := by unfold Ix.colOf; rw [hcol]; rfl
    rw [hC0] at v9
    obtain ⟨mo, hb9, hm9⟩ := v9.hdr
    refine ptr_in ⟨_, cadd hb9 rfl, ?_⟩
    rcases hm9 with ⟨rfl, _⟩ | ⟨m, rfl, hm9, _⟩
    · exact ⟨_, _, w9, (look_nil kI um_ii zI (s : Int)).2, sel_true rfl (gone hv w9 e9)⟩
    · exact ⟨_, _, w9, (look_no kI um_ii zI hm9 (k := (s : Int)) rfl).2, sel_true rfl (gone hv w9 e9)⟩
  | some C =>
    have okC := ok.ok key C hcol
    have hC := h.col key C hcol
    have hl1 := h.rows key C hcol
    have v1 : ∀ i, x.val key i = mget C.of i := fun i => by unfold Ix.val; rw [hcol]; rfl
    -- the column is the index's own
    have col : ∀ {R' : Ending → World → Prop}, R' (.returned (.pointer (some ⟨C.c, 0, none⟩))) w → Calls Tryz.prog 28 #[.pointer (some ⟨x.q, 0, none⟩), .string key] w R' := fun hR => by
      apply ordered_Index_column_nf
      obtain ⟨m, hm, hm2, hm3⟩ := h.mp
      have hg : mget m key = some C.c := by rw [hm3, hcol]; rfl
      exact sel_true rfl (ptr_in ⟨_, cadd h.hdr rfl, _, w, (look_yes kS um_si zP hm hg).1, sel_true rfl hR⟩)
    refine col ⟨_, rfl, ptr_in ⟨_, cadd hC.hdr rfl, ?_⟩⟩
    cases hg : mget C.of (s : Int) with
    | none => exact ⟨_, _, w, (look_no kI um_ii zI hC.mp hg).2, sel_true rfl (gone ((v1 _).trans hg) w (Ext.refl _ _))⟩
    | some n =>
      refine ⟨_, _, w, (look_yes kI um_ii zI hC.mp hg).2, sel_false rfl (at_c hC.view okC.1.rise (by omega) n fun i w17 e17 pl => ⟨_, rfl, ?_⟩)⟩
      have h17 := h.ext0 e17
      have c17 := h17.col key C hcol
      obtain ⟨r, hrm, hrn, hrs⟩ := (okC.1.tell s n).1 hg
      have hrow := pl.here okC.1.rise hrm hrn
      have hil := (List.getElem?_eq_some_iff.1 hrow).1
      have hSN := okC.1.size r hrm
      obtain ⟨ad, hA, _, hc1⟩ := row_cells c17.arr.cells hrow
      refine ptr_in ⟨_, _, _, cadd c17.hdr rfl, when_dec ⟨by omega, by omega⟩ ?_⟩
      rw [hA]
      refine ptr_in ⟨_, hc1, Remove_c (c17.set r hrm) s fun w24 T t e24 s24 hTN hTm ht => ⟨_, rfl, ?_⟩⟩
      have c24 := c17.setS okC.1.rise hrow e24 s24
      have hTm' : ∀ j, T.mem j = (r.S.mem j && !decide (j = s)) := fun j => by
        rw [hTm]
        congr 2
        rw [decide_eq_decide]; omega
      have okd : ClOk x.N { C with rows := C.rows.set i { r with S := T }, of := mdel C.of (s : Int) } := okC.1.del hC.mp.nodup hrow (by rw [hrn]; exact hg) (hTN.trans hSN) hTm'
      have rset : Rising (C.rows.set i { r with S := T }) := okC.1.rise.set hrow rfl
      have hrow2 : (C.rows.set i { r with S := T })[i]? = some { r with S := T } := by simp [hil]
      have hbF : r.b ∈ fpC C := mem_fpC.2 (.inr ⟨r, hrm, .inr rfl⟩)
      have e1724 : Ext (fpC C) w17 w24 := e24.weaken (fun b hb => by simp at hb; rw [hb]; exact .inl hbF)
      have hcF : C.c ∈ fpC C := mem_fpC.2 (.inl (mem_top.2 (.inl rfl)))
      have hmF : C.m ∈ fpC C := mem_fpC.2 (.inl (mem_top.2 (.inr (.inl rfl))))
      have hAF : ∀ b ∈ ownF C.A, b ∈ fpC C := fun b hb => mem_fpC.2 (.inl (mem_top.2 (.inr (.inr hb))))
      let J : World → Prop := fun w' => ∃ C2, ClAt w' C2 ∧ C2.c = C.c ∧ C2.m = C.m ∧ C2.of = C.of ∧ ClOk x.N { C2 with of := mdel C.of (s : Int) } ∧ C2.full ∧ Ext (fpC C) w17 w' ∧ (∀ b ∈ fpC C2, b ∈ fpC C) ∧ C2.rows.length ≤ C.rows.length
      refine ⟨J, ?_, ?_⟩
      · have hA24 := c24.arr.cells
        obtain ⟨ad', hA', _, hc1'⟩ := row_cells hA24 hrow2
        have hl24 : (C.rows.set i { r with S := T }).length = C.rows.length := List.length_set
        refine ptr_in ⟨_, _, _, cadd c24.hdr rfl, when_dec ⟨by omega, by show ((i : Nat) : Int) < (((C.rows.set i { r with S := T }).length : Nat) : Int); omega⟩ ?_⟩
        show V.ptr C.A _
        have hA'' : C.A = some ad' := hA'
        rw [hA'']
        refine ptr_in ⟨_, hc1', Count_c (c24.set _ (List.mem_of_getElem? hrow2)).ref ⟨_, rfl, sel_intro (fun h0 => ?_) (fun h0 => ?_)⟩⟩
        · have h0 : T.count = 0 := Int.ofNat_inj.1 (eq_of_beq h0)
          have hno := (count_zero s24.ok).1 h0
          refine ptr_in ⟨_, _, _, cadd c24.hdr rfl, ?_⟩
          rw [up64 i (by omega)]
          refine Delete_c c24.arr (by show i < (C.rows.set i { r with S := T }).length; omega) (by show (C.rows.set i { r with S := T }).length ≤ _; omega) fun w36 own36 e36 => ⟨_, _, _, rfl, ptr_in ?_⟩
          have hd36 := c24.hdr.ext e36 c24.cA
          obtain ⟨w38, hr38, b38, x38⟩ := store1a (P := Tryz.prog) (v := .slice C.A ((C.rows.set i { r with S := T }).length - 1) C.cp) i87s hd36 (i := 0) (by simp) rfl rfl
          have ee : Ext (C.c :: ownF C.A) w24 w38 := (e36.weaken (G := C.c :: ownF C.A) (fun b hb => .inl (List.mem_cons_of_mem _ hb))).trans' x38 (fun b hb => .inl (by simp at hb; simp [hb]))
          have own38 : OwnL RL w38 0 90 C.A ((C.rows.set i { r with S := T }).length - 1) C.cp ((C.rows.set i { r with S := T }).eraseIdx i) := OwnL.ext (L := RL) own36 x38 (fun b hb => by simp; intro e; subst e; exact hC.cA hb)
          have c38 := c24.del rset hrow2 own38 b38 ee
          refine ⟨w38, hr38, _, c38, rfl, rfl, rfl, okd.erase hrow2 hno, fun q hq => ?_, e1724.trans' ee (fun b hb => .inl ?_), fun b hb => setS_fp okC.1.rise hrow T (del_fp rset hrow2 hb), ?_⟩
          · have h1 := (mem_erase_iff rset hrow2).1 hq
            rcases (mem_set_iff okC.1.rise hrow).1 h1.1 with rfl | ⟨h2, _⟩
            · exact absurd rfl h1.2
            · exact okC.2.1 q h2
          · rcases List.mem_cons.1 hb with rfl | hb
            · exact hcF
            · exact hAF b hb
          · show ((C.rows.set i { r with S := T }).eraseIdx i).length ≤ _
            have := List.length_eraseIdx_le (C.rows.set i { r with S := T }) i
            omega
        · refine ⟨_, c24, rfl, rfl, rfl, okd, fun q hq => ?_, e1724, fun b hb => setS_fp okC.1.rise hrow T hb, by show (C.rows.set i { r with S := T }).length ≤ _; omega⟩
          rcases (mem_set_iff okC.1.rise hrow).1 hq with rfl | ⟨h2, _⟩
          · show ∃ j, T.mem j = true
            apply Classical.byContradiction
            intro hne
            have : T.count = 0 := (count_zero s24.ok).2 fun j => by
              cases hj : T.mem j with
              | false => rfl
              | true => exact absurd ⟨j, hj⟩ hne
            rw [this] at h0; simp at h0
          · exact okC.2.1 q h2
      · rintro _ w41 ⟨C2, c2, qc, qm, qof, ok2, full2, e41, g41, hl2⟩
        rw [← qc]
        refine ptr_in ⟨_, cadd c2.hdr rfl, ?_⟩
        obtain ⟨w44, hr44, mp44, x44⟩ := drop_map (ty := 0) (tk := 3) kI um_ii c2.mp (s : Int)
        have c44 := c2.setOf x44 mp44
        refine ⟨w44, hr44, ptr_in ⟨_, cadd c44.hdr rfl, _, w44, len_map um_ii c44.mp, ?_⟩⟩
        have e1744 : Ext (fpC C) w17 w44 := e41.trans' x44 (fun b hb => by simp at hb; rw [hb, qm]; exact .inl hmF)
        have g44 : Grow w17 (fpC C) (fpC { C2 with of := mdel C2.of (s : Int) }) := fun b hb => .inl (g41 b hb)
        have hh := h17.upd hcol e1744 g44 c44 qc (cnt' := cnt) (Nat.le_refl _) (by show C2.rows.length ≤ _; omega)
        have e : delE x key s = 0 := by unfold delE; rw [if_neg (by simp [hb]), v1, hg]; rfl
        have inF : ∀ b ∈ fpC C, b ∈ F := fun b hb => h.cov key C hcol b hb
        have eF : Ext F w w44 := (e17.up).trans' e1744 (fun b hb => .inl (inF b hb))
        have gF : Grow w F (F ++ fpC { C2 with of := mdel C2.of (s : Int) }) := fun b hb => by
          rcases List.mem_append.1 hb with hb | hb
          · exact .inl hb
          · exact .inl (inF b (g41 b hb))
        have oth : ∀ k' C', (x.setCol key (some { C2 with of := mdel C2.of (s : Int) })).cols k' = some C' → k' ≠ key → x.cols k' = some C' := fun k' C' hC' hne => by
          rw [setCol_other x _ hne] at hC'; exact hC'
        rw [e] at k
        refine sel_intro (fun h0 => ?_) (fun h0 => ?_)
        · have h0 : (mdel C2.of (s : Int)).length = 0 := Int.ofNat_inj.1 (eq_of_beq h0)
          refine ptr_in ⟨_, cadd hh.hdr rfl, ?_⟩
          obtain ⟨m, hm, hm2, hm3⟩ := hh.mp
          obtain ⟨w48, hr48, mp48, x48⟩ := drop_map (ty := 0) (tk := 9) kS um_si hm key
          have h48 := hh.less (key := key) x48 hm2 hm3 hm.nodup mp48
          refine ⟨w48, hr48, k w48 _ _ ⟨h48.cnt (by omega), ⟨fun k' C' hC' => ?_, ?_⟩, rfl, rfl, eF.trans' x48 (fun b hb => by simp at hb; rw [hb]; exact .inl h.MF), gF⟩ fun k' i' => ?_⟩
          · rcases setCol_some hC' with ⟨_, hC'⟩ | ⟨hne, hC'⟩
            · cases hC'
            · exact ok.ok k' C' (oth k' C' hC' hne)
          · rw [setCol_other _ _ (fun e => hkey e.symm), setCol_other x _ (fun e => hkey e.symm)]; exact ok.key
          · rw [val_setCol, val_setCol]
            by_cases ek : k' = key
            · subst ek
              rw [if_pos rfl]
              by_cases ei : i' = (s : Int)
              · rw [if_pos ⟨rfl, rfl, ei⟩]; rfl
              · rw [if_neg (fun hh => ei hh.2.2), v1]
                have := mget_mdel (c2.mp.nodup) (s : Int) i'
                rw [mget_nil_of h0, if_neg (fun e => ei e.symm), qof] at this
                exact this
            · rw [if_neg ek, if_neg ek, if_neg (fun hh => ek hh.2.1)]
        · refine k w44 _ _ ⟨hh.cnt (by omega), ⟨fun k' C' hC' => ?_, ?_⟩, rfl, rfl, eF, gF⟩ fun k' i' => ?_
          · rcases setCol_some hC' with ⟨_, hC'⟩ | ⟨hne, hC'⟩
            · cases hC'
              refine ⟨by rw [qof]; exact ok2, full2, fun hnil => ?_⟩
              have hnil : mdel C2.of (s : Int) = [] := hnil
              rw [hnil] at h0; cases h0
            · exact ok.ok k' C' hC'
          · rw [setCol_other x _ (fun e => hkey e.symm)]; exact ok.key
          · rw [val_setCol]
            by_cases ek : k' = key
            · subst ek
              rw [if_pos rfl]
              show mget (mdel C2.of (s : Int)) i' = _
              rw [mget_mdel c2.mp.nodup, qof]
              by_cases ei : (s : Int) = i'
              · rw [if_pos ei, if_pos ⟨rfl, rfl, ei.symm⟩]
              · rw [if_neg ei, if_neg (fun hh => ei hh.2.2.symm), v1]
            · rw [if_neg ek, if_neg (fun hh => ek hh.2.1)]
/-- A new index. -/
theorem NewIx_c {n : Nat} (hn : n ≤ 65536) {w : World} {R : Ending → World → Prop}
    (k : ∀ w' F x, Ext [] w w' → IxAt w' F 0 x → IxOk x → x.N = n → (∀ k i, x.val k i = none) → (∀ b ∈ F, w.heap.size ≤ b) → R (.returned (.tuple #[.pointer (some ⟨x.q, 0, none⟩), .int .i64 0])) w') :
    Calls Tryz.prog 14 #[.int .i64 (n : Int)] w R := by
  apply ordered_New_nf
  refine sel_dec (fun h => by omega) (fun _ => sel_dec (fun h => by omega) (fun _ => fun w2 h2 w3 h3 => ?_))
  obtain ⟨m2, x2, z2⟩ := map_new Value.string ptrTo h2
  obtain ⟨b3, x3, z3⟩ := box_new (cs := [.int .i64 (n : Int), .map (some w.heap.size)]) h3
  refine k w3 [w2.heap.size, w.heap.size] ⟨w2.heap.size, w.heap.size, n, fun _ => none⟩ (x2.trans x3) ⟨b3, ⟨[], m2.ext0 x3, by simp, fun k => rfl⟩, fun k C h => (by cases h), hn, fun k C h => (by cases h), by show w2.heap.size ≠ w.heap.size; omega, fun k C h => (by cases h), fun k k' C C' h => (by cases h), by simp, by simp, fun k C h => (by cases h), fun b hb => by simp at hb; omega⟩ ⟨fun k C h => (by cases h), rfl⟩ rfl (fun k i => rfl) (fun b hb => by simp at hb; omega)
end Go.Proofs.YtjlkdadafddodaaGreatDoor
