/- Ordered: Put. -/
import Derived.Test.YtjlkdadafddodaaGreatDoorO7
set_option linter.unusedVariables false
set_option linter.unusedSimpArgs false
namespace Go.Proofs.YtjlkdadafddodaaGreatDoor
open Go Go.V Go.B

theorem i87s : (Tryz.prog.info? 85).map (·.size) = some 1 := by kernel_rfl
theorem put_ins {w28 : World} {F : List Nat} {cnt : Nat} {x : Ix} (h : IxAt w28 F cnt x) {q : Nat} (hq : x.q = q) {key : ByteArray} {C : Cl} (hk : x.cols key = some C) (ok : ClOk x.N C) {n : Int} {i : Nat} (pl : Place C.rows n i) (hno : ∀ r ∈ C.rows, r.n ≠ n) (hl : C.rows.length ≤ 8000000000000) {J : World → Prop}
    (k : ∀ w' C2 r, ClAt w' C2 → C2.c = C.c → C2.m = C.m → C2.of = C.of → ClOk x.N C2 → C2.rows[i]? = some r → r.n = n → (∀ s ∈ C2.rows, s.n ≠ n → s ∈ C.rows) → Ext (fpC C) w28 w' → Grow w28 (fpC C) (fpC C2) → C2.rows.length = C.rows.length + 1 → J w') :
    ∃ S32 : World → Prop, S32 (World.drew w28) ∧
  V.ptr (some (⟨C.c, 0, none⟩ : Addr)) fun a34 =>
  ∃ A35, ∃ A35l, ∃ A35c, (∀ w33, S32 w33 → World.cell? w33 (Addr.add a34 0) = some (Value.slice A35 A35l A35c)) ∧
  Calls Tryz.prog 27 #[(Value.pointer (some (⟨q, 0, none⟩ : Addr)))] (World.drew w28) fun e37 w38 =>
  ∃ p36, e37 = Ending.returned (Value.pointer p36) ∧
  S32 w38 ∧
  ∀ w39, w39 = (World.alloc w38 (.cells #[(Value.int .i64 n), (Value.pointer p36)] 90)) →
  S32 w39 ∧
  Calls Tryz.prog 39 #[(Value.slice A35 A35l A35c), (Value.int .i64 (i : Int)), (Value.slice (some ⟨Array.size (World.heap w38), 0, none⟩) 1 1)] w39 fun e41 w42 =>
  ∃ A40, ∃ A40l, ∃ A40c, e41 = Ending.returned (Value.slice A40 A40l A40c) ∧
  S32 w42 ∧
  V.ptr (some (⟨C.c, 0, none⟩ : Addr)) fun a43 =>
  ∃ w44, Sem.run Tryz.prog (Instr.storeAt 85 (Value.pointer (some (Addr.add a43 0))) (Value.slice A40 A40l A40c)) w42 = .ok () w44 ∧
  J  w44 := by
  subst hq
  have hC := h.col key C hk
  have hle := pl.le
  refine ⟨fun w' => w'.cell? (Addr.add ⟨C.c, 0, none⟩ 0) = some (.slice C.A C.rows.length C.cp), cadd hC.hdr rfl, ptr_in ⟨_, _, _, fun w' h => h, ?_⟩⟩
  have hd : IxAt w28.drew F cnt x := h.ext0 (Ext.refl [] w28).drew
  refine empty_c (w := w28.drew) (q := some ⟨x.q, 0, none⟩) (.inr ⟨F, cnt, rfl, hd⟩) fun p bw w38 e38 hp hbw s38 => ⟨_, rfl, ?_⟩
  have e38 : Ext [] w28 w38 := e38.undrew
  have hp : w28.heap.size ≤ p := hp
  have hbw : w28.heap.size ≤ bw := hbw
  have c38 := hC.ext0 e38
  refine ⟨cadd c38.hdr rfl, fun w39 h39 => ?_⟩
  obtain ⟨b39, x39, z39⟩ := box_new (cs := rowCells ⟨n, p, bw, ⟨x.N, List.replicate ((x.N + 63) / 64) 0⟩⟩) h39
  have c39 := c38.ext0 x39
  have lt28 := hC.lt
  have z38 := e38.size
  have lA : ∀ b ∈ ownF C.A, b < w28.heap.size := fun b hb => lt28 b (mem_fpC.2 (.inl (mem_top.2 (.inr (.inr hb)))))
  have lc : C.c < w28.heap.size := lt28 _ (mem_fpC.2 (.inl (mem_top.2 (.inl rfl))))
  have hpl := s38.hdr.lt
  have hbl := s38.wrd.lt
  refine ⟨cadd c39.hdr rfl, Insert_c (x := ⟨n, p, bw, ⟨x.N, List.replicate ((x.N + 63) / 64) 0⟩⟩) c39.arr (Nat.zero_le _) hle (by omega) b39 (fun hm => by have := lA _ hm; omega) fun A' c' w42 own42 e42 hA' => ⟨_, _, _, rfl, ?_⟩⟩
  have c42 := c39.hdr.ext e42 c39.cA
  refine ⟨cadd c42 rfl, ptr_in ?_⟩
  obtain ⟨w44, hr44, b44, x44⟩ := store1a (P := Tryz.prog) (v := .slice A' (C.rows.length + 1) c') i87s c42 (i := 0) (by simp) rfl rfl
  refine ⟨w44, hr44, ?_⟩
  have hAA : ownF A' = ownF C.A ∨ ∃ g, ownF A' = [g] ∧ w28.heap.size ≤ g ∧ g ≠ p ∧ g ≠ bw := by
    rcases hA' with h | ⟨g, h, hg⟩
    · exact .inl h
    · exact .inr ⟨g, h, by omega, by omega, by omega⟩
  have hcA' : C.c ∉ ownF A' := by
    rcases hAA with h | ⟨g, h, hg, _⟩
    · rw [h]; exact hC.cA
    · rw [h]; simp; omega
  have e2844 : Ext (C.c :: ownF C.A) w28 w44 := (((e38.trans x39).up).trans' e42 (fun b hb => .inl (by simp [hb]))).trans' x44 (fun b hb => .inl (by simp at hb; simp [hb]))
  have own44 : OwnL RL w44 0 90 A' (C.rows.length + 1) c' (insAt C.rows i ⟨n, p, bw, ⟨x.N, List.replicate ((x.N + 63) / 64) 0⟩⟩) := OwnL.ext (L := RL) own42 x44 (fun b hb => by simp; intro e; subst e; exact hcA' hb)
  have s44 : SetAt w44 p bw ⟨x.N, List.replicate ((x.N + 63) / 64) 0⟩ := ((s38.ext0 x39).ext e42 (fun hm => by have := lA _ hm; omega) (fun hm => by have := lA _ hm; omega)).ext x44 (by simp; omega) (by simp; omega)
  refine k w44 { C with rows := insAt C.rows i ⟨n, p, bw, ⟨x.N, List.replicate ((x.N + 63) / 64) 0⟩⟩, A := A', cp := c' } _ (hC.ins hle own44 b44 e2844 hAA hp hbw s44) rfl rfl rfl (ok.ins pl hno rfl rfl (fun j => empty_mem _ _) A' c') (ins_at hle) rfl (fun s hs hne => ?_) (e2844.weaken fun b hb => .inl ?_) (ins_fp hAA hp hbw) (ins_len hle)
  · rcases mem_ins_iff.1 hs with rfl | hs
    · exact absurd rfl hne
    · exact hs
  · rcases List.mem_cons.1 hb with rfl | hb
    · exact mem_fpC.2 (.inl (mem_top.2 (.inl rfl)))
    · exact mem_fpC.2 (.inl (mem_top.2 (.inr (.inr hb))))
/-- An index changed. -/
structure Chg (w w' : World) (F F' : List Nat) (cnt : Nat) (x x' : Ix) : Prop where
  at_ : IxAt w' F' cnt x'
  ok : IxOk x'
  q : x'.q = x.q
  N : x'.N = x.N
  ext : Ext F w w'
  grow : Grow w F F'
theorem Chg.same {w w' : World} {F : List Nat} {cnt cnt' : Nat} {x : Ix} (h : IxAt w F cnt x) (ok : IxOk x) (e : Ext [] w w') (hc : cnt ≤ cnt') : Chg w w' F F cnt' x x := ⟨(h.ext0 e).cnt hc, ok, rfl, rfl, e.up, Grow.refl _ _⟩
theorem val_setCol (x : Ix) (key : ByteArray) (c : Option Cl) (k : ByteArray) (i : Int) : (x.setCol key c).val k i = if k = key then c.bind (fun C => mget C.of i) else x.val k i := by
  unfold Ix.val Ix.setCol
  by_cases h : k = key <;> simp [h]
theorem IxOk.setCol {x : Ix} (h : IxOk x) {key : ByteArray} (hk : key ≠ ByteArray.empty) {c : Option Cl} (hc : ∀ C, c = some C → ClOk x.N C ∧ C.full ∧ C.of ≠ []) : IxOk (x.setCol key c) :=
  ⟨fun k C hC => by
    rcases setCol_some hC with ⟨_, hC⟩ | ⟨_, hC⟩
    · exact hc C hC
    · exact h.ok k C hC, by rw [setCol_other x c (fun e => hk e.symm)]; exact h.key⟩
def putE (x : Ix) (key : ByteArray) (slot : Int) : Int := if barV x.N key slot ≠ 0 then barV x.N key slot else if (x.val key slot).isSome then 82 else 0
theorem bar_zero {N : Nat} {key : ByteArray} {slot : Int} (h : barV N key slot = 0) : key ≠ ByteArray.empty ∧ ∃ s : Nat, slot = s ∧ s < N := by
  unfold barV at h
  split at h
  · cases h
  · split at h
    · cases h
    · rename_i h1 h2
      exact ⟨h1, slot.toNat, by omega, by omega⟩
theorem mput_ne {m : List (Int × Int)} {k v : Int} : mput m k v ≠ [] := by
  cases m with
  | nil => simp [mput]
  | cons a m =>
    unfold mput
    split <;> simp
set_option maxRecDepth 4000 in
set_option maxHeartbeats 2000000 in
theorem Put_c {w : World} {F : List Nat} {cnt : Nat} {x : Ix} (h : IxAt w F cnt x) (ok : IxOk x) (hc : cnt ≤ 7999999999000) (key : ByteArray) (slot n : Int) {R : Ending → World → Prop}
    (k : ∀ w' F' x', Chg w w' F F' (cnt + 2) x x' → (∀ k i, x'.val k i = if putE x key slot = 0 ∧ k = key ∧ i = slot then some n else x.val k i) → R (.returned (.int .i64 (putE x key slot))) w') :
    Calls Tryz.prog 15 #[.pointer (some ⟨x.q, 0, none⟩), .string key, .int .i64 slot, .int .i64 n] w R := by
  apply ordered_Index_Put_nf
  refine bars_c h key slot ⟨_, rfl, sel_intro (fun hb => ?_) (fun hb => ?_)⟩
  · have hb : barV x.N key slot ≠ 0 := by simpa using hb
    have e : putE x key slot = barV x.N key slot := by unfold putE; rw [if_pos hb]
    rw [← e]
    exact k w F x (Chg.same h ok (Ext.refl _ _) (by omega)) fun k' i => by rw [if_neg (fun hh => by rw [e] at hh; exact hb hh.1)]
  have hb : barV x.N key slot = 0 := by simpa using hb
  obtain ⟨hkey, s, rfl, hs⟩ := bar_zero hb
  obtain ⟨m, hm, hm2, hm3⟩ := h.mp
  have hlt := h.lt
  refine ptr_in ⟨_, cadd h.hdr rfl, ?_⟩
  -- the column, at last
  let J : Option Addr → World → Prop := fun c w' => ∃ F1 x1 C, c = some ⟨C.c, 0, none⟩ ∧ IxAt w' F1 (cnt + 1) x1 ∧ x1.q = x.q ∧ x1.N = x.N ∧ x1.cols key = some C ∧ ClOk x.N C ∧ C.full ∧ (∀ k C', k ≠ key → x1.cols k = some C' → x.cols k = some C') ∧ (∀ k i, x1.val k i = x.val k i) ∧ Ext F w w' ∧ Grow w F F1 ∧ C.rows.length ≤ cnt
  have hJ : (∀ c_18 (j19 : Nat → Value) (w20 : World), J c_18 w20 →
  V.ptr c_18 fun a21 =>
  ∃ m22, World.cell? w20 (Addr.add a21 1) = some (Value.map m22) ∧
  ∃ n23, ∃ b24, ∃ w25, Sem.run Tryz.prog (Instr.lookup 84 (Value.map m22) (Value.int .i64 (s : Int)) true) w20 = .ok (Value.tuple #[(Value.int .i64 n23), (Value.bool b24)]) w25 ∧
  V.sel b24
  (R (Ending.returned (Value.int .i64 82)) w25)
  (Calls Tryz.prog 38 #[(Value.pointer c_18), (Value.int .i64 n)] w25 fun e27 w28 =>
  ∃ n26, e27 = Ending.returned (Value.int .i64 n26) ∧
  ∃ J29 : World → Prop, (V.ptr c_18 fun a30 =>
  ∃ A31, ∃ A31l, ∃ A31c, World.cell? w28 (Addr.add a30 0) = some (Value.slice A31 A31l A31c) ∧
  V.sel (n26 == ((A31l : Nat) : Int))
  (∃ S32 : World → Prop, S32 (World.drew w28) ∧
  V.ptr c_18 fun a34 =>
  ∃ A35, ∃ A35l, ∃ A35c, (∀ w33, S32 w33 → World.cell? w33 (Addr.add a34 0) = some (Value.slice A35 A35l A35c)) ∧
  Calls Tryz.prog 27 #[(Value.pointer (some (⟨x.q, 0, none⟩ : Addr)))] (World.drew w28) fun e37 w38 =>
  ∃ p36, e37 = Ending.returned (Value.pointer p36) ∧
  S32 w38 ∧
  ∀ w39, w39 = (World.alloc w38 (.cells #[(Value.int .i64 n), (Value.pointer p36)] 90)) →
  S32 w39 ∧
  Calls Tryz.prog 39 #[(Value.slice A35 A35l A35c), (Value.int .i64 n26), (Value.slice (some ⟨Array.size (World.heap w38), 0, none⟩) 1 1)] w39 fun e41 w42 =>
  ∃ A40, ∃ A40l, ∃ A40c, e41 = Ending.returned (Value.slice A40 A40l A40c) ∧
  S32 w42 ∧
  V.ptr c_18 fun a43 =>
  ∃ w44, Sem.run Tryz.prog (Instr.storeAt 85 (Value.pointer (some (Addr.add a43 0))) (Value.slice A40 A40l A40c)) w42 = .ok () w44 ∧
  J29  w44)
  (V.ptr c_18 fun a45 =>
  ∃ A46, ∃ A46l, ∃ A46c, World.cell? w28 (Addr.add a45 0) = some (Value.slice A46 A46l A46c) ∧
  V.when (decide ((0 : Int) ≤ n26 ∧ (n26 : Int) < ((A46l : Nat) : Int))) (V.ptr A46 fun a47 =>
  ∃ n48, World.cell? w28 (Addr.add (Addr.add a47 ((Int.toNat n26) * 2)) 0) = some (Value.int .i64 n48) ∧
  V.sel (n48 != n)
  (∃ S49 : World → Prop, S49 (World.drew w28) ∧
  V.ptr c_18 fun a51 =>
  ∃ A52, ∃ A52l, ∃ A52c, (∀ w50, S49 w50 → World.cell? w50 (Addr.add a51 0) = some (Value.slice A52 A52l A52c)) ∧
  Calls Tryz.prog 27 #[(Value.pointer (some (⟨x.q, 0, none⟩ : Addr)))] (World.drew w28) fun e54 w55 =>
  ∃ p53, e54 = Ending.returned (Value.pointer p53) ∧
  S49 w55 ∧
  ∀ w56, w56 = (World.alloc w55 (.cells #[(Value.int .i64 n), (Value.pointer p53)] 90)) →
  S49 w56 ∧
  Calls Tryz.prog 39 #[(Value.slice A52 A52l A52c), (Value.int .i64 n26), (Value.slice (some ⟨Array.size (World.heap w55), 0, none⟩) 1 1)] w56 fun e58 w59 =>
  ∃ A57, ∃ A57l, ∃ A57c, e58 = Ending.returned (Value.slice A57 A57l A57c) ∧
  S49 w59 ∧
  V.ptr c_18 fun a60 =>
  ∃ w61, Sem.run Tryz.prog (Instr.storeAt 85 (Value.pointer (some (Addr.add a60 0))) (Value.slice A57 A57l A57c)) w59 = .ok () w61 ∧
  J29  w61)
  (J29  w28)))) ∧
  ∀ (j62 : Nat → Value) (w63 : World), J29  w63 →
  V.ptr c_18 fun a64 =>
  ∃ A65, ∃ A65l, ∃ A65c, World.cell? w63 (Addr.add a64 0) = some (Value.slice A65 A65l A65c) ∧
  V.when (decide ((0 : Int) ≤ n26 ∧ (n26 : Int) < ((A65l : Nat) : Int))) (V.ptr A65 fun a66 =>
  ∃ p67, World.cell? w63 (Addr.add (Addr.add a66 ((Int.toNat n26) * 2)) 1) = some (Value.pointer p67) ∧
  Calls Tryz.prog 40 #[(Value.pointer p67), (Value.int .i64 (s : Int))] w63 fun e69 w70 =>
  ∃ b68, e69 = Ending.returned (Value.bool b68) ∧
  V.ptr c_18 fun a71 =>
  ∃ m72, World.cell? w70 (Addr.add a71 1) = some (Value.map m72) ∧
  ∃ w73, Sem.run Tryz.prog (Instr.mapUpdate 84 (Value.map m72) (Value.int .i64 (s : Int)) (Value.int .i64 n)) w70 = .ok () w73 ∧
  R (Ending.returned (Value.int .i64 0)) w73))) := by
    rintro c _ w20 ⟨F1, x1, C, rfl, h1, hq1, hN1, hk1, okC, full, oth, hval, e20, g20, hl1⟩
    have hC := h1.col key C hk1
    have v1 : ∀ i, x.val key i = mget C.of i := fun i => by rw [← hval]; unfold Ix.val; rw [hk1]; rfl
    have key1 : x1.cols ByteArray.empty = none := by
      cases hh : x1.cols ByteArray.empty with
      | none => rfl
      | some D => have := oth _ D (fun e => hkey e.symm) hh; rw [ok.key] at this; cases this
    refine ptr_in ⟨_, cadd hC.hdr rfl, ?_⟩
    cases hg : mget C.of (s : Int) with
    | some v =>
      refine ⟨_, _, w20, (look_yes kI um_ii zI hC.mp hg).2, sel_true rfl ?_⟩
      have e : putE x key s = 82 := by unfold putE; rw [if_neg (by simp [hb]), v1, hg]; rfl
      rw [← e]
      refine k w20 F1 x1 ⟨h1.cnt (by omega), ⟨fun k' C' hC' => ?_, key1⟩, hq1, hN1, e20, g20⟩ fun k' i => by rw [if_neg (fun hh => by rw [e] at hh; cases hh.1)]; exact hval k' i
      by_cases ek : k' = key
      · subst ek
        rw [hk1] at hC'
        cases hC'
        exact ⟨by rw [hN1]; exact okC, full, fun h0 => by rw [h0] at hg; cases hg⟩
      · have := ok.ok k' C' (oth k' C' ek hC')
        exact ⟨by rw [hN1]; exact this.1, this.2⟩
    | none =>
      refine ⟨_, _, w20, (look_no kI um_ii zI hC.mp hg).2, sel_false rfl (at_c hC.view okC.rise (by omega) n fun i w28 e28 pl => ⟨_, rfl, ?_⟩)⟩
      have h28 := h1.ext0 e28
      have hC28 := h28.col key C hk1
      have hil := pl.le
      have okC1 : ClOk x1.N C := by rw [hN1]; exact okC
      let J2 : World → Prop := fun w' => ∃ C2 r, ClAt w' C2 ∧ C2.c = C.c ∧ C2.m = C.m ∧ C2.of = C.of ∧ ClOk x1.N C2 ∧ C2.rows[i]? = some r ∧ r.n = n ∧ (∀ s ∈ C2.rows, s.n ≠ n → s ∈ C.rows) ∧ Ext (fpC C) w28 w' ∧ Grow w28 (fpC C) (fpC C2) ∧ C2.rows.length ≤ C.rows.length + 1
      refine ⟨J2, ?_, ?_⟩
      · refine ptr_in ⟨_, _, _, cadd hC28.hdr rfl, sel_intro (fun hi => ?_) (fun hi => ?_)⟩
        · have hi : i = C.rows.length := by have := eq_of_beq hi; omega
          refine put_ins h28 hq1 hk1 okC1 pl (pl.fresh okC.rise (fun r hr => by rw [hi, List.getElem?_eq_none (Nat.le_refl _)] at hr; cases hr)) (by omega) fun w' C2 r q1 q2 q3 q4 q5 q6 q7 q8 q9 q10 q11 => ⟨C2, r, q1, q2, q3, q4, q5, q6, q7, q8, q9, q10, by omega⟩
        · have hi : i < C.rows.length := by
            have : i ≠ C.rows.length := fun e => by rw [e] at hi; simp at hi
            omega
          have hrow : C.rows[i]? = some (C.rows[i]'hi) := List.getElem?_eq_getElem hi
          generalize C.rows[i]'hi = r at hrow
          obtain ⟨ad, hA, hc0, _⟩ := row_cells hC28.arr.cells hrow
          refine ptr_in ⟨_, _, _, cadd hC28.hdr rfl, when_dec ⟨by omega, by omega⟩ ?_⟩
          rw [hA]
          refine ptr_in ⟨_, hc0, sel_intro (fun hne => ?_) (fun hne => ?_)⟩
          · have hne : r.n ≠ n := by simpa using hne
            refine put_ins h28 hq1 hk1 okC1 pl (pl.fresh okC.rise (fun r' hr => by rw [hrow] at hr; cases hr; exact hne)) (by omega) fun w' C2 r q1 q2 q3 q4 q5 q6 q7 q8 q9 q10 q11 => ⟨C2, r, q1, q2, q3, q4, q5, q6, q7, q8, q9, q10, by omega⟩
          · have hne : r.n = n := by simpa using hne
            exact ⟨C, r, hC28, rfl, rfl, rfl, okC1, hrow, hne, fun s hs _ => hs, Ext.refl _ _, Grow.refl _ _, by omega⟩
      · rintro _ w63 ⟨C2, r, c2, qc, qm, qof, ok2, hrow, hrn, hold, e63, g63, hl2⟩
        rw [← qc]
        have hil2 := (List.getElem?_eq_some_iff.1 hrow).1
        have hrm := List.mem_of_getElem? hrow
        obtain ⟨ad, hA, _, hc1⟩ := row_cells c2.arr.cells hrow
        refine ptr_in ⟨_, _, _, cadd c2.hdr rfl, when_dec ⟨by omega, by omega⟩ ?_⟩
        rw [hA]
        refine ptr_in ⟨_, hc1, Add_c (c2.set r hrm) s fun w70 T t e70 s70 hTN hTm ht => ⟨_, rfl, ?_⟩⟩
        have hSN := ok2.size r hrm
        have c70 := c2.setS ok2.rise hrow e70 s70
        refine ptr_in ⟨_, cadd c70.hdr rfl, ?_⟩
        obtain ⟨w73, hr73, mp73, x73⟩ := store_map kI um_ii c70.mp (s : Int) n
        refine ⟨w73, hr73, ?_⟩
        have c73 := c70.setOf x73 mp73
        have hg2 : mget C2.of (s : Int) = none := by rw [qof]; exact hg
        have hTm' : ∀ j, T.mem j = (r.S.mem j || decide (j = s)) := fun j => by
          rw [hTm]
          congr 1
          rw [decide_eq_decide]
          rw [hSN, hN1]; omega
        have ok3 : ClOk x1.N { C2 with rows := C2.rows.set i { r with S := T }, of := mput C2.of (s : Int) n } := by
          have := ok2.add hrow (by rw [hN1]; exact hs) hg2 (hTN.trans hSN) hTm'
          rwa [show mput C2.of (s : Int) r.n = mput C2.of (s : Int) n by rw [hrn]] at this
        have hbF : r.b ∈ fpC C2 := mem_fpC.2 (.inr ⟨r, hrm, .inr rfl⟩)
        have hmF : C2.m ∈ fpC C := by rw [qm]; exact mem_fpC.2 (.inl (mem_top.2 (.inr (.inl rfl))))
        have e2873 : Ext (fpC C) w28 w73 := (e63.trans' e70 (fun b hb => by simp at hb; rw [hb]; exact g63 _ hbF)).trans' x73 (fun b hb => by simp at hb; rw [hb]; exact .inl hmF)
        have g73 : Grow w28 (fpC C) (fpC { C2 with rows := C2.rows.set i { r with S := T }, of := mput C2.of (s : Int) n }) := fun b hb => g63 b (setS_fp ok2.rise hrow T hb)
        have inF1 : ∀ b ∈ fpC C, b ∈ F ∨ w.heap.size ≤ b := fun b hb => g20 b (h1.cov key C hk1 b hb)
        have z20 := e20.size
        have z28 := e28.size
        have e : putE x key s = 0 := by unfold putE; rw [if_neg (by simp [hb]), v1, hg]; rfl
        have hh := h28.upd hk1 e2873 g73 c73 qc (cnt' := cnt + 2) (by omega) (by show (C2.rows.set i _).length ≤ _; rw [List.length_set]; omega)
        rw [← e]
        refine k w73 _ _ ⟨hh, ⟨fun k' C' hC' => ?_, ?_⟩, hq1, hN1, (e20.then e28).trans' e2873 (fun b hb => inF1 b hb), fun b hb => ?_⟩ fun k' i' => ?_
        · rcases setCol_some hC' with ⟨_, hC'⟩ | ⟨ek, hC'⟩
          · cases hC'
            refine ⟨ok3, fun t ht => ?_, mput_ne⟩
            rcases (mem_set_iff ok2.rise hrow).1 ht with rfl | ⟨h5, h6⟩
            · exact ⟨s, by rw [hTm']; simp⟩
            · exact full t (hold t h5 (by rw [← hrn]; exact h6))
          · have := ok.ok k' C' (oth k' C' ek hC')
            exact ⟨by show ClOk x1.N C'; rw [hN1]; exact this.1, this.2⟩
        · rw [setCol_other x1 _ (fun e => hkey e.symm)]; exact key1
        · rcases List.mem_append.1 hb with hb | hb
          · exact g20 b hb
          · rcases g73 b hb with hb | hb
            · exact inF1 b hb
            · exact .inr (by omega)
        · rw [val_setCol, e]
          by_cases ek : k' = key
          · subst ek
            rw [if_pos rfl]
            show mget (mput C2.of (s : Int) n) i' = _
            rw [mget_mput, qof]
            by_cases ei : (s : Int) = i'
            · rw [if_pos ei, if_pos ⟨rfl, rfl, ei.symm⟩]
            · rw [if_neg ei, if_neg (fun hh => ei hh.2.2.symm), v1]
          · rw [if_neg ek, if_neg (fun hh => ek hh.2.1)]; exact hval k' i'
  · cases hcol : x.cols key with
    | none =>
      have hg : mget m key = none := by rw [hm3, hcol]; rfl
      refine ⟨_, w, (look_no kS um_si zP hm hg).1, J, sel_true rfl fun w13 h13 w14 h14 => ?_, hJ⟩
      obtain ⟨m13, x13, z13⟩ := map_new (Value.int .i64 : Int → Value) (Value.int .i64 : Int → Value) h13
      obtain ⟨b14, x14, z14⟩ := box_new (cs := [.slice none 0 0, .map (some w.heap.size)]) h14
      have e14 := x13.trans x14
      have h14' := h.ext0 e14
      refine ptr_in ⟨_, cadd h14'.hdr rfl, ?_⟩
      obtain ⟨w17, hr17, mp17, x17⟩ := store_map kS um_si (hm.ext0 e14) key w13.heap.size
      refine ⟨w17, hr17, ?_⟩
      have hM := hlt _ h.MF
      have eM : Ext [x.M] w w17 := (e14.up).trans x17
      let C1 : Cl := ⟨w13.heap.size, none, 0, w.heap.size, [], []⟩
      have g1 : ∀ b ∈ fpC C1, w.heap.size ≤ b := fun b hb => by
        simp only [fpC, topC, setsC, ownF, C1, List.mem_append, List.mem_cons, List.not_mem_nil, or_false, List.flatMap_nil] at hb
        omega
      have a1 : ClAt w17 C1 := ⟨b14.ext x17 (by simp; omega), OwnL.nil _ _ _, (m13.ext0 x14).ext x17 (by simp; omega), fun r hr => (by cases hr), by simp [C1]; omega, by simp [C1, ownF], by simp [C1, ownF], fun r hr => (by cases hr), fun r hr => (by cases hr)⟩
      refine ⟨F ++ fpC C1, x.setCol key (some C1), C1, rfl, h.more hcol eM g1 a1 hm2 hm3 mp17 (by simp [C1]), rfl, rfl, setCol_same _ _ _, ⟨List.Pairwise.nil, fun r hr => (by cases hr), fun i n => ⟨fun h => (by cases h), fun ⟨r, hr, _⟩ => (by cases hr)⟩, fun k n h => (by cases h)⟩, fun r hr => (by cases hr), fun k C' hne hC => ?_, fun k i => ?_, eM.weaken (fun b hb => .inl (by simp at hb; rw [hb]; exact h.MF)), fun b hb => ?_, Nat.zero_le _⟩
      · rw [setCol_other x _ hne] at hC; exact hC
      · rw [val_setCol]
        split
        · rename_i ek
          subst ek
          unfold Ix.val; rw [hcol]; rfl
        · rfl
      · rcases List.mem_append.1 hb with hb | hb
        · exact .inl hb
        · exact .inr (g1 b hb)
    | some C =>
      have hg : mget m key = some C.c := by rw [hm3, hcol]; rfl
      refine ⟨_, w, (look_yes kS um_si zP hm hg).1, J, sel_false rfl ⟨F, x, C, rfl, h.cnt (by omega), rfl, rfl, hcol, (ok.ok key C hcol).1, (ok.ok key C hcol).2.1, fun k C' _ hC => hC, fun _ _ => rfl, Ext.refl _ _, Grow.refl _ _, h.rows key C hcol⟩, hJ⟩
end Go.Proofs.YtjlkdadafddodaaGreatDoor
