/- Posting: a key's values changed; reading an index. -/
import Derived.Test.YtpipenkaaodlgaaGreatDoorZ1
set_option linter.unusedVariables false
set_option linter.unusedSimpArgs false
namespace Go.Proofs.YtpipenkaaodlgaaGreatDoor
open Go Go.V Go.B

theorem um_il : Tryz.prog.underlying 70 = some (.map 3 22) := by kernel_rfl
theorem um_sm : Tryz.prog.underlying 71 = some (.map 9 92) := by kernel_rfl
theorem um_sp : Tryz.prog.underlying 92 = some (.map 9 64) := by kernel_rfl
theorem kS : KeyT Tryz.prog 9 Value.string := keyString (by kernel_rfl)
theorem kI : KeyT Tryz.prog 3 (Value.int .i64) := keyInt (by kernel_rfl)
theorem zL : ∀ w, (zeroValue 22).run Tryz.prog w = .ok (.slice none 0 0) w := fun w => by kernel_rfl
theorem zM : ∀ w, (zeroValue 92).run Tryz.prog w = .ok (.map none) w := fun w => by kernel_rfl
theorem zP : ∀ w, (zeroValue 64).run Tryz.prog w = .ok (.pointer none) w := fun w => by kernel_rfl
theorem uL : Tryz.prog.underlying 22 = some (.slice 33) := by kernel_rfl
section
variable {κ β : Type} [DecidableEq κ]
theorem mem_mput {m : List (κ × β)} {k : κ} {x : β} {z : κ × β} (h : z ∈ mput m k x) : z = (k, x) ∨ z ∈ m := by
  induction m with
  | nil => simp [mput] at h; exact .inl h
  | cons y m ih =>
    unfold mput at h
    split at h
    · rcases List.mem_cons.1 h with h | h
      · exact .inl h
      · exact .inr (by simp [h])
    · rcases List.mem_cons.1 h with h | h
      · exact .inr (by simp [h])
      · rcases ih h with h | h
        · exact .inl h
        · exact .inr (by simp [h])
theorem mem_mdel {m : List (κ × β)} {k : κ} {z : κ × β} (h : z ∈ mdel m k) : z ∈ m := by
  induction m with
  | nil => simp [mdel] at h
  | cons y m ih =>
    unfold mdel at h
    split at h
    · simp [h]
    · rcases List.mem_cons.1 h with h | h
      · simp [h]
      · simp [ih h]
theorem mget_nil_iff {m : List (κ × β)} : m = [] ↔ ∀ k, mget m k = none := by
  constructor
  · rintro rfl k; rfl
  · intro h
    cases m with
    | nil => rfl
    | cons y m => have := h y.1; simp [mget] at this
end
/-- One value more. -/
theorem KcAt.put {w w1 w2 : World} {C : Kc} (h : KcAt w C) {v : ByteArray} (hv : mget C.of v = none) {s : PS} (e1 : Ext [] w w1) (hp : w.heap.size ≤ s.p) (hb : w.heap.size ≤ s.b) (hs : SetAt w1 s.p s.b s.S) (e2 : Ext [C.m] w1 w2) (hm : MapAt w2 C.m Value.string psV (mput C.of v s)) :
    KcAt w2 ⟨C.m, mput C.of v s⟩ ∧ Grow w (fpK C) (fpK ⟨C.m, mput C.of v s⟩) := by
  have hlt := h.lt
  have hml := h.mp.lt
  have old : ∀ y ∈ C.of, y.2.p < w.heap.size ∧ y.2.b < w.heap.size := fun y hy => ⟨hlt _ (mem_fpK.2 (.inr ⟨y, hy, .inl rfl⟩)), hlt _ (mem_fpK.2 (.inr ⟨y, hy, .inr rfl⟩))⟩
  refine ⟨⟨hm, fun y hy => ?_, fun y hy => ?_, fun y hy z hz hne => ?_⟩, fun b hb' => ?_⟩
  · rcases mem_mput hy with rfl | hy
    · exact hs.ext e2 (by simp; omega) (by simp; omega)
    · have hn := h.nm y hy
      exact ((h.set y hy).ext0 e1).ext e2 (by simp; exact hn.1) (by simp; exact hn.2)
  · rcases mem_mput hy with rfl | hy
    · exact ⟨by show s.p ≠ C.m; omega, by show s.b ≠ C.m; omega⟩
    · exact h.nm y hy
  · rcases mem_mput hy with rfl | hy <;> rcases mem_mput hz with rfl | hz
    · exact absurd rfl hne
    · have := old z hz
      exact ⟨by show s.p ≠ _; omega, by show s.p ≠ _; omega, by show s.b ≠ _; omega, by show s.b ≠ _; omega⟩
    · have := old y hy
      exact ⟨by show _ ≠ s.p; omega, by show _ ≠ s.b; omega, by show _ ≠ s.p; omega, by show _ ≠ s.b; omega⟩
    · exact h.rr y hy z hz hne
  · rcases mem_fpK.1 hb' with rfl | ⟨y, hy, hyb⟩
    · exact .inl (mem_fpK.2 (.inl rfl))
    · rcases mem_mput hy with rfl | hy
      · right
        rcases hyb with rfl | rfl
        · exact hp
        · exact hb
      · exact .inl (mem_fpK.2 (.inr ⟨y, hy, hyb⟩))
theorem upS_fp {C : Kc} {v : ByteArray} {T : SetV} {b : Nat} (hb : b ∈ fpK ⟨C.m, upS C.of v T⟩) : b ∈ fpK C := by
  rcases mem_fpK.1 hb with rfl | ⟨z, hz, hzb⟩
  · exact mem_fpK.2 (.inl rfl)
  · obtain ⟨y, hy, _, e1, e2, _⟩ := upS_mem hz
    exact mem_fpK.2 (.inr ⟨y, hy, by rw [← e1, ← e2]; exact hzb⟩)
/-- A value's set turned. -/
theorem KcAt.setS {w w' : World} {C : Kc} (h : KcAt w C) {v : ByteArray} {s : PS} (hv : mget C.of v = some s) {T : SetV} (e : Ext [s.b] w w') (hs : SetAt w' s.p s.b T) : KcAt w' ⟨C.m, upS C.of v T⟩ := by
  have hin := mget_some hv
  have hnd := h.mp.nodup
  have hn := h.nm _ hin
  have one : ∀ y ∈ C.of, y.1 = v → y.2 = s := fun y hy e => by
    have := mget_of_mem hnd (k := y.1) (x := y.2) hy
    rw [e, hv] at this
    exact (Option.some.inj this).symm
  refine ⟨?_, fun z hz => ?_, fun z hz => ?_, fun z hz z' hz' hne => ?_⟩
  · obtain ⟨es, cl, h1, h2, h3, h4⟩ := h.mp.ext e (by simp; exact fun e => hn.2 e.symm)
    exact ⟨es, cl, h1, by rw [h2]; exact (upS_val C.of v T).symm, by rw [upS_keys]; exact h3, h4⟩
  · obtain ⟨y, hy, e0, e1, e2, hc⟩ := upS_mem hz
    rcases hc with ⟨h1, h2⟩ | ⟨h1, rfl⟩
    · have := one y hy h1
      rw [e1, e2, h2, this]; exact hs
    · have hd := h.rr _ hy _ hin h1
      exact (h.set _ hy).ext e (by simp; exact hd.2.1) (by simp; exact hd.2.2.2)
  · obtain ⟨y, hy, e0, e1, e2, hc⟩ := upS_mem hz
    rw [e1, e2]; exact h.nm y hy
  · obtain ⟨y, hy, e0, e1, e2, _⟩ := upS_mem hz
    obtain ⟨y', hy', e0', e1', e2', _⟩ := upS_mem hz'
    rw [e1, e2, e1', e2']
    exact h.rr y hy y' hy' (by rw [← e0, ← e0']; exact hne)
/-- A value less. -/
theorem KcAt.del {w w' : World} {C : Kc} (h : KcAt w C) {v : ByteArray} (e : Ext [C.m] w w') (hm : MapAt w' C.m Value.string psV (mdel C.of v)) : KcAt w' ⟨C.m, mdel C.of v⟩ :=
  ⟨hm, fun y hy => by
    have hy := mem_mdel hy
    have hn := h.nm y hy
    exact (h.set y hy).ext e (by simp; exact hn.1) (by simp; exact hn.2), fun y hy => h.nm y (mem_mdel hy), fun y hy z hz => h.rr y (mem_mdel hy) z (mem_mdel hz)⟩
theorem mdel_fp {C : Kc} {v : ByteArray} {b : Nat} (hb : b ∈ fpK ⟨C.m, mdel C.of v⟩) : b ∈ fpK C := by
  rcases mem_fpK.1 hb with rfl | ⟨z, hz, hzb⟩
  · exact mem_fpK.2 (.inl rfl)
  · exact mem_fpK.2 (.inr ⟨z, mem_mdel hz, hzb⟩)
/-- What but the columns stays the same. -/
structure Same7 (x x' : Px) : Prop where
  q : x'.q = x.q
  N : x'.N = x.N
  lp : x'.lp = x.lp
  lb : x'.lb = x.lb
  L : x'.L = x.L
  Lm : x'.Lm = x.Lm
  Bm : x'.Bm = x.Bm
  ls : x'.ls = x.ls
theorem Same7.refl (x : Px) : Same7 x x := ⟨rfl, rfl, rfl, rfl, rfl, rfl, rfl, rfl⟩
theorem Same7.setCol (x : Px) (k : ByteArray) (c : Option Kc) : Same7 x (x.setCol k c) := ⟨rfl, rfl, rfl, rfl, rfl, rfl, rfl, rfl⟩
theorem Same7.trans {x y z : Px} (h : Same7 x y) (g : Same7 y z) : Same7 x z := ⟨g.q.trans h.q, g.N.trans h.N, g.lp.trans h.lp, g.lb.trans h.lb, g.L.trans h.L, g.Lm.trans h.Lm, g.Bm.trans h.Bm, g.ls.trans h.ls⟩
/-- An index or nil. -/
def PxR (w : World) (q : Option Addr) (x : Px) : Prop := (q = none ∧ x.N = 0 ∧ (∀ k, x.cols k = none) ∧ x.ls = [] ∧ x.L.N = 0 ∧ x.L.Ok) ∨ ∃ F, q = some ⟨x.q, 0, none⟩ ∧ PxAt w F x
theorem PxR.ext0 {w w' : World} {q : Option Addr} {x : Px} (h : PxR w q x) (e : Ext [] w w') : PxR w' q x := by
  rcases h with h | ⟨F, h1, h2⟩
  · exact .inl h
  · exact .inr ⟨F, h1, h2.ext0 e⟩
theorem none_c {w : World} {q : Option Addr} {x : Px} (h : PxR w q x) {R : Ending → World → Prop}
    (k : ∀ p bw w' S, Ext [] w w' → w.heap.size ≤ p → w.heap.size ≤ bw → SetAt w' p bw S → S.N = x.N → (∀ i, S.mem i = false) → R (.returned (.pointer (some ⟨p, 0, none⟩))) w') :
    Calls Tryz.prog 52 #[.pointer q] w R := by
  apply posting_Index_none_nf
  have em : ∀ (N i : Nat), (⟨N, List.replicate ((N + 63) / 64) 0⟩ : SetV).mem i = false := fun N i => by
    simp [SetV.mem, List.getD_eq_getElem?_getD, List.getElem?_replicate]
    split <;> simp
  rcases h with ⟨rfl, h0, _⟩ | ⟨F, rfl, h⟩
  · refine sel_false rfl (New_ok (n := 0) (by omega) fun p bw w' e hp hb hs => ⟨_, _, rfl, k p bw w' _ e hp hb hs h0.symm (em _)⟩)
  · exact sel_true rfl (ptr_in ⟨_, cadd h.hdr rfl, New_ok h.small fun p bw w' e hp hb hs => ⟨_, _, rfl, k p bw w' _ e hp hb hs rfl (em _)⟩⟩)
/-- Where a key's values stand. -/
theorem values_c {w : World} {q : Option Addr} {x : Px} (h : PxR w q x) (key : ByteArray) {R : Ending → World → Prop} (k : R (.returned (.map ((x.cols key).map (·.m)))) w) :
    Calls Tryz.prog 40 #[.pointer q, .string key] w R := by
  apply posting_Index_values_nf
  rcases h with ⟨rfl, _, h0, _⟩ | ⟨F, rfl, h⟩
  · rw [h0] at k
    exact sel_true rfl k
  · obtain ⟨m, hm, hg⟩ := h.mp
    refine sel_false rfl (ptr_in ⟨_, cadd h.hdr rfl, ?_⟩)
    cases hc : x.cols key with
    | none =>
      rw [hc] at k
      exact ⟨_, w, (look_no kS um_sm zM hm (by rw [hg, hc]; rfl)).1, k⟩
    | some C =>
      rw [hc] at k
      exact ⟨_, w, (look_yes kS um_sm zM hm (by rw [hg, hc]; rfl)).1, k⟩
/-- A value's set. -/
theorem value_look {w : World} {q : Option Addr} {x : Px} (h : PxR w q x) (key v : ByteArray) :
    (Instr.lookup 92 (.map ((x.cols key).map (·.m))) (.string v) false).run Tryz.prog w = .ok (.pointer ((x.ps key v).map fun s => ⟨s.p, 0, none⟩)) w := by
  cases hc : x.cols key with
  | none =>
    have : x.ps key v = none := by unfold Px.ps; rw [hc]; rfl
    rw [this]
    exact (look_nil kS um_sp zP v).1
  | some C =>
    have hps : x.ps key v = mget C.of v := by unfold Px.ps; rw [hc]; rfl
    rw [hps]
    rcases h with ⟨rfl, _, h0, _⟩ | ⟨F, rfl, h⟩
    · rw [h0] at hc; cases hc
    · have hC := h.col key C hc
      cases hv : mget C.of v with
      | none => exact (look_no kS um_sp zP hC.mp hv).1
      | some s => exact (look_yes kS um_sp zP hC.mp hv).1
end Go.Proofs.YtpipenkaaodlgaaGreatDoor
