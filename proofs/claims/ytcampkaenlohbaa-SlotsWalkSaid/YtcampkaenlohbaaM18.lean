/- Slots: the steps that change a table, beside the document's. -/
import Derived.Test.YtcampkaenlohbaaM17
set_option linter.unusedVariables false
set_option linter.unusedSimpArgs false
namespace Go.Proofs.Ytcampkaenlohbaa
open Go Go.V Go.B

theorem wc_setd {rs : List Reg} (h : rs.length = 4) {i : Nat} {r q : Reg} (hr : rs[i]? = some r) (hq : q.p = r.p) : (wcells rs).take (4 + i * 2) ++ dt (q.s.most : Int) q.A q.n q.c ++ (wcells rs).drop (4 + i * 2 + 2) = wcells (rs.set i q) := by
  have hi : i < 4 := by have := (List.getElem?_eq_some_iff.1 hr).1; omega
  have := wc_set h hi q
  rw [hq, set_self (wc_p h hr)] at this
  exact this
theorem putV_most (s : TS) (name : ByteArray) (v : Int) : (putV s name v).1.most = s.most := by
  unfold putV; split <;> (try rfl); split <;> (try rfl); split <;> rfl
theorem setV_most (s : TS) (name : ByteArray) (v : Int) : (setV s name v).most = s.most := by
  unfold setV; split <;> rfl
theorem dropV_most (s : TS) (name : ByteArray) : (dropV s name).1.most = s.most := by
  unfold dropV; split <;> rfl
/-- What was made of table x and of the document's is put in. -/
theorem St.turn {w0 w w1 : World} {X Y : List Nat} {wb i : Nat} {tag : Nat → Nat} {rs : List Reg} {r : Reg} (h : St w0 X Y w wb tag rs i) (hi : i < 4) (hr : rs[i]? = some r) {f' : List Nat} {s' : TS} (ht : Tb w r.p f' s') (htt : ∀ b ∈ f', tag b = i) (hd : Dc w r.A r.n r.s r.ds) (hdd : r.n ≠ 0 → ∀ b ∈ ownF r.A, tag b = 6) (hm : s'.most = r.s.most)
    (e : Ext [] w w1) {A' : Option Addr} {n' : Nat} {ds' : List DR} (hd1 : Dc w1 A' n' s' ds') (hA : (A' = r.A ∧ n' = r.n) ∨ ∀ g ∈ ownF A', w.heap.size ≤ g) (c' : Nat) :
    ∃ w2, Sem.run Try.prog (Instr.storeAt 54 (.pointer (some (Addr.add (Addr.add ⟨wb, 0, none⟩ 4) (Int.toNat (i : Int) * 2)))) (.agg ⟨dt (r.s.most : Int) A' n' c'⟩)) w1.drew = .ok () w2 ∧ Ext [wb] w1 w2 ∧ ∃ tag', St w0 X Y w2 wb tag' (rs.set i ⟨r.p, f', s', A', n', c', ds'⟩) 4 := by
  have h1 := h.ext0 6 e
  obtain ⟨w2, hr2, b2, x2⟩ := put_d (show BlkT w1.drew wb (wcells rs) 57 from h1.blk) (wc_len h.len) hi (r.s.most : Int) A' n' c'
  refine ⟨w2, hr2, x2.undrew, _, h1.put hi ⟨r.p, f', s', A', n', c', ds'⟩ ?_ x2.undrew ⟨ht.ext0 e, fun b hb => ?_, hd1, fun hn b hb => ?_⟩⟩
  · rw [← wc_setd (q := ⟨r.p, f', s', A', n', c', ds'⟩) h.len hr rfl]
    show BlkT w2 wb (_ ++ dt (s'.most : Int) A' n' c' ++ _) _
    rw [hm]; exact b2
  · rw [newtag_old (ht.lt b hb)]; exact htt b hb
  · rcases hA with ⟨rfl, rfl⟩ | hA
    · rw [newtag_old (hd.blk_lt hn b hb)]; exact hdd hn b hb
    · exact newtag_new (hA b hb)
theorem Reg.same {rs : List Reg} {i : Nat} {r : Reg} (hr : rs[i]? = some r) : rs = rs.set i r := (set_self hr).symm
/-- How a step leaves the tables. -/
def Went (w0 : World) (X Y : List Nat) (wb : Nat) (rs : List Reg) (i : Nat) (keep : Prop) (w' : World) : Prop := ∃ tag' r', St w0 X Y w' wb tag' (rs.set i r') 4 ∧ (keep → ∀ r, rs[i]? = some r → r'.p = r.p)
theorem Went.of {w0 w w' : World} {X Y : List Nat} {wb i : Nat} {tag : Nat → Nat} {rs : List Reg} {keep : Prop} (h : St w0 X Y w wb tag rs 4) (hi : i < 4) (e : Ext [] w w') : Went w0 X Y wb rs i keep w' := by
  obtain ⟨r, hr⟩ := h.at hi
  exact ⟨newtag tag w.heap.size 7, r, by rw [set_self hr]; exact h.ext0 7 e, fun _ q hq => by rw [hr] at hq; cases hq; rfl⟩
set_option maxRecDepth 4000 in
theorem changes_c {w0 w : World} {X Y : List Nat} {wb i : Nat} {tag : Nat → Nat} {rs : List Reg} (h : St w0 X Y w wb tag rs 4) (o : Op) (hi : i < 4) {R : Ending → World → Prop} (k : ∀ w', Went w0 X Y wb rs i (o.kind ≠ 1) w' → R (.returned (.bool true)) w') :
    Calls Try.prog 33 #[.pointer (some ⟨wb, 0, none⟩), .agg ⟨o.cells⟩, .int .i64 (i : Int)] w R := by
  obtain ⟨r, hr⟩ := h.at hi
  apply berthlaw05_World_changes_nf
  intro w8 h8
  obtain ⟨b8, x8, z8⟩ := box_new (cs := o.cells) h8
  have h1 := h.ext0 7 x8
  have hri := h1.regs i r (by omega) hr
  have hb8 := b8.lt
  have t8 : newtag tag w.heap.size 7 w.heap.size = 7 := newtag_new (Nat.le_refl _)
  have stay : ∀ w', Ext [] w8 w' → R (.returned (.bool true)) w' := fun w' e => k w' (Went.of h1 hi e)
  have ii : (0 : Int) ≤ (i : Int) ∧ (i : Int) < 4 := by omega
  -- the table, turned by a call of the program's
  have hb8f : w.heap.size ∉ r.f := fun hm => by have := hri.tt _ hm; omega
  have hwbf : wb ∉ r.f := fun hm => by have := hri.tt _ hm; have := h1.hwb; omega
  have hwlt := h1.blk.lt
  have prog : ∀ {w' : World} {f' : List Nat} {s' : TS}, Tb w' r.p f' s' → Ext r.f w8 w' → Grow w8 r.f f' → St w0 X Y w' wb (newtag (newtag tag w.heap.size 7) w8.heap.size i) rs i ∧ (∀ b ∈ f', newtag (newtag tag w.heap.size 7) w8.heap.size i b = i) ∧ Dc w' r.A r.n r.s r.ds ∧ (r.n ≠ 0 → ∀ b ∈ ownF r.A, newtag (newtag tag w.heap.size 7) w8.heap.size i b = 6) := fun ht e g => by
    refine ⟨(h1.but i).ext e (fun b hb => .inr (.inl ⟨hri.tt b hb, hi⟩)), fun b hb => ?_, hri.d.extT e fun hn b hb hm => ?_, fun hn b hb => ?_⟩
    · rcases Nat.lt_or_ge b w8.heap.size with h3 | h3
      · rw [newtag_old h3]
        rcases g b hb with h4 | h4
        · exact hri.tt b h4
        · omega
      · exact newtag_new h3
    · have := hri.tt b hm
      have := hri.dd hn b hb
      omega
    · rw [newtag_old (hri.d.blk_lt hn b hb)]; exact hri.dd hn b hb
  refine ⟨_, cadd b8 rfl, sel_intro (fun hk => ?_) (fun hk1 => sel_intro (fun hk => ?_) (fun hk2 => sel_intro (fun hk => ?_) (fun hk3 => sel_intro (fun hk => ?_) (fun hk4 => stay w8 (Ext.refl _ _)))))⟩
  · -- New
    refine ⟨_, cadd b8 rfl, New_c o.to (fun hbad => ?_) (fun p f w14 hm0 hm1 e14 q14 hf => ?_)⟩
    · refine ⟨_, _, rfl, _, cadd b8 rfl, refNew_c o.to fun w20 e20 => ?_⟩
      have hv : newV o.to = (0, 50) := by unfold newV; rw [if_pos hbad]
      rw [hv]
      refine ⟨_, _, _, _, _, rfl, fun w21 h21 => ?_⟩
      obtain ⟨b21, x21, z21⟩ := box_new (cs := [.int .i64 0, .slice none 0 0]) h21
      obtain ⟨w22, hr22, b22, x22⟩ := dt_box (w0 := w) b21 rfl 0 none 0 0
      exact ⟨w22, hr22, sel_false rfl (sel_false rfl (sel_false rfl (stay w22 ((e20.trans x21).trans' x22 (fun b hb => .inr (by have := e20.size; simp at hb; omega))))))⟩
    · refine ⟨_, _, rfl, _, cadd (b8.ext0 e14) rfl, refNew_c o.to fun w20 e20 => ?_⟩
      have hv : newV o.to = (o.to, 0) := by unfold newV; rw [if_neg (by omega)]
      rw [hv]
      refine ⟨_, _, _, _, _, rfl, fun w21 h21 => ?_⟩
      obtain ⟨b21, x21, z21⟩ := box_new (cs := [.int .i64 0, .slice none 0 0]) h21
      obtain ⟨w22, hr22, b22, x22⟩ := dt_box (w0 := w) b21 rfl o.to none 0 0
      have hs14 := e14.size
      have hs20 := e20.size
      have e22 : Ext [] w14 w22 := (e20.trans x21).trans' x22 (fun b hb => .inr (by simp at hb; omega))
      have st14 := (h1.but i).ext0 i e14
      have st22 := st14.ext0 7 e22
      have hwb20 : w20.heap.size ∉ [wb] := by simp; omega
      obtain ⟨w29, hr29, b29, x29⟩ := put_p (show BlkT w22.drew wb (wcells rs) 57 from st22.blk) (wc_len h.len) hi (some p)
      obtain ⟨w30, hr30, b30, x30⟩ := put_d b29 (by rw [List.length_set]; exact wc_len h.len) hi o.to none 0 0
      refine ⟨w22, hr22, sel_false (by simp) (sel_false (by rfl) (sel_true rfl ⟨fun w' => Ext [wb] w22 w', (Ext.refl _ _).drew, _, _, _, _, cellsC_S (S := fun w' => Ext [wb] w22 w') (vs := dt o.to none 0 0) (fun w' e => cadd0 (b22.ext e hwb20)), ptr_in (when_dec ii (ptr_in ⟨w29, hr29, x29.undrew, when_dec ii ⟨w30, hr30, x29.undrew.trans x30, k w30 ?_⟩⟩))⟩))⟩
      have hmost : ((o.to.toNat : Nat) : Int) = o.to := by omega
      have hq := At.weaken (B' := 0) q14 (Nat.zero_le _)
      refine ⟨_, ⟨some p, f, ⟨o.to.toNat, [], [], 0⟩, none, 0, 0, []⟩, st22.put hi _ ?_ (x29.undrew.trans x30) ⟨(show Tb w14 (some p) f ⟨o.to.toNat, [], [], 0⟩ from hq).ext0 e22, fun b hb => ?_, ⟨Cells.nil _ _, rfl, ⟨At.inv hq, by simp [drs, drsF]⟩⟩, fun hn => absurd rfl hn⟩, fun hkeep => ?_⟩
      · rw [← wc_set h.len hi]
        show BlkT w30 wb (_ ++ dt ((o.to.toNat : Nat) : Int) none 0 0 ++ _) _
        rw [hmost]; exact b30
      · rw [newtag_old (hq.lt b hb)]
        exact newtag_new (hf b hb)
      · exact absurd (by simpa using hk) hkeep
  · -- Put
    refine ⟨fun w' => Ext r.f w8 w', (Ext.refl _ _).drew, ptr_in (when_dec ii ⟨r.p.map fun b => ⟨b, 0, none⟩, fun w' e => (by
        have := h1.read_p hr
        exact cell_ext e this (by rw [add_block, add_block]; exact hwbf)), _, fun w' e => cadd (b8.ext e hb8f) rfl, _, fun w' e => cadd (b8.ext e hb8f) rfl, ?_⟩)⟩
    cases hp : r.p with
    | none =>
      refine nil_Put ⟨_, _, rfl, (Ext.refl _ _).drew, ptr_in (when_dec ii ⟨none, ?_, sel_true rfl (sel_true rfl (stay _ (Ext.refl _ _).drew))⟩)⟩
      have := h1.read_p hr
      rw [hp] at this; exact this
    | some p =>
      have hta : At w8.drew 0 p r.f r.s := by
        have := hri.t
        rw [hp] at this
        exact At.ext0 this (Ext.refl _ _).drew
      refine Put_c hta o.name o.v fun w40 f' q40 e40 g40 => ⟨_, _, rfl, e40.undrew, ?_⟩
      have e40 := e40.undrew
      obtain ⟨st, htt, hd, hdd⟩ := prog (w' := w40) (f' := f') (s' := (putV r.s o.name o.v).1) (by rw [hp]; exact q40) e40 g40
      refine ptr_in (when_dec ii ⟨some ⟨p, 0, none⟩, (by have := st.read_p hr; rw [hp] at this; exact this), sel_false rfl ?_⟩)
      have b40 := b8.ext e40 hb8f
      refine ⟨fun m s f w' => ∃ bq, m = some ⟨bq, 0, none⟩ ∧ s = (putV r.s o.name o.v).2.1 ∧ f = (putV r.s o.name o.v).2.2 ∧ Ext [] w40 w' ∧ w40.heap.size ≤ bq ∧ ∃ A' n' c' ds', BlkT w' bq (dt (r.s.most : Int) A' n' c') 54 ∧ Dc w' A' n' (putV r.s o.name o.v).1 ds' ∧ ((A' = r.A ∧ n' = r.n) ∨ ∀ g ∈ ownF A', w40.heap.size ≤ g), ⟨fun w' => Ext [] w40 w', (Ext.refl _ _).drew, ptr_in (when_dec ii ⟨_, _, _, _, cellsC_S (S := fun w' => Ext [] w40 w') (fun w' e => (st.ext0 6 e).read_d hr), _, fun w' e => cadd (b40.ext0 e) rfl, _, fun w' e => cadd (b40.ext0 e) rfl, ?_, ?_, trivial⟩)⟩, ?_⟩
      · refine refPut_c (hd.ext0 (Ext.refl [] w40).drew) r.c o.name o.v (At.inv q40) fun A' n' c' ds' w56 e56 hd56 hA => ⟨_, _, _, _, _, _, rfl, e56.undrew, fun w57 h57 => ?_⟩
        have e56 := e56.undrew
        obtain ⟨b57, x57, z57⟩ := box_new (cs := [.int .i64 0, .slice none 0 0]) h57
        obtain ⟨w58, hr58, b58, x58⟩ := dt_box (w0 := w) b57 rfl (r.s.most : Int) A' n' c'
        have hs := e56.size
        have e58 : Ext [] w40 w58 := (e56.trans x57).trans' x58 (fun b hb => .inr (by simp at hb; omega))
        exact ⟨e56.trans x57, w58, hr58, e58, _, rfl, rfl, rfl, e58, hs, A', n', c', ds', b58, (hd56.ext0 x57).extT x58 (fun hn b hb hm => by have := hd56.blk_lt hn b hb; simp at hm; omega), hA⟩
      · intro w59 h59
        obtain ⟨b59, x59', z59⟩ := box_new (cs := [.int .i64 0, .slice none 0 0]) h59
        have x59 : Ext [] w40 w59 := x59'.undrew
        have z59 : w59.heap.size = w40.heap.size + 1 := z59
        have b59 : BlkT w59 w40.heap.size [.int .i64 0, .slice none 0 0] 54 := b59
        refine ⟨x59, refPut_c (hd.ext0 x59) r.c o.name o.v (At.inv q40) fun A' n' c' ds' w65 e65 hd65 hA => ⟨_, _, _, _, _, _, rfl, x59.trans e65, ?_⟩⟩
        obtain ⟨w66, hr66, b66, x66⟩ := dt_box (w0 := w) (b59.ext0 e65) rfl (r.s.most : Int) A' n' c'
        have e66 : Ext [] w40 w66 := (x59.trans e65).trans' x66 (fun b hb => .inr (by simp at hb; omega))
        refine ⟨w66, hr66, e66, _, rfl, rfl, rfl, e66, Nat.le_refl _, A', n', c', ds', b66, hd65.extT x66 (fun hn b hb hm => ?_), ?_⟩
        · simp at hm
          subst hm
          rcases hA with ⟨rfl, rfl⟩ | hA
          · have := hd.blk_lt hn _ hb; omega
          · have := hA _ hb; omega
        · exact hA.imp id fun hA g hg => by have := hA g hg; omega
      · rintro _ _ _ _ w71 ⟨bq, rfl, rfl, rfl, e71, hbq, A', n', c', ds', b71, hd71, hA⟩
        obtain ⟨w78, hr78, x78, tag', st78⟩ := st.turn hi hr (f' := f') (s' := (putV r.s o.name o.v).1) (by rw [hp]; exact q40) htt hd hdd (putV_most _ _ _) e71 hd71 hA c'
        refine ⟨fun w' => Ext [wb] w71 w', (Ext.refl _ _).drew, ptr_in ⟨_, _, _, _, cellsC_S (S := fun w' => Ext [wb] w71 w') (vs := dt (r.s.most : Int) A' n' c') (fun w' e => cadd0 (b71.ext e (by have := st.blk.lt; simp; omega))), ptr_in (when_dec ii ⟨w78, hr78, x78, sel_true (by simp) ?_⟩)⟩⟩
        have := k w78 ⟨tag', _, st78, fun _ q hq => by rw [hr] at hq; cases hq; rfl⟩
        rw [show ((putV r.s o.name o.v).2.2 == (putV r.s o.name o.v).2.2) = true by simp]
        exact this
  · -- Set
    refine ⟨fun w' => Ext r.f w8 w', (Ext.refl _ _).drew, ptr_in (when_dec ii ⟨r.p.map fun b => ⟨b, 0, none⟩, fun w' e => (by
        have := h1.read_p hr
        exact cell_ext e this (by rw [add_block, add_block]; exact hwbf)), _, fun w' e => cadd (b8.ext e hb8f) rfl, _, fun w' e => cadd (b8.ext e hb8f) rfl, ?_⟩)⟩
    cases hp : r.p with
    | none =>
      refine nil_Set ⟨_, rfl, (Ext.refl _ _).drew, ptr_in (when_dec ii ⟨none, ?_, sel_true rfl (stay _ (Ext.refl _ _).drew)⟩)⟩
      have := h1.read_p hr
      rw [hp] at this; exact this
    | some p =>
      have hta : At w8.drew 0 p r.f r.s := by
        have := hri.t
        rw [hp] at this
        exact At.ext0 this (Ext.refl _ _).drew
      refine Set_c hta o.name o.v fun w40 q40 e40 => ⟨_, rfl, e40.undrew, ?_⟩
      have e40 := e40.undrew
      obtain ⟨st, htt, hd, hdd⟩ := prog (w' := w40) (f' := r.f) (s' := setV r.s o.name o.v) (by rw [hp]; exact q40) e40 (Grow.refl _ _)
      refine ptr_in (when_dec ii ⟨some ⟨p, 0, none⟩, (by have := st.read_p hr; rw [hp] at this; exact this), sel_false rfl ?_⟩)
      have b40 := b8.ext e40 hb8f
      refine ⟨fun m f w' => ∃ bq, m = some ⟨bq, 0, none⟩ ∧ f = (lookV r.s o.name).2 ∧ Ext [] w40 w' ∧ w40.heap.size ≤ bq ∧ ∃ A' n' c' ds', BlkT w' bq (dt (r.s.most : Int) A' n' c') 54 ∧ Dc w' A' n' (setV r.s o.name o.v) ds' ∧ ((A' = r.A ∧ n' = r.n) ∨ ∀ g ∈ ownF A', w40.heap.size ≤ g), ⟨fun w' => Ext [] w40 w', (Ext.refl _ _).drew, ptr_in (when_dec ii ⟨_, _, _, _, cellsC_S (S := fun w' => Ext [] w40 w') (fun w' e => (st.ext0 6 e).read_d hr), _, fun w' e => cadd (b40.ext0 e) rfl, _, fun w' e => cadd (b40.ext0 e) rfl, ?_, ?_, trivial⟩)⟩, ?_⟩
      · refine refSet_c (hd.ext0 (Ext.refl [] w40).drew) _ r.c o.name o.v fun A' n' c' ds' w56 e56 hd56 hA => ⟨_, _, _, _, _, rfl, e56.undrew, fun w57 h57 => ?_⟩
        have e56 := e56.undrew
        obtain ⟨b57, x57, z57⟩ := box_new (cs := [.int .i64 0, .slice none 0 0]) h57
        obtain ⟨w58, hr58, b58, x58⟩ := dt_box (w0 := w) b57 rfl (r.s.most : Int) A' n' c'
        have hs := e56.size
        have e58 : Ext [] w40 w58 := (e56.trans x57).trans' x58 (fun b hb => .inr (by simp at hb; omega))
        exact ⟨e56.trans x57, w58, hr58, e58, _, rfl, rfl, e58, hs, A', n', c', ds', b58, (hd56.ext0 x57).extT x58 (fun hn b hb hm => by have := hd56.blk_lt hn b hb; simp at hm; omega), hA⟩
      · intro w59 h59
        obtain ⟨b59, x59', z59⟩ := box_new (cs := [.int .i64 0, .slice none 0 0]) h59
        have x59 : Ext [] w40 w59 := x59'.undrew
        have z59 : w59.heap.size = w40.heap.size + 1 := z59
        have b59 : BlkT w59 w40.heap.size [.int .i64 0, .slice none 0 0] 54 := b59
        refine ⟨x59, refSet_c (hd.ext0 x59) _ r.c o.name o.v fun A' n' c' ds' w65 e65 hd65 hA => ⟨_, _, _, _, _, rfl, x59.trans e65, ?_⟩⟩
        obtain ⟨w66, hr66, b66, x66⟩ := dt_box (w0 := w) (b59.ext0 e65) rfl (r.s.most : Int) A' n' c'
        have e66 : Ext [] w40 w66 := (x59.trans e65).trans' x66 (fun b hb => .inr (by simp at hb; omega))
        refine ⟨w66, hr66, e66, _, rfl, rfl, e66, Nat.le_refl _, A', n', c', ds', b66, hd65.extT x66 (fun hn b hb hm => ?_), ?_⟩
        · simp at hm
          subst hm
          rcases hA with ⟨rfl, rfl⟩ | hA
          · have := hd.blk_lt hn _ hb; omega
          · have := hA _ hb; omega
        · exact hA.imp id fun hA g hg => by have := hA g hg; omega
      · rintro _ _ _ w71 ⟨bq, rfl, rfl, e71, hbq, A', n', c', ds', b71, hd71, hA⟩
        obtain ⟨w78, hr78, x78, tag', st78⟩ := st.turn hi hr (f' := r.f) (s' := setV r.s o.name o.v) (by rw [hp]; exact q40) htt hd hdd (setV_most _ _ _) e71 hd71 hA c'
        refine ⟨fun w' => Ext [wb] w71 w', (Ext.refl _ _).drew, ptr_in ⟨_, _, _, _, cellsC_S (S := fun w' => Ext [wb] w71 w') (vs := dt (r.s.most : Int) A' n' c') (fun w' e => cadd0 (b71.ext e (by have := st.blk.lt; simp; omega))), ptr_in (when_dec ii ⟨w78, hr78, x78, ?_⟩)⟩⟩
        have := k w78 ⟨tag', _, st78, fun _ q hq => by rw [hr] at hq; cases hq; rfl⟩
        rw [show ((lookV r.s o.name).2 == (lookV r.s o.name).2) = true by simp]
        exact this
  · -- Drop
    refine ⟨fun w' => Ext r.f w8 w', (Ext.refl _ _).drew, ptr_in (when_dec ii ⟨r.p.map fun b => ⟨b, 0, none⟩, fun w' e => (by
        have := h1.read_p hr
        exact cell_ext e this (by rw [add_block, add_block]; exact hwbf)), _, fun w' e => cadd (b8.ext e hb8f) rfl, ?_⟩)⟩
    cases hp : r.p with
    | none =>
      refine nil_Drop ⟨_, _, rfl, (Ext.refl _ _).drew, ptr_in (when_dec ii ⟨none, ?_, sel_true rfl (sel_true rfl (stay _ (Ext.refl _ _).drew))⟩)⟩
      have := h1.read_p hr
      rw [hp] at this; exact this
    | some p =>
      have hta : At w8.drew 0 p r.f r.s := by
        have := hri.t
        rw [hp] at this
        exact At.ext0 this (Ext.refl _ _).drew
      refine Drop_c hta o.name fun w40 q40 e40 => ⟨_, _, rfl, e40.undrew, ?_⟩
      have e40 := e40.undrew
      obtain ⟨st, htt, hd, hdd⟩ := prog (w' := w40) (f' := r.f) (s' := (dropV r.s o.name).1) (by rw [hp]; exact q40) e40 (Grow.refl _ _)
      refine ptr_in (when_dec ii ⟨some ⟨p, 0, none⟩, (by have := st.read_p hr; rw [hp] at this; exact this), sel_false rfl ?_⟩)
      have b40 := b8.ext e40 hb8f
      refine ⟨fun m s f w' => ∃ bq, m = some ⟨bq, 0, none⟩ ∧ s = (dropV r.s o.name).2.1 ∧ f = (dropV r.s o.name).2.2 ∧ Ext [] w40 w' ∧ w40.heap.size ≤ bq ∧ ∃ A' n' c' ds', BlkT w' bq (dt (r.s.most : Int) A' n' c') 54 ∧ Dc w' A' n' (dropV r.s o.name).1 ds' ∧ ((A' = r.A ∧ n' = r.n) ∨ ∀ g ∈ ownF A', w40.heap.size ≤ g), ⟨fun w' => Ext [] w40 w', (Ext.refl _ _).drew, ptr_in (when_dec ii ⟨_, _, _, _, cellsC_S (S := fun w' => Ext [] w40 w') (fun w' e => (st.ext0 6 e).read_d hr), _, fun w' e => cadd (b40.ext0 e) rfl, ?_, ?_, trivial⟩)⟩, ?_⟩
      · refine refDrop_c (hd.ext0 (Ext.refl [] w40).drew) _ r.c o.name (At.inv q40) fun A' n' c' ds' w56 e56 hd56 hA => ⟨_, _, _, _, _, _, rfl, e56.undrew, fun w57 h57 => ?_⟩
        have e56 := e56.undrew
        obtain ⟨b57, x57, z57⟩ := box_new (cs := [.int .i64 0, .slice none 0 0]) h57
        obtain ⟨w58, hr58, b58, x58⟩ := dt_box (w0 := w) b57 rfl (r.s.most : Int) A' n' c'
        have hs := e56.size
        have e58 : Ext [] w40 w58 := (e56.trans x57).trans' x58 (fun b hb => .inr (by simp at hb; omega))
        exact ⟨e56.trans x57, w58, hr58, e58, _, rfl, rfl, rfl, e58, hs, A', n', c', ds', b58, (hd56.ext0 x57).extT x58 (fun hn b hb hm => by have := hd56.blk_lt hn b hb; simp at hm; omega), hA⟩
      · intro w59 h59
        obtain ⟨b59, x59', z59⟩ := box_new (cs := [.int .i64 0, .slice none 0 0]) h59
        have x59 : Ext [] w40 w59 := x59'.undrew
        have z59 : w59.heap.size = w40.heap.size + 1 := z59
        have b59 : BlkT w59 w40.heap.size [.int .i64 0, .slice none 0 0] 54 := b59
        refine ⟨x59, refDrop_c (hd.ext0 x59) _ r.c o.name (At.inv q40) fun A' n' c' ds' w65 e65 hd65 hA => ⟨_, _, _, _, _, _, rfl, x59.trans e65, ?_⟩⟩
        obtain ⟨w66, hr66, b66, x66⟩ := dt_box (w0 := w) (b59.ext0 e65) rfl (r.s.most : Int) A' n' c'
        have e66 : Ext [] w40 w66 := (x59.trans e65).trans' x66 (fun b hb => .inr (by simp at hb; omega))
        refine ⟨w66, hr66, e66, _, rfl, rfl, rfl, e66, Nat.le_refl _, A', n', c', ds', b66, hd65.extT x66 (fun hn b hb hm => ?_), ?_⟩
        · simp at hm
          subst hm
          rcases hA with ⟨rfl, rfl⟩ | hA
          · have := hd.blk_lt hn _ hb; omega
          · have := hA _ hb; omega
        · exact hA.imp id fun hA g hg => by have := hA g hg; omega
      · rintro _ _ _ _ w71 ⟨bq, rfl, rfl, rfl, e71, hbq, A', n', c', ds', b71, hd71, hA⟩
        obtain ⟨w78, hr78, x78, tag', st78⟩ := st.turn hi hr (f' := r.f) (s' := (dropV r.s o.name).1) (by rw [hp]; exact q40) htt hd hdd (dropV_most _ _) e71 hd71 hA c'
        refine ⟨fun w' => Ext [wb] w71 w', (Ext.refl _ _).drew, ptr_in ⟨_, _, _, _, cellsC_S (S := fun w' => Ext [wb] w71 w') (vs := dt (r.s.most : Int) A' n' c') (fun w' e => cadd0 (b71.ext e (by have := st.blk.lt; simp; omega))), ptr_in (when_dec ii ⟨w78, hr78, x78, sel_true (by simp) ?_⟩)⟩⟩
        have := k w78 ⟨tag', _, st78, fun _ q hq => by rw [hr] at hq; cases hq; rfl⟩
        rw [show ((dropV r.s o.name).2.2 == (dropV r.s o.name).2.2) = true by simp]
        exact this
end Go.Proofs.Ytcampkaenlohbaa
