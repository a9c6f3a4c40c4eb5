/- Rows of texts: one element more, in place or in a new block; lists of texts held in a list; numerals. The world of four: the keys that are answered are lists of their own, spare room too. The world of four: a question's answers are sets of their own. The world of four: each answer of a question has memory of its own. OrderedMemory: numbers turned about and back. -/
import Derived.Test.YtjlkdadafddodaaGreatDoorEC
import Derived.Test.YtjlkdadafddodaaGreatDoorSi
import Derived.ArgAppend
set_option linter.unusedVariables false
set_option linter.unusedSimpArgs false
namespace Go.Proofs.YtjlkdadafddodaaGreatDoor
open Go Go.V Go.B

theorem dec_len (u : Nat) : (Go.Lib.decDigits u).length ≤ u / 10 + 1 := by
  induction u using Nat.strongRecOn with
  | _ u ih =>
    rw [Go.Lib.decDigits]
    split
    · simp
    · have := ih (u / 10) (by omega)
      rw [List.length_append, List.length_singleton]
      omega
theorem tab_ext {F : List Nat} {w w' : World} {P : Program} {name : String} {k : IntKind} {zs : List Int} {g : Nat} (h : Go.Lib.TabIs P w name k zs) (hg : P.globalNamed name = some g) (e : Ext F w w') (hF : g ∉ F) : Go.Lib.TabIs P w' name k zs := by
  unfold Go.Lib.TabIs World.var? at h ⊢
  rw [hg] at h ⊢
  simp only [Option.bind_some] at h ⊢
  have hl : g < w.heap.size := by
    rcases Nat.lt_or_ge g w.heap.size with h1 | h1
    · exact h1
    · rw [Array.getElem?_eq_none h1] at h; cases h
  rw [e.same g hl hF]; exact h
/-- The powers of ten stand. -/
def Pow (w : World) : Prop := Go.Lib.TabIs Tryz.prog w "internal/strconv.uint64pow10" .u64 Go.Lib.pow10Tab
theorem pow_at : ∃ g, Tryz.prog.globalNamed "internal/strconv.uint64pow10" = some g := Option.isSome_iff_exists.1 (by kernel_rfl)
theorem Pow.ext0 {w w' : World} (h : Pow w) (e : Ext [] w w') : Pow w' := by
  obtain ⟨g, hg⟩ := pow_at
  exact tab_ext h hg e (by simp)
theorem Itoa_c {w : World} (hp : Pow w) (i : Nat) (hi : i < 1000000) {R : Ending → World → Prop} (k : ∀ w', Ext [] w w' → R (.returned (.string ⟨(Go.Lib.itoa (i : Int)).toArray⟩)) w') : Calls Tryz.prog 34 #[.int .i64 (i : Int)] w R := by
  refine (Any.strconv_Itoa Tryz.lays171 (i : Int) (by omega) (by omega) w hp).mono fun e w' h => ?_
  obtain ⟨rfl, n, os, rfl⟩ := h
  refine k _ ⟨rfl, rfl, rfl, ?_, fun b hb _ => ?_⟩
  · rw [Go.Sort.size_grow]
    exact Nat.le_add_right _ _
  · show ((w.heap ++ os)[b]?) = _
    rw [Array.getElem?_append_left hb]
theorem OwnL_step {α : Type} {L : Lay α} {P : Program} {t ty e : TypeId} {z : Value} {bytes : Nat} (ht : P.underlying t = some (.slice e)) (hi : (P.info? e).map (fun i => (i.zero, i.size, i.bytes)) = some (some z, L.sz, bytes)) (hz : z.cells.size = L.sz) (hb0 : 0 < bytes)
    {w : World} {B n c : Nat} {A : Option Addr} {xs : List α} (own : OwnL L w B e A n c xs) {x : α} {q : Nat} {T : TypeId} (h1 : BlkT w q (L.enc x) T) (hB : B ≤ w.heap.size) (hn : (n + 1) * bytes ≤ 140737488355328) :
    ∃ A' c' w2, (Builtin.append_ #[t, t] ty #[.slice A n c, .slice (some ⟨q, 0, none⟩) 1 1]).run P w = .ok (.slice A' (n + 1) c') w2 ∧ OwnL L w2 B e A' (n + 1) c' (xs ++ [x]) ∧
      ((A' = A ∧ c' = c ∧ Ext (ownF A) w w2 ∧ OwnL L w2 B e A n c xs) ∨ ((∀ b ∈ ownF A', w.heap.size ≤ b) ∧ Ext [] w w2)) := by
  have hlen := own.len
  have hflat : (L.flat xs).length = n * L.sz := by rw [L.flat_len, hlen]
  have own' := own
  rcases own'.2 with ⟨hv, h0⟩ | ⟨g, cap, cur, hv, hb, hh, hcap, hm, hsz, htk⟩
  · injection hv with hA hn' hc
    subst hA hc
    subst h0
    obtain rfl : xs = [] := List.eq_nil_of_length_eq_zero hlen
    obtain ⟨A2, c2, w2, hr, ho, he, hat⟩ := (OwnL.nil (L := L) w w.heap.size e).more ht hi hz hb0 h1 (Nat.le_refl _) hn
    exact ⟨A2, c2, w2, hr, ho.weaken hB, .inr ⟨fun b hb => (ho.base b hb).1, he⟩⟩
  · injection hv with hA hn' hc
    subst hA hc
    have hblk : BlkT w g cur.toList e := hh
    have hcl : cur.toList.length = c * L.sz := by simpa using hsz
    by_cases hfit : n + 1 ≤ c
    · have hlt : (n + 1) * L.sz ≤ c * L.sz := Nat.mul_le_mul_right _ hfit
      have hs1 : (n + 1) * L.sz = n * L.sz + L.sz := by rw [Nat.succ_mul]
      obtain ⟨w2, hr, b2, x2⟩ := appRoom (P := P) (t := t) (ty := ty) (e := e) (sz := L.sz) (n := n) (c := c) (m := 1) (cy := 1) (Y := some ⟨q, 0, none⟩) (ys := L.enc x) ht (by
        cases hq : P.info? e with
        | none => rw [hq] at hi; simp at hi
        | some inf => rw [hq] at hi; simp at hi ⊢; exact hi.2.1) hblk (by rw [L.len, Nat.one_mul]) (Cells.of_blk h1.blk) (L.one x) L.pos hfit (by rw [L.len]; omega)
      have ow : OwnL L w2 B e (some ⟨g, 0, none⟩) (n + 1) c (xs ++ [x]) := by
        refine own_of b2 hb hfit hm (by simp [L.len]; omega) ?_
        rw [L.flat_app]
        have e1 : (cur.toList.take (n * L.sz)) = L.flat xs := htk
        rw [e1, List.append_assoc, List.take_append, hflat, List.take_of_length_le (by rw [hflat]; omega), List.take_append, L.len]
        have e2 : (n + 1) * L.sz - n * L.sz = L.sz := by omega
        rw [e2, List.take_of_length_le (by rw [L.len]; exact Nat.le_refl _), Nat.sub_self, List.take_zero, List.append_nil, L.flat_cons, L.flat_nil, List.append_nil]
      have hpre := ow.take (n := n) (by omega) (by omega)
      rw [List.take_append, List.take_of_length_le (by omega), show n - xs.length = 0 by omega, List.take_zero, List.append_nil] at hpre
      exact ⟨_, c, w2, hr, ow, .inl ⟨rfl, rfl, x2, hpre⟩⟩
    · obtain ⟨i, hi1, hz0, hz1, hz2⟩ := info_parts hi
      have hnm : n + 1 ≤ 140737488355328 := Nat.le_trans (Nat.le_mul_of_pos_right _ hb0) hn
      obtain ⟨v', w2, hr2, ho2, hg2⟩ := run_append_arg_grows (P := P) (w := w) t ty e i z L.sz bytes ht hi1 hz0 hz1 hz2 hz L.pos ⟨g, 0, none⟩ n c (L.flat xs) hflat
        (fun j u hj => by
          obtain ⟨ad, ha, hc⟩ := own.cells j u hj
          cases ha; exact hc)
        ⟨q, 0, none⟩ 1 1 (L.enc x) (by rw [L.len, Nat.one_mul]) (fun j u hj => by
          obtain ⟨ad, ha, hc⟩ := (Cells.of_blk h1.blk) j u hj
          cases ha; exact hc) (by omega) (by simp only [maxLen]; omega) hn
      obtain ⟨A2, c2, rfl⟩ : ∃ A2 c2, v' = .slice A2 (n + 1) c2 := by
        rcases ho2.2 with ⟨rfl, h0⟩ | ⟨g, cap, cur, rfl, _⟩
        · omega
        · exact ⟨_, _, rfl⟩
      have ow : OwnL L w2 w.heap.size e A2 (n + 1) c2 (xs ++ [x]) := by
        unfold OwnL
        rw [L.flat_app, show L.flat [x] = L.enc x from by rw [L.flat_cons, L.flat_nil, List.append_nil]]
        exact ho2
      exact ⟨A2, c2, w2, hr2, ow.weaken hB, .inr ⟨fun b hb => (ow.base b hb).1, Ext.of_grown (A := none) (n := 0) (c := 0) hg2⟩⟩
abbrev Ent := Option Addr × Nat × Nat
def EL : Lay Ent := ⟨fun e => [.slice e.1 e.2.1 e.2.2], 1, fun _ => rfl, fun x v hv => by simp at hv; subst hv; rfl, by omega⟩
theorem u79 : Tryz.prog.underlying 76 = some (.slice 33) := by kernel_rfl
theorem i68 : (Tryz.prog.info? 33).map (fun i => (i.zero, i.size, i.bytes)) = some (some (.slice none 0 0), 1, 24) := by kernel_rfl
/-- Lists of texts es, held in a list; the list want beside them. N: all their blocks are new. -/
structure LS (N : Nat) (w : World) (Al : Option Addr) (nl cl : Nat) (es : List Ent) (Aw : Option Addr) (nw cw : Nat) (ws : List ByteArray) (Q : Nat → List ByteArray → Prop) : Prop where
  rows : OwnL EL w N 33 Al nl cl es
  fam : ∀ (k : Nat) (e : Ent), es[k]? = some e → ∃ ys, OwnL SL w N 9 e.1 e.2.1 e.2.2 ys ∧ Q k ys
  want : OwnL SL w N 9 Aw nw cw ws
  d1 : ∀ (k k' : Nat) (e e' : Ent), k ≠ k' → es[k]? = some e → es[k']? = some e' → ∀ b ∈ ownF e.1, b ∉ ownF e'.1
  d2 : ∀ (k : Nat) (e : Ent), es[k]? = some e → ∀ b ∈ ownF e.1, b ∉ ownF Al ∧ b ∉ ownF Aw
  d3 : ∀ b ∈ ownF Al, b ∉ ownF Aw
section
variable {N nl cl nw cw : Nat} {w w' : World} {Al Aw : Option Addr} {es : List Ent} {ws : List ByteArray} {Q Q' : Nat → List ByteArray → Prop}
theorem LS.ext0 (h : LS N w Al nl cl es Aw nw cw ws Q) (e : Ext [] w w') : LS N w' Al nl cl es Aw nw cw ws Q :=
  ⟨h.rows.ext0 e, fun k x hk => by obtain ⟨ys, a, b⟩ := h.fam k x hk; exact ⟨ys, a.ext0 e, b⟩, h.want.ext0 e, h.d1, h.d2, h.d3⟩
theorem LS.weak (h : LS N w Al nl cl es Aw nw cw ws Q) (hq : ∀ k ys, Q k ys → Q' k ys) : LS N w Al nl cl es Aw nw cw ws Q' :=
  ⟨h.rows, fun k x hk => by obtain ⟨ys, a, b⟩ := h.fam k x hk; exact ⟨ys, a, hq k ys b⟩, h.want, h.d1, h.d2, h.d3⟩
/-- The list a alone is turned; what else is turned is new since M. -/
theorem LS.touch (h : LS N w Al nl cl es Aw nw cw ws Q) {a : Nat} {ea : Ent} (ha : es[a]? = some ea) {F : List Nat} (e : Ext F w w') (hF : ∀ b ∈ F, b ∈ ownF ea.1 ∨ w.heap.size ≤ b) {ys : List ByteArray} (ho : OwnL SL w' N 9 ea.1 ea.2.1 ea.2.2 ys) (hy : Q' a ys) (hq : ∀ k ys, k ≠ a → Q k ys → Q' k ys) : LS N w' Al nl cl es Aw nw cw ws Q' := by
  have hr := h.rows.base
  have hw := h.want.base
  refine ⟨h.rows.ext e fun b hb hm => ?_, fun k x hk => ?_, h.want.ext e fun b hb hm => ?_, h.d1, h.d2, h.d3⟩
  · rcases hF b hm with h1 | h1
    · exact (h.d2 a ea ha b h1).1 hb
    · have := hr b hb; omega
  · by_cases hka : k = a
    · subst hka
      rw [ha] at hk; cases hk
      exact ⟨ys, ho, hy⟩
    · obtain ⟨zs, o, q⟩ := h.fam k x hk
      have ob := o.base
      refine ⟨zs, o.ext e fun b hb hm => ?_, hq k zs hka q⟩
      rcases hF b hm with h1 | h1
      · exact h.d1 k a x ea hka hk ha b hb h1
      · have := ob b hb; omega
  · rcases hF b hm with h1 | h1
    · exact (h.d2 a ea ha b h1).2 hb
    · have := hw b hb; omega
/-- One list more. -/
theorem LS.more (h : LS N w Al nl cl es Aw nw cw ws Q) {w1 : World} {A : Option Addr} {n c : Nat} {ys : List ByteArray} (e1 : Ext [] w w1) (ho : OwnL SL w1 w.heap.size 9 A n c ys) (hy : Q es.length ys) (hN : N ≤ w.heap.size) (hsmall : nl < 65536) {w2 : World} (h2 : w2 = w1.alloc (.cells #[.slice A n c] 33)) :
    ∃ A' c' w3, Sem.run Tryz.prog (Builtin.append_ #[76, 76] 76 #[.slice Al nl cl, .slice (some ⟨w1.heap.size, 0, none⟩) 1 1]) w2 = .ok (.slice A' (nl + 1) c') w3 ∧ Ext (ownF Al) w w3 ∧ LS N w3 A' (nl + 1) c' (es ++ [(A, n, c)]) Aw nw cw ws Q := by
  have hr := h.rows.base
  have hlen := h.rows.len
  obtain ⟨b2, x2, z2⟩ := box_new (cs := EL.enc (A, n, c)) h2
  have s1 := e1.size
  have e2 := e1.trans x2
  have hob := ho.base
  obtain ⟨A', c', w3, hr3, own3, x3, hat⟩ := (h.rows.ext0 e2).more (P := Tryz.prog) (t := 76) (ty := 76) (x := (A, n, c)) u79 i68 rfl (by omega) b2 (by have := x2.size; omega) (by omega)
  have hA' : ∀ b ∈ ownF A', b ∈ ownF Al ∨ w2.heap.size ≤ b := fun b hb => by
    rcases hat with h1 | h1
    · rw [h1] at hb; exact .inl hb
    · rw [h1] at hb; simp at hb; exact .inr (by omega)
  have s2 := x2.size
  refine ⟨A', c', w3, hr3, e2.up.trans x3, own3, fun k x hk => ?_, (h.want.ext0 e2).ext x3 fun b hb hm => h.d3 b hm hb, fun k k' x x' hne hk hk' b hb hm => ?_, fun k x hk b hb => ?_, fun b hb hm => ?_⟩
  · rcases Nat.lt_or_ge k es.length with h1 | h1
    · rw [List.getElem?_append_left h1] at hk
      obtain ⟨zs, o, q⟩ := h.fam k x hk
      exact ⟨zs, (o.ext0 e2).ext x3 fun b hb hm => (h.d2 k x hk b hb).1 hm, q⟩
    · rw [List.getElem?_append_right h1] at hk
      have hk0 : k = es.length := by
        have := (List.getElem?_eq_some_iff.1 hk).1
        simp at this; omega
      subst hk0
      simp at hk; subst hk
      exact ⟨ys, ((ho.weaken hN).ext0 x2).ext x3 fun b hb hm => by have := hr b hm; have := hob b hb; omega, hy⟩
  · have new : ∀ (i : Nat) (y : Ent), (es ++ [(A, n, c)])[i]? = some y → (i < es.length ∧ es[i]? = some y) ∨ (i = es.length ∧ y = (A, n, c)) := fun i y hi => by
      rcases Nat.lt_or_ge i es.length with h1 | h1
      · rw [List.getElem?_append_left h1] at hi; exact .inl ⟨h1, hi⟩
      · rw [List.getElem?_append_right h1] at hi
        have := (List.getElem?_eq_some_iff.1 hi).1
        simp at this
        have hi0 : i = es.length := by omega
        subst hi0
        simp at hi
        exact .inr ⟨rfl, hi.symm⟩
    rcases new k x hk with ⟨a1, a2⟩ | ⟨a1, a2⟩ <;> rcases new k' x' hk' with ⟨b1, b2⟩ | ⟨b1, b2⟩
    · exact h.d1 k k' x x' hne a2 b2 b hb hm
    · obtain ⟨zs, o, _⟩ := h.fam k x a2
      have := (o.base b hb).2
      rw [b2] at hm
      have := (hob b hm).1
      omega
    · obtain ⟨zs, o, _⟩ := h.fam k' x' b2
      have := (o.base b hm).2
      rw [a2] at hb
      have := (hob b hb).1
      omega
    · omega
  · rcases Nat.lt_or_ge k es.length with h1 | h1
    · rw [List.getElem?_append_left h1] at hk
      obtain ⟨zs, o, _⟩ := h.fam k x hk
      have hlt := (o.base b hb).2
      exact ⟨fun hm => by
        rcases hA' b hm with h3 | h3
        · exact (h.d2 k x hk b hb).1 h3
        · omega, (h.d2 k x hk b hb).2⟩
    · rw [List.getElem?_append_right h1] at hk
      have hk0 := (List.getElem?_eq_some_iff.1 hk).1
      simp at hk0
      have hk1 : k - es.length = 0 := by omega
      rw [hk1] at hk
      simp at hk; subst hk
      have h4 := hob b hb
      exact ⟨fun hm => by
        rcases hA' b hm with h3 | h3
        · have := hr b h3; omega
        · omega, fun hm => by have := h.want.base b hm; omega⟩
  · rcases hA' b hb with h3 | h3
    · exact h.d3 b h3 hm
    · have := h.want.base b hm; omega
end
def it (k : Nat) : ByteArray := ⟨(Go.Lib.itoa (k : Int)).toArray⟩
theorem it_size (k : Nat) : (it k).size ≤ k + 1 := by
  have h : (it k).size = (Go.Lib.decDigits k).length := by
    unfold it Go.Lib.itoa
    rw [if_neg (by omega), Int.toNat_natCast]
    simp [ByteArray.size]
  have := dec_len k
  omega
theorem one_size (c : UInt8) : ByteArray.size ⟨#[c]⟩ = 1 := rfl
def til (k : Nat) : ByteArray := (⟨#[126]⟩ : ByteArray) ++ it k
def star (k : Nat) : ByteArray := (⟨#[42]⟩ : ByteArray) ++ it k
def plus : ByteArray := ⟨#[43]⟩
def Qt (k : Nat) (ys : List ByteArray) : Prop := ∀ (i : Nat) x, ys[i]? = some x → x = til k
def Q5 (a j : Nat) (k : Nat) (ys : List ByteArray) : Prop := (k < a → Qt k ys) ∧ (k = a → ∀ (i : Nat) x, i < j → ys[i]? = some x → x = til k)
theorem str_row {w : World} {B n c : Nat} {A : Option Addr} {xs : List ByteArray} (h : OwnL SL w B 9 A n c xs) {a : Nat} (ha : a < n) : ∃ x ad, xs[a]? = some x ∧ A = some ad ∧ w.cell? (ad.add (Int.toNat (a : Int) * 1)) = some (.string x) := by
  obtain ⟨x, ad, h1, h2, h3⟩ := h.row ha
  exact ⟨x, ad, h1, h2, by have := h3 0 _ rfl; rwa [Addr.add_zero'] at this⟩
theorem ent_row {w : World} {B n c : Nat} {A : Option Addr} {xs : List Ent} (h : OwnL EL w B 33 A n c xs) {a : Nat} (ha : a < n) : ∃ x ad, xs[a]? = some x ∧ A = some ad ∧ w.cell? (ad.add (Int.toNat (a : Int) * 1)) = some (.slice x.1 x.2.1 x.2.2) := by
  obtain ⟨x, ad, h1, h2, h3⟩ := h.row ha
  exact ⟨x, ad, h1, h2, by have := h3 0 _ rfl; rwa [Addr.add_zero'] at this⟩
/-- One list's turn of the last filling: what append makes of it. -/
theorem star_c {N k : Nat} {w : World} {ea : Ent} {zs : List ByteArray} (hk : k < 18) (hN : N ≤ w.heap.size) (hp : ∀ w', Ext (ownF ea.1) w w' → Pow w') (own : OwnL SL w N 9 ea.1 ea.2.1 ea.2.2 zs) (hs : ea.2.1 ≤ 2000000) {K : Option Addr → Nat → Nat → World → Prop}
    (kk : ∀ (A : Option Addr) (c : Nat) (w' : World), Ext (ownF ea.1) w w' → OwnL SL w' N 9 ea.1 ea.2.1 ea.2.2 zs → (∃ ad, A = some ad ∧ w'.cell? (ad.add (ea.2.1 * 1)) = some (.string (star k)) ∧ (ad.block ∈ ownF ea.1 ∨ w.heap.size ≤ ad.block)) → K A (ea.2.1 + 1) c w') :
    ∃ I96 : Option Addr → Nat → Nat → Int → World → Prop, ∃ μ97 : Option Addr → Nat → Nat → Int → World → Nat, I96 ea.1 ea.2.1 ea.2.2 0 w ∧
      ∀ g_98 g_98l g_98c j_99 (j100 : Nat → Value) (w101 : World), I96 g_98 g_98l g_98c j_99 w101 →
      (V.sel (decide (j_99 < 32))
      (∀ w105, w105 = (World.alloc w101 (.cells #[(Value.string ⟨#[43]⟩)] 9)) →
      ∃ A106, ∃ A106l, ∃ A106c, ∃ w107, Sem.run Tryz.prog (Builtin.append_ #[33, 33] 33 #[(Value.slice g_98 g_98l g_98c), (Value.slice (some ⟨Array.size (World.heap w101), 0, none⟩) 1 1)]) w105 = .ok (Value.slice A106 A106l A106c) w107 ∧
      I96 A106 A106l A106c (IntKind.wrap .i64 (j_99 + 1)) w107 ∧ μ97 A106 A106l A106c (IntKind.wrap .i64 (j_99 + 1)) w107 < μ97 g_98 g_98l g_98c j_99 w101)
      (Calls Tryz.prog 34 #[(Value.int .i64 (k : Int))] w101 fun e109 w110 =>
      ∃ s108, e109 = Ending.returned (Value.string s108) ∧
      V.when (decide (ByteArray.size ⟨#[42]⟩ + ByteArray.size s108 ≤ 9223372036854775807)) (∀ w111, w111 = (World.alloc w110 (.cells #[(Value.string (⟨#[42]⟩ ++ s108))] 9)) →
      ∃ A112, ∃ A112l, ∃ A112c, ∃ w113, Sem.run Tryz.prog (Builtin.append_ #[33, 33] 33 #[(Value.slice ea.1 ea.2.1 ea.2.2), (Value.slice (some ⟨Array.size (World.heap w110), 0, none⟩) 1 1)]) w111 = .ok (Value.slice A112 A112l A112c) w113 ∧
      K A112 A112l A112c w113))) := by
  have hzl := own.len
  have hbase := own.base
  have hts := it_size k
  have s43 : ByteArray.size ⟨#[43]⟩ = 1 := rfl
  have s42 : ByteArray.size ⟨#[42]⟩ = 1 := rfl
  refine ⟨fun g gl gc j w' => ∃ (jn : Nat) (ys : List ByteArray), j = jn ∧ jn ≤ 32 ∧ gl = ea.2.1 + jn ∧ Ext (ownF ea.1) w w' ∧ OwnL SL w' N 9 ea.1 ea.2.1 ea.2.2 zs ∧ OwnL SL w' N 9 g gl gc ys ∧ ((g = ea.1 ∧ gc = ea.2.2 ∧ ys.take ea.2.1 = zs) ∨ ∀ b ∈ ownF g, w.heap.size ≤ b), fun _ _ _ j _ => 32 - j.toNat,
    ⟨0, zs, rfl, by omega, rfl, Ext.refl _ _, own, own, .inl ⟨rfl, rfl, List.take_of_length_le (by omega)⟩⟩, ?_⟩
  rintro g gl gc _ _ w1 ⟨j, ys, rfl, hj, rfl, e1, own1, og, hg⟩
  have s1 := e1.size
  refine sel_dec (fun hlt => ?_) (fun _ => ?_)
  · have hlt : j < 32 := by omega
    refine fun w3 h3 => ?_
    obtain ⟨b3, x3, z3⟩ := box_new (cs := SL.enc plus) h3
    have e3 := x3
    have s3 := e3.size
    obtain ⟨A', c', w4, hr4, own4, hcase⟩ := OwnL_step (P := Tryz.prog) (t := 33) (ty := 33) (x := plus) u43 i9 rfl (by omega) (og.ext0 e3) b3 (by omega) (by omega)
    refine ⟨A', ea.2.1 + j + 1, c', w4, hr4, ?_⟩
    rw [up64 j (by omega)]
    have hyl := og.len
    refine ⟨⟨j + 1, ys ++ [plus], rfl, by omega, by omega, ?_⟩, by simp only [Int.toNat_natCast]; omega⟩
    rcases hcase with ⟨rfl, rfl, x4, og4⟩ | ⟨hnew, x4⟩
    · rcases hg with ⟨rfl, rfl, htk⟩ | hg
      · have hpre := own4.take (n := ea.2.1) (by omega) (by omega)
        rw [List.take_append_of_le_length (by omega), htk] at hpre
        exact ⟨(e1.trans e3.up).trans x4, hpre, own4, .inl ⟨rfl, rfl, by rw [List.take_append_of_le_length (by omega), htk]⟩⟩
      · exact ⟨(e1.trans e3.up).trans' x4 (fun b hb => .inr (hg b hb)), (own1.ext0 e3).ext x4 (fun b hb hm => by have := hg b hm; have := (hbase b hb).2; omega), own4, .inr hg⟩
    · exact ⟨(e1.trans e3.up).trans x4.up, (own1.ext0 e3).ext0 x4, own4, .inr fun b hb => by have := hnew b hb; omega⟩
  · refine Itoa_c (hp _ e1) k (by omega) fun w2 e2 => ⟨_, rfl, when_dec (by show _ + (it k).size ≤ _; omega) fun w3 h3 => ?_⟩
    obtain ⟨b3, x3, z3⟩ := box_new (cs := SL.enc (star k)) h3
    have e3 := e2.trans x3
    have s3 := e3.size
    obtain ⟨A', c', w4, hr4, own4, hcase⟩ := OwnL_step (P := Tryz.prog) (t := 33) (ty := 33) (x := star k) u43 i9 rfl (by omega) (own1.ext0 e3) b3 (by omega) (by omega)
    obtain ⟨x, ad, hx, hA, hc⟩ := str_row own4 (a := ea.2.1) (by omega)
    have hxs : x = star k := by
      rw [List.getElem?_append_right (by omega), show ea.2.1 - zs.length = 0 by omega] at hx
      simpa using hx.symm
    subst hxs
    rw [Int.toNat_natCast] at hc
    have hbk : ad.block ∈ ownF A' := by rw [hA]; simp [ownF]
    refine ⟨A', ea.2.1 + 1, c', w4, hr4, kk A' c' w4 ?_ ?_ ⟨ad, hA, hc, ?_⟩⟩
    · rcases hcase with ⟨_, _, x4, _⟩ | ⟨_, x4⟩
      · exact (e1.trans e3.up).trans x4
      · exact (e1.trans e3.up).trans x4.up
    · rcases hcase with ⟨_, _, _, og4⟩ | ⟨_, x4⟩
      · exact og4
      · exact (own1.ext0 e3).ext0 x4
    · rcases hcase with ⟨h, _⟩ | ⟨hnew, _⟩
      · left; rw [← h]; exact hbk
      · right; have := hnew _ hbk; omega
theorem LS.lt {N nl cl nw cw : Nat} {w : World} {Al Aw : Option Addr} {es : List Ent} {ws : List ByteArray} {Q : Nat → List ByteArray → Prop} (h : LS N w Al nl cl es Aw nw cw ws Q) : (∀ b ∈ ownF Al, b < w.heap.size) ∧ (∀ (k : Nat) (e : Ent), es[k]? = some e → ∀ b ∈ ownF e.1, b < w.heap.size) ∧ ∀ b ∈ ownF Aw, b < w.heap.size :=
  ⟨fun b hb => (h.rows.base b hb).2, fun k e he b hb => by obtain ⟨ys, o, _⟩ := h.fam k e he; exact (o.base b hb).2, fun b hb => (h.want.base b hb).2⟩
theorem LS.extN {N nl cl nw cw M : Nat} {w w' : World} {Al Aw : Option Addr} {es : List Ent} {ws : List ByteArray} {Q : Nat → List ByteArray → Prop} (h : LS N w Al nl cl es Aw nw cw ws Q) {F : List Nat} (e : Ext F w w') (hF : ∀ b ∈ F, M ≤ b)
    (hM : (∀ b ∈ ownF Al, b < M) ∧ (∀ (k : Nat) (e : Ent), es[k]? = some e → ∀ b ∈ ownF e.1, b < M) ∧ ∀ b ∈ ownF Aw, b < M) : LS N w' Al nl cl es Aw nw cw ws Q :=
  ⟨h.rows.ext e fun b hb hm => by have := hF b hm; have := hM.1 b hb; omega, fun k x hk => by
    obtain ⟨ys, a, b⟩ := h.fam k x hk
    exact ⟨ys, a.ext e fun b hb hm => by have := hF b hm; have := hM.2.1 k x hk b hb; omega, b⟩, h.want.ext e fun b hb hm => by have := hF b hm; have := hM.2.2 b hb; omega, h.d1, h.d2, h.d3⟩
/-- What the grown lists hold. -/
def GR (N6 : Nat) (w : World) (A : Option Addr) (n c : Nat) (es gs : List Ent) : Prop :=
  OwnL EL w N6 33 A n c gs ∧ ∀ (k : Nat) (g : Ent), gs[k]? = some g → ∃ e : Ent, es[k]? = some e ∧ g.2.1 = e.2.1 + 1 ∧ ∃ ad, g.1 = some ad ∧ w.cell? (ad.add (e.2.1 * 1)) = some (.string (star k)) ∧ (ad.block ∈ ownF e.1 ∨ N6 ≤ ad.block) ∧ ad.block ∉ ownF A ∧ ad.block < w.heap.size
theorem GR.ext {N6 : Nat} {w w' : World} {A : Option Addr} {n c : Nat} {es gs : List Ent} {F : List Nat} (h : GR N6 w A n c es gs) (e : Ext F w w') (h1 : ∀ b ∈ ownF A, b ∉ F) (h2 : ∀ (k : Nat) (x : Ent), k < gs.length → es[k]? = some x → ∀ b ∈ ownF x.1, b ∉ F) (h3 : ∀ b ∈ F, b < w.heap.size → N6 ≤ b → b ∈ ownF A) : GR N6 w' A n c es gs := by
  refine ⟨h.1.ext e h1, fun k g hg => ?_⟩
  obtain ⟨x, hx, hn, ad, ha, hc, hb, hA, hl⟩ := h.2 k g hg
  refine ⟨x, hx, hn, ad, ha, cell_ext e hc ?_, hb, hA, by have := e.size; omega⟩
  rw [add_block]
  intro hm
  rcases hb with hb | hb
  · exact h2 k x (List.getElem?_eq_some_iff.1 hg).1 hx _ hb hm
  · exact hA (h3 _ hm hl hb)
theorem mem_state {α : Type} {ys : List α} {n : Nat} (h : ys.length = n) {j : Nat} {v : α} (hj : j < n) {P : Nat → α → Prop} (hP : ∀ i x, i < j → ys[i]? = some x → P i x) (hv : P j v) : ∀ i x, i < j + 1 → (ys.set j v)[i]? = some x → P i x := by
  intro i x hi hx
  by_cases e : i = j
  · subst e
    rw [List.getElem?_set_self (by omega)] at hx
    cases hx; exact hv
  · rw [List.getElem?_set_ne (fun h => e h.symm)] at hx
    exact hP i x (by omega) hx
end Go.Proofs.YtjlkdadafddodaaGreatDoor
namespace Go.Proofs.YtjlkdadafddodaaGreatDoor
open Go Go.V Go.B

theorem keys_few {d : Doc} {w : World} (h : DocR w d) {ys : List ByteArray} (hs : Strict ys) (hm : ∀ z, z ∈ ys ↔ ∃ r ∈ d.rows, r.key = z) : ys.length ≤ d.l := by
  have hsub := sub_len (l := ys) (m := d.rows.map (·.key)) (hs.imp (fun h e => by subst e; exact lt_irr _ h)) fun z hz => by
    obtain ⟨r, hr, e⟩ := (hm z).1 hz
    exact List.mem_map.2 ⟨r, hr, e⟩
  have := h.len
  simp at hsub; omega
set_option maxRecDepth 8000 in
set_option maxHeartbeats 4000000 in
theorem keysOwn_c {w34 : World} {base g cap : Nat} {es0 : Nat → En} (h : WAt w34 base g cap es0) (hcap : cap ≤ 1100000) (hp : Pow w34) {i : Nat} (hi : i < 4) {R : Ending → World → Prop} (k : ∀ w', Ext [] w34 w' → R (.returned (.bool true)) w') :
    Calls Tryz.prog 12 #[.pointer (some ⟨g, 0, none⟩), .int .i64 (i : Int)] w34 R := by
  have s126 : ByteArray.size ⟨#[126]⟩ = 1 := rfl
  have s42 : ByteArray.size ⟨#[42]⟩ = 1 := rfl
  apply berthlaw08_World_keysOwn_nf
  have ii : (0 : Int) ≤ (i : Int) ∧ (i : Int) < 4 := by omega
  have hen := h.en i hi
  obtain ⟨x, hx⟩ : ∃ x, (es0 i).x = x := ⟨_, rfl⟩
  obtain ⟨d, hd⟩ : ∃ d, (es0 i).d = d := ⟨_, rfl⟩
  have rel : Rel x d.rows := by rw [← hx, ← hd]; exact hen.rel
  have ok : IxOk x := by rw [← hx]; exact hen.ok
  have Bw : IxB w34 (es0 i).q x := by rw [← hx]; exact hen.b (by omega)
  have Dw : DocR w34 d := by rw [← hd]; exact hen.doc
  have dl : d.l ≤ 1100000 := by rw [← hd]; have := hen.dl; omega
  refine ptr_in (when_dec ii ⟨_, _, _, _, w_doc h.blk hi, ?_⟩)
  rw [hd]
  refine DocKeys_c Dw (by omega) fun Aw nw cw ws w40 e40 own40 hs40 hm40 => ⟨_, _, _, rfl, ?_⟩
  have hnw := own40.len
  have hwl : ws.length ≤ 2000000 := by have := keys_few Dw hs40 hm40; omega
  -- the lists are asked for
  refine ⟨fun lA ll lc t w' => ∃ (a : Nat) (es : List Ent), t = a ∧ a ≤ 18 ∧ ll = a ∧ Ext [] w34 w' ∧ LS w34.heap.size w' lA ll lc es Aw nw cw ws (fun _ ys => ys = ws), fun _ _ _ t _ => 18 - t.toNat,
    ⟨0, [], rfl, by omega, rfl, e40, ⟨OwnL.nil _ _ _, fun k e h => by simp at h, own40, fun k k' e e' _ h => by simp at h, fun k e h => by simp at h, fun b hb => by simp [ownF] at hb⟩⟩, ?_⟩
  rintro Al nl cl _ _ w46 ⟨a, es, rfl, ha, rfl, e46, ls46⟩
  have s46 := e46.size
  refine sel_dec (fun hlt => ?_) (fun hge => ?_)
  · have st46 := h.ext0 e46
    refine ptr_in (when_dec ii ⟨_, w_ptr st46.blk hi, KeysB_c (Bw.ext0 e46) fun A49 n49 c49 xs51 w51 e51 own51 hk51 _ => ⟨_, _, _, rfl, ?_⟩⟩)
    rw [rel.keys ok hk51 hs40 hm40] at own51
    have hl51 := own51.len
    refine textsAre_c own51.cells own51.len (ls46.want.ext0 e51).cells ls46.want.len (by omega) rfl fun w54 e54 => ⟨_, rfl, sel_false rfl fun w55 h55 => ?_⟩
    obtain ⟨A', c', w57, hr57, x57, ls57⟩ := ls46.more (e51.trans e54) (own51.ext0 e54) rfl s46 (by omega) h55
    refine ⟨A', _, c', w57, hr57, ?_⟩
    rw [up64 nl (by omega)]
    refine ⟨⟨nl + 1, _, rfl, by omega, rfl, e46.trans' x57 (fun b hb => .inr (ls46.rows.base b hb).1), ls57⟩, by simp only [Int.toNat_natCast]; omega⟩
  have hn18 : nl = 18 := by omega
  have hel := ls46.rows.len
  -- they are all the same
  refine ⟨fun t w' => ∃ a : Nat, t = a ∧ a ≤ nl ∧ Ext [] w34 w' ∧ LS w34.heap.size w' Al nl cl es Aw nw cw ws (fun _ ys => ys = ws), fun t _ => nl - t.toNat, ⟨0, rfl, by omega, e46, ls46⟩, ?_⟩
  rintro _ _ w62 ⟨a, rfl, ha, e62, ls62⟩
  refine sel_dec (fun hlt => ?_) (fun hge => ?_)
  · obtain ⟨e, ad, he, rfl, hc⟩ := ent_row ls62.rows (a := a) (by omega)
    obtain ⟨ys, oy, rfl⟩ := ls62.fam a e he
    have hyl := oy.len
    refine when_dec ⟨by omega, by omega⟩ (ptr_in ⟨_, _, _, hc, textsAre_c oy.cells oy.len ls62.want.cells ls62.want.len (by omega) rfl fun w67 e67 => ⟨_, rfl, sel_false rfl ?_⟩⟩)
    rw [up64 a (by omega)]
    exact ⟨⟨a + 1, rfl, by omega, e62.trans e67, ls62.ext0 e67⟩, by simp only [Int.toNat_natCast]; omega⟩
  -- each is written over
  refine ⟨fun t w' => ∃ a : Nat, t = a ∧ a ≤ nl ∧ Ext [] w34 w' ∧ LS w34.heap.size w' Al nl cl es Aw nw cw ws (Q5 a 0), fun t _ => nl - t.toNat, ⟨0, rfl, by omega, e62, ls62.weak fun k ys _ => ⟨fun h => by omega, fun _ i x hi => by omega⟩⟩, ?_⟩
  rintro _ _ w72 ⟨a, rfl, ha, e72, ls72⟩
  refine sel_dec (fun hlt => ?_) (fun hge => ?_)
  · have hlt : a < nl := by omega
    obtain ⟨e, ad, he, rfl, hc⟩ := ent_row ls72.rows (a := a) hlt
    refine when_dec ⟨by omega, by omega⟩ (ptr_in ⟨_, _, _, hc, ?_⟩)
    have hel2 : e.2.1 ≤ 2000000 := by
      obtain ⟨ys, oy, rfl⟩ := ls62.fam a e he
      have := oy.len; omega
    refine ⟨fun t w' => ∃ j : Nat, t = j ∧ j ≤ e.2.1 ∧ Ext [] w34 w' ∧ LS w34.heap.size w' (some ad) nl cl es Aw nw cw ws (Q5 a j), fun t _ => e.2.1 - t.toNat, ⟨0, rfl, by omega, e72, ls72⟩, ?_⟩
    rintro _ _ w79 ⟨j, rfl, hj, e79, ls79⟩
    refine sel_dec (fun hltj => ?_) (fun hgej => ?_)
    · have hltj : j < e.2.1 := by omega
      have ha1 := it_size a
      refine Itoa_c (hp.ext0 e79) a (by omega) fun w82 e82 => ⟨_, rfl, when_dec (by show _ + (it a).size ≤ _; omega) (when_dec ⟨by omega, by omega⟩ ?_)⟩
      have e85' := e82
      have ls85 := ls79.ext0 e85'
      obtain ⟨ys, oy, qy⟩ := ls85.fam a e he
      obtain ⟨g, w87, hA, hr87, oy2, x87⟩ := oy.set1 (P := Tryz.prog) (i := j) (y := til a) (v := .string (til a)) hltj rfl rfl (t := 9) i9s' rfl
      rw [hA]
      refine ptr_in ⟨w87, by rw [Int.toNat_natCast]; exact hr87, ?_⟩
      rw [up64 j (by omega)]
      refine ⟨⟨j + 1, rfl, by omega, (e79.trans e85').trans' x87 (fun b hb => .inr (oy.base b hb).1), ls85.touch he x87 (fun b hb => .inl hb) oy2 ⟨fun h => by omega, fun _ => ?_⟩ (fun k ys hk q => ⟨q.1, fun h => absurd h hk⟩)⟩, by simp only [Int.toNat_natCast]; omega⟩
      exact mem_state (P := fun i x => x = til a) oy.len hltj (qy.2 rfl) rfl
    · rw [up64 a (by omega)]
      have hje : j = e.2.1 := by omega
      refine ⟨⟨a + 1, rfl, by omega, e79, ?_⟩, by simp only [Int.toNat_natCast]; omega⟩
      refine ⟨ls79.rows, fun k x hk => ?_, ls79.want, ls79.d1, ls79.d2, ls79.d3⟩
      obtain ⟨ys, oy, q1, q2⟩ := ls79.fam k x hk
      refine ⟨ys, oy, fun h => ?_, fun _ i x hi => by omega⟩
      by_cases hka : k = a
      · subst hka
        rw [he] at hk; cases hk
        have hyl := oy.len
        exact fun i x hx => q2 rfl i x (by have := (List.getElem?_eq_some_iff.1 hx).1; omega) hx
      · exact q1 (by omega)
  have ls72 : LS w34.heap.size w72 Al nl cl es Aw nw cw ws Qt := ⟨ls72.rows, fun k x hk => by
    obtain ⟨ys, oy, q1, _⟩ := ls72.fam k x hk
    exact ⟨ys, oy, q1 (by have := (List.getElem?_eq_some_iff.1 hk).1; omega)⟩, ls72.want, ls72.d1, ls72.d2, ls72.d3⟩
  have hM := ls72.lt
  have s72 := e72.size
  have he2 : ∀ (k : Nat) (e : Ent), es[k]? = some e → e.2.1 ≤ 2000000 := fun k e he => by
    obtain ⟨ys, oy, rfl⟩ := ls62.fam k e he
    have := oy.len; omega
  -- what is appended
  refine ⟨fun gA gl gc t w' => ∃ (a : Nat) (gs : List Ent), t = a ∧ a ≤ nl ∧ gl = a ∧ Ext [] w34 w' ∧ w72.heap.size ≤ w'.heap.size ∧ LS w34.heap.size w' Al nl cl es Aw nw cw ws Qt ∧ GR w72.heap.size w' gA gl gc es gs, fun _ _ _ t _ => nl - t.toNat, ⟨0, [], rfl, by omega, rfl, e72, Nat.le_refl _, ls72, OwnL.nil _ _ _, fun k g h => by simp at h⟩, ?_⟩
  rintro Ag ng cg _ _ w93 ⟨a, gs, rfl, ha, rfl, e93, s93, ls93, gr93⟩
  have hgl := gr93.1.len
  refine sel_dec (fun hlt => ?_) (fun hge => ?_)
  · have hlt : ng < nl := by omega
    obtain ⟨e, ad, he, hAl, hc⟩ := ent_row ls93.rows (a := ng) hlt
    obtain ⟨zs, oz, qz⟩ := ls93.fam ng e he
    have hzb := oz.base
    have s93' := e93.size
    refine when_dec ⟨by omega, by omega⟩ ?_
    rw [hAl]
    refine ptr_in ⟨_, _, _, hc, ?_⟩
    refine star_c (k := ng) (N := w34.heap.size) (by omega) s93' (fun w' x => hp.ext0 (e93.trans' x fun b hb => .inr (hzb b hb).1)) oz (he2 ng e he) fun A112 c112 w113 x113 oz113 hstar w114 h114 => ?_
    have s113 := x113.size
    obtain ⟨adS, hAS, hcS, hbS⟩ := hstar
    have ls113 := ls93.touch (Q' := Qt) he x113 (fun b hb => .inl hb) oz113 qz (fun _ _ _ h => h)
    have gr113 := gr93.ext x113 (fun b hb hm => by have := (gr93.1.base b hb).1; have := hM.2.1 ng e he b hm; omega) (fun k x hk hx b hb hm => ls93.d1 k ng x e (by omega) hx he b hb hm) (fun b hb _ h6 => by have := hM.2.1 ng e he b hb; omega)
    obtain ⟨b114, x114, z114⟩ := box_new (cs := EL.enc (A112, e.2.1 + 1, c112)) h114
    have s114 := x114.size
    obtain ⟨A115, c115, w116, hr116, og116, x116, hat⟩ := (gr113.1.ext0 x114).more (P := Tryz.prog) (t := 76) (ty := 76) (x := (A112, e.2.1 + 1, c112)) u79 i68 rfl (by omega) b114 (by omega) (by omega)
    have hgb := gr113.1.base
    have ga : ∀ b ∈ ownF Ag, w72.heap.size ≤ b := fun b hb => (hgb b hb).1
    have x16 : Ext (ownF Ag) w113 w116 := x114.up.trans x116
    have hA115 : ∀ b ∈ ownF A115, b ∈ ownF Ag ∨ w114.heap.size ≤ b := fun b hb => by
      rcases hat with h1 | h1
      · rw [h1] at hb; exact .inl hb
      · rw [h1] at hb; simp at hb; exact .inr (by omega)
    have hSlt : adS.block < w113.heap.size := by
      have := World.block_lt_of_cell? w113 _ hcS
      rwa [add_block] at this
    have hSA : adS.block ∉ ownF Ag := fun hm => by
      rcases hbS with h | h
      · have := hM.2.1 ng e he _ h; have := ga _ hm; omega
      · have := (gr93.1.base _ hm).2; omega
    refine ⟨A115, ng + 1, c115, w116, hr116, ?_⟩
    rw [up64 ng (by omega)]
    have s116 := x116.size
    refine ⟨⟨ng + 1, gs ++ [(A112, e.2.1 + 1, c112)], rfl, by omega, rfl, ?_, by omega, hAl ▸ ls113.extN x16 ga hM, og116, fun k g hg => ?_⟩, by simp only [Int.toNat_natCast]; omega⟩
    · exact ((e93.trans' x113 (fun b hb => .inr (hzb b hb).1))).trans' x16 (fun b hb => .inr (by have := ga b hb; omega))
    · rcases Nat.lt_or_ge k gs.length with h1 | h1
      · rw [List.getElem?_append_left h1] at hg
        obtain ⟨x, hx, hn, ad', ha', hc', hb', hA', hl'⟩ := gr113.2 k g hg
        refine ⟨x, hx, hn, ad', ha', cell_ext x16 hc' (by rw [add_block]; exact hA'), hb', fun hm => ?_, by omega⟩
        rcases hA115 _ hm with h | h
        · exact hA' h
        · omega
      · rw [List.getElem?_append_right h1] at hg
        have hk0 := (List.getElem?_eq_some_iff.1 hg).1
        simp at hk0
        have hk : k = ng := by omega
        have hk1 : k - gs.length = 0 := by omega
        rw [hk1] at hg
        simp at hg; subst hg; subst hk
        refine ⟨e, he, rfl, adS, hAS, cell_ext x16 hcS (by rw [add_block]; exact hSA), ?_, fun hm => ?_, by omega⟩
        · rcases hbS with h | h
          · exact .inl h
          · exact .inr (by omega)
        · rcases hA115 _ hm with h | h
          · exact hSA h
          · omega
  have hng : ng = nl := by omega
  -- all is as it was written
  refine ⟨fun t w' => ∃ a : Nat, t = a ∧ a ≤ nl ∧ Ext [] w93 w', fun t _ => nl - t.toNat, ⟨0, rfl, by omega, Ext.refl _ _⟩, ?_⟩
  rintro _ _ w121 ⟨a, rfl, ha, e121⟩
  have e121' := e93.trans e121
  refine sel_dec (fun hlt => ?_) (fun hge => ?_)
  · have hlt : a < nl := by omega
    have ls121 := ls93.ext0 e121
    have gr121 := gr93.ext e121 (by simp) (by simp) (by simp)
    obtain ⟨e, ad, he, hAl, hc⟩ := ent_row ls121.rows (a := a) hlt
    obtain ⟨zs, oz, qz⟩ := ls121.fam a e he
    have hel2 := he2 a e he
    have ha1 := it_size a
    refine when_dec ⟨by omega, by omega⟩ ?_
    rw [hAl]
    refine ptr_in ⟨_, _, _, hc, ?_⟩
    refine ⟨fun t w' => ∃ j : Nat, t = j ∧ j ≤ e.2.1 ∧ Ext [] w121 w', fun t _ => e.2.1 - t.toNat, ⟨0, rfl, by omega, Ext.refl _ _⟩, ?_⟩
    rintro _ _ w128 ⟨j, rfl, hj, e128⟩
    have d128 : Ext [] w128 w128.drew := (Ext.refl _ _).drew
    refine sel_dec (fun hltj => ?_) (fun hgej => ?_)
    · have hltj : j < e.2.1 := by omega
      obtain ⟨x, adx, hx, hA, hcx⟩ := str_row (oz.ext0 e128) hltj
      obtain rfl := qz j x hx
      refine ⟨fun w' => Ext [] w128 w', d128, when_dec ⟨by omega, by omega⟩ ?_⟩
      rw [hA]
      refine ptr_in ⟨_, fun w' ee => cell_ext ee hcx (by simp), ?_⟩
      have ha1 := it_size a
      refine Itoa_c (hp.ext0 ((e121'.trans e128).trans d128)) a (by omega) fun w135 e135 => ⟨_, rfl, d128.trans e135, when_dec (by show _ + (it a).size ≤ _; omega) (sel_false ?_ ?_)⟩
      · show (!(ByteArray.toList (til a) == ByteArray.toList (til a))) = false
        simp
      · rw [up64 j (by omega)]
        exact ⟨⟨j + 1, rfl, by omega, e128.trans (d128.trans e135)⟩, by simp only [Int.toNat_natCast]; omega⟩
    · have gr128 := gr121.ext e128 (by simp) (by simp) (by simp)
      obtain ⟨g, adg, hg, hAg, hcg⟩ := ent_row gr128.1 (a := a) (by omega)
      obtain ⟨x, hx, hn, adS, haS, hcS, _⟩ := gr128.2 a g hg
      rw [he] at hx; cases hx
      refine ⟨fun w' => Ext [] w128 w', d128, when_dec ⟨by omega, by omega⟩ ?_⟩
      rw [hAg]
      refine ptr_in ⟨_, _, _, fun w' ee => cell_ext ee hcg (by simp), when_dec ⟨by omega, by rw [hn]; omega⟩ ?_⟩
      rw [haS]
      refine ptr_in ⟨_, fun w' ee => cell_ext ee hcS (by simp), ?_⟩
      refine Itoa_c (hp.ext0 ((e121'.trans e128).trans d128)) a (by omega) fun w147 e147 => ⟨_, rfl, d128.trans e147, when_dec (by show _ + (it a).size ≤ _; omega) (sel_false ?_ ?_)⟩
      · show (!(ByteArray.toList (star a) == ByteArray.toList (star a))) = false
        simp
      · rw [up64 a (by omega)]
        exact ⟨⟨a + 1, rfl, by omega, e121.trans (e128.trans (d128.trans e147))⟩, by simp only [Int.toNat_natCast]; omega⟩
  · exact k w121 e121'
end Go.Proofs.YtjlkdadafddodaaGreatDoor
namespace Go.Proofs.YtjlkdadafddodaaGreatDoor
open Go Go.V Go.B

theorem full_c {n : Nat} (hn : n ≤ 65536) {w : World} {R : Ending → World → Prop} (k : ∀ p bw T w', Ext [] w w' → w.heap.size ≤ p → w.heap.size ≤ bw → SetAt w' p bw T → T.N = n → (∀ j, T.mem j = decide (j < n)) → R (.returned (.pointer (some ⟨p, 0, none⟩))) w') :
    Calls Tryz.prog 23 #[.int .i64 (n : Int)] w R := by
  apply berthlaw08_full_nf
  refine New_ok hn fun p bw w5 e5 hp hbw s5 => ⟨_, _, rfl, ?_⟩
  refine ⟨fun t w' => ∃ (a : Nat) (T : SetV), t = a ∧ a ≤ n ∧ Ext [] w w' ∧ SetAt w' p bw T ∧ T.N = n ∧ ∀ j, T.mem j = decide (j < a), fun t _ => n - t.toNat, ⟨0, _, rfl, by omega, e5, s5, rfl, fun j => by rw [empty_mem]; simp⟩, ?_⟩
  rintro _ _ w10 ⟨a, T, rfl, ha, e10, s10, hN, hm⟩
  refine sel_dec (fun hlt => ?_) (fun hge => ?_)
  · refine Add_c s10 _ fun w13 T' t x13 s13 hN' hm' _ => ⟨_, rfl, ?_⟩
    rw [up64 a (by omega)]
    refine ⟨⟨a + 1, T', rfl, by omega, e10.trans' x13 (fun b hb => .inr (by simp at hb; omega)), s13, hN'.trans hN, fun j => ?_⟩, by simp only [Int.toNat_natCast]; omega⟩
    rw [hm', hm, hN, Bool.eq_iff_iff]
    simp only [Bool.or_eq_true, decide_eq_true_eq]
    omega
  · have : a = n := by omega
    subst this
    exact k p bw T w10 e10 hp hbw s10 hN hm
theorem turn_c {w : World} {p bw pa ba N : Nat} {S SA : SetV} (hs : SetAt w p bw S) (ha : SetAt w pa ba SA) (hN : S.N = N) (hAN : SA.N = N) (hA : ∀ j, SA.mem j = decide (j < N)) {R : Ending → World → Prop}
    (k : ∀ w' T, Ext [bw] w w' → SetAt w' p bw T → T.N = N → (∀ j, T.mem j = (decide (j < N) && !S.mem j)) → R (.returned undef) w') :
    Calls Tryz.prog 56 #[.pointer (some ⟨p, 0, none⟩), .pointer (some ⟨pa, 0, none⟩)] w R := by
  apply berthlaw08_turn_nf
  have hpl := hs.hdr.lt
  have hbl := hs.wrd.lt
  refine AndNot_c ha.ref hs.ref fun p3 b3 w5 C e5 h3 h3' s3 hN3 hm3 => ⟨_, rfl, Clone_c (hs.ext0 e5).ref fun p6 b6 w8 e8 h6 h6' s6 => ⟨_, rfl, ?_⟩⟩
  have z5 := e5.size
  have z8 := e8.size
  refine AndNotWith_c ((hs.ext0 e5).ext0 e8) s6.ok (Rd.other s6.ref (by simp; omega)) fun w10 C2 x10 s10 hN10 hm10 => ⟨rfl, ?_⟩
  have s3' := (s3.ext0 e8).ext x10 (by simp; omega) (by simp; omega)
  refine OrWith_c s10 s3.ok (Rd.other s3'.ref (by simp; omega)) fun w12 T x12 s12 hN12 hm12 => ⟨rfl, k w12 T ?_ s12 (hN12.trans (hN10.trans hN)) fun j => ?_⟩
  · exact ((e5.trans e8).up.trans' x10 (fun b hb => .inl hb)).trans' x12 (fun b hb => .inl hb)
  · rw [hm12, hm10, hN10, hN, hm3, hA]
    cases S.mem j <;> simp
/-- Which numbers a question asks for. -/
def askQ (what n hi : Int) (ns : List Int) (a : Int) : Prop := if what = 8 then n ≤ a ∧ a ≤ n else if what = 9 then n ≤ a ∧ a ≤ hi else if what = 10 then a ∈ ns else if what = 11 then True else standsP what a n
theorem ask_c {w : World} {base g cap : Nat} {es : Nat → En} (h : WAt w base g cap es) (hcap : cap ≤ 1100000) {i : Nat} (hi4 : i < 4) (what : Int) (key : ByteArray) (n hi : Int) (h0 : -9223372036854775808 ≤ n) (h1 : n ≤ 9223372036854775807) {A : Option Addr} {l c : Nat} {ns : List Int} (hns : Ints w .i64 A l ns) (hA : ∀ ad, A = some ad → ad.block < w.heap.size) (hl : l ≤ 1048576) {R : Ending → World → Prop}
    (k : ∀ p bw w' S, Ext [] w w' → w.heap.size ≤ p → w.heap.size ≤ bw → Holds w' p bw (es i).x.N S (fun j => ∃ a, (es i).x.val key (j : Int) = some a ∧ askQ what n hi ns a) → R (.returned (.pointer (some ⟨p, 0, none⟩))) w') :
    Calls Tryz.prog 55 #[.pointer (some ⟨g, 0, none⟩), .int .i64 (i : Int), .int .i64 what, .string key, .int .i64 n, .int .i64 hi, .slice A l c] w R := by
  apply berthlaw08_World_ask_nf
  have B := (h.en i hi4).b (by omega)
  unfold askQ at k
  refine ptr_in (when_dec ⟨by omega, by omega⟩ ⟨_, w_ptr h.blk hi4, sel_intro (fun h8 => ?_) (fun h8 => sel_intro (fun h9 => ?_) (fun h9 => sel_intro (fun h10 => ?_) (fun h10 => sel_intro (fun h11 => ?_) (fun h11 => ?_))))⟩)
  · have h8 : what = 8 := eq_of_beq h8
    refine Between_c B.g key n n fun p bw w' S e hp hb hS => ⟨_, rfl, k p bw w' S e hp hb (hS.mono fun j => ?_)⟩
    rw [h8]; exact Iff.rfl
  · have h9 : what = 9 := eq_of_beq h9
    refine Between_c B.g key n hi fun p bw w' S e hp hb hS => ⟨_, rfl, k p bw w' S e hp hb (hS.mono fun j => ?_)⟩
    rw [h9]; exact Iff.rfl
  · have h10 : what = 10 := eq_of_beq h10
    refine Among_c' B.g key hns hA (by omega) fun p bw w' S e hp hb hS => ⟨_, rfl, k p bw w' S e hp hb (hS.mono fun j => ?_)⟩
    rw [h10]; exact Iff.rfl
  · have h11 : what = 11 := eq_of_beq h11
    refine Has_c' B.g key fun p bw w' S e hp hb hS => ⟨_, rfl, k p bw w' S e hp hb (hS.mono fun j => ?_)⟩
    rw [h11]; unfold hasP; simp
  · have n8 : what ≠ 8 := beq_eq_false_iff_ne.1 h8
    have n9 : what ≠ 9 := beq_eq_false_iff_ne.1 h9
    have n10 : what ≠ 10 := beq_eq_false_iff_ne.1 h10
    have n11 : what ≠ 11 := beq_eq_false_iff_ne.1 h11
    refine Find_c' B.g key what n h0 h1 fun p bw w' S e hp hb hS => ⟨_, rfl, k p bw w' S e hp hb (hS.mono fun j => ?_)⟩
    simp only [n8, n9, n10, n11, if_false]; try exact Iff.rfl
theorem told_c {w : World} {base g cap : Nat} {es : Nat → En} (h : WAt w base g cap es) (hcap : cap ≤ 1100000) {i : Nat} (hi4 : i < 4) (what : Int) (key : ByteArray) (n hi : Int) {A : Option Addr} {l c : Nat} {ns : List Int} (hns : Ints w .i64 A l ns) (hl : l ≤ 1048576) {R : Ending → World → Prop}
    (k : ∀ B m cB ys w', Ext [] w w' → OwnL IL w' w.heap.size 3 B m cB ys → RiseL ys → (∀ z, z ∈ ys ↔ ∃ r ∈ (es i).d.rows, (r.key = key ∧ askQ what n hi ns r.n) ∧ r.slot = z) → R (.returned (.slice B m cB)) w') :
    Calls Tryz.prog 54 #[.pointer (some ⟨g, 0, none⟩), .int .i64 (i : Int), .int .i64 what, .string key, .int .i64 n, .int .i64 hi, .slice A l c] w R := by
  apply berthlaw08_World_told_nf
  have hen := h.en i hi4
  obtain ⟨d, hd⟩ : ∃ d, (es i).d = d := ⟨_, rfl⟩
  have dl : d.l ≤ 1100000 := by rw [← hd]; have := hen.dl; omega
  have hmul : d.l * l ≤ 4000000000000 := Nat.le_trans (Nat.mul_le_mul dl hl) (by omega)
  refine ptr_in (when_dec ⟨by omega, by omega⟩ ⟨_, _, _, _, w_doc h.blk hi4, fun w11 h11 => ?_⟩)
  obtain ⟨b11, x11, z11⟩ := doc_box (d := ⟨0, none, 0, 0, []⟩) h11
  obtain ⟨w12, hr12, b12, x12⟩ := doc_store b11 rfl (es i).d
  have e12 : Ext [] w w12 := x11.trans' x12 (fun b hb => .inr (by simp at hb; omega))
  have D : DocR w12 d := by rw [← hd]; exact hen.doc.ext0 e12
  rw [hd] at b12 k
  have z12 := e12.size
  unfold askQ at k
  refine ⟨w12, hr12, sel_intro (fun h8 => ?_) (fun h8 => sel_intro (fun h9 => ?_) (fun h9 => sel_intro (fun h10 => ?_) (fun h10 => sel_intro (fun h11 => ?_) (fun h11 => ?_))))⟩
  · have h8 : what = 8 := eq_of_beq h8
    refine ⟨_, _, _, _, cadd0 b12, DocBetween_c D (by omega) key n n fun B m cB ys w' e own hr hm => ⟨_, _, _, rfl, k B m cB ys w' (e12.trans e) (own.weaken z12) hr fun z => (hm z).trans ?_⟩⟩
    rw [h8]; exact Iff.rfl
  · have h9 : what = 9 := eq_of_beq h9
    refine ⟨_, _, _, _, cadd0 b12, DocBetween_c D (by omega) key n hi fun B m cB ys w' e own hr hm => ⟨_, _, _, rfl, k B m cB ys w' (e12.trans e) (own.weaken z12) hr fun z => (hm z).trans ?_⟩⟩
    rw [h9]; exact Iff.rfl
  · have h10 : what = 10 := eq_of_beq h10
    refine ⟨_, _, _, _, cadd0 b12, DocAmong_c D (hns.ext0 e12) hmul (by omega) (by omega) key fun B m cB ys w' e own hr hm => ⟨_, _, _, rfl, k B m cB ys w' (e12.trans e) (own.weaken z12) hr fun z => (hm z).trans ?_⟩⟩
    rw [h10]; exact Iff.rfl
  · have h11 : what = 11 := eq_of_beq h11
    refine ⟨_, _, _, _, cadd0 b12, DocHas_c D (by omega) key fun B m cB ys w' e own hr hm => ⟨_, _, _, rfl, k B m cB ys w' (e12.trans e) (own.weaken z12) hr fun z => (hm z).trans ?_⟩⟩
    rw [h11]; exact Iff.rfl
  · have n8 : what ≠ 8 := beq_eq_false_iff_ne.1 h8
    have n9 : what ≠ 9 := beq_eq_false_iff_ne.1 h9
    have n10 : what ≠ 10 := beq_eq_false_iff_ne.1 h10
    have n11 : what ≠ 11 := beq_eq_false_iff_ne.1 h11
    refine ⟨_, _, _, _, cadd0 b12, DocFind_c D (by omega) key what n fun B m cB ys w' e own hr hm => ⟨_, _, _, rfl, k B m cB ys w' (e12.trans e) (own.weaken z12) hr fun z => (hm z).trans ?_⟩⟩
    simp only [n8, n9, n10, n11, if_false]; try exact Iff.rfl
/-- A list of sets. -/
def PL : Lay Rw := ⟨fun r => [.pointer (some ⟨r.p, 0, none⟩)], 1, fun _ => rfl, fun x v hv => by
  simp only [List.mem_cons, List.not_mem_nil, or_false] at hv
  subst hv; rfl, by omega⟩
theorem u104 : Tryz.prog.underlying 104 = some (.slice 43) := by kernel_rfl
theorem i43 : (Tryz.prog.info? 43).map (fun i => (i.zero, i.size, i.bytes)) = some (some (.pointer none), 1, 8) := by kernel_rfl
structure Sets (N0 : Nat) (w : World) (A : Option Addr) (n c : Nat) (rs : List Rw) (N : Nat) (M : Nat → Nat → Bool) : Prop where
  rows : OwnL PL w N0 43 A n c rs
  set : ∀ (j : Nat) (r : Rw), rs[j]? = some r → ∃ T, SetAt w r.p r.b T ∧ T.N = N ∧ ∀ i, T.mem i = M j i
  low : ∀ r ∈ rs, N0 ≤ r.p ∧ N0 ≤ r.b ∧ r.p ∉ ownF A ∧ r.b ∉ ownF A
  dis : ∀ (j j' : Nat) (r r' : Rw), rs[j]? = some r → rs[j']? = some r' → j ≠ j' → r.p ≠ r'.p ∧ r.p ≠ r'.b ∧ r.b ≠ r'.p ∧ r.b ≠ r'.b
section
variable {N0 n c N : Nat} {w w' : World} {A : Option Addr} {rs : List Rw} {M M' : Nat → Nat → Bool}
theorem Sets.ext0 (h : Sets N0 w A n c rs N M) (e : Ext [] w w') : Sets N0 w' A n c rs N M :=
  ⟨h.rows.ext0 e, fun j r hr => by obtain ⟨T, h1, h2, h3⟩ := h.set j r hr; exact ⟨T, h1.ext0 e, h2, h3⟩, h.low, h.dis⟩
theorem Sets.weak (h : Sets N0 w A n c rs N M) (hM : ∀ j i, j < n → M j i = M' j i) : Sets N0 w A n c rs N M' :=
  ⟨h.rows, fun j r hr => by
    obtain ⟨T, h1, h2, h3⟩ := h.set j r hr
    exact ⟨T, h1, h2, fun i => (h3 i).trans (hM j i (by have := (List.getElem?_eq_some_iff.1 hr).1; have := h.rows.len; omega))⟩, h.low, h.dis⟩
theorem Sets.row (h : Sets N0 w A n c rs N M) {a : Nat} (ha : a < n) : ∃ r ad, rs[a]? = some r ∧ A = some ad ∧ w.cell? (ad.add (Int.toNat (a : Int) * 1)) = some (.pointer (some ⟨r.p, 0, none⟩)) := by
  obtain ⟨r, ad, h1, h2, h3⟩ := h.rows.row ha
  exact ⟨r, ad, h1, h2, by have := h3 0 _ rfl; rwa [Addr.add_zero'] at this⟩
theorem Sets.touch (h : Sets N0 w A n c rs N M) {a : Nat} {r : Rw} (ha : rs[a]? = some r) {T : SetV} (x : Ext [r.b] w w') (hs : SetAt w' r.p r.b T) (hN : T.N = N) (hm : ∀ i, T.mem i = M' a i) (hM : ∀ j i, j ≠ a → M' j i = M j i) : Sets N0 w' A n c rs N M' := by
  have hl := h.low r (List.mem_of_getElem? ha)
  refine ⟨h.rows.ext x (fun b hb hm => by simp at hm; subst hm; exact hl.2.2.2 hb), fun j s hj => ?_, h.low, h.dis⟩
  by_cases e : j = a
  · subst e
    rw [ha] at hj; cases hj
    exact ⟨T, hs, hN, hm⟩
  · obtain ⟨T', h1, h2, h3⟩ := h.set j s hj
    have hd := h.dis j a s r hj ha e
    exact ⟨T', h1.ext x (by simp; exact hd.2.1) (by simp; exact hd.2.2.2), h2, fun i => (h3 i).trans (hM j i e).symm⟩
theorem Sets.more (h : Sets N0 w A n c rs N M) (hn : n < 65536) {w1 w2 : World} (e1 : Ext [] w w1) {p b : Nat} {S : SetV} (hp : w.heap.size ≤ p) (hb : w.heap.size ≤ b) (hs : SetAt w1 p b S) (hN : S.N = N) (hm : ∀ i, S.mem i = M n i) (h0 : N0 ≤ w.heap.size) (h2 : w2 = w1.alloc (.cells #[.pointer (some ⟨p, 0, none⟩)] 43)) :
    ∃ A' c' w3, Sem.run Tryz.prog (Builtin.append_ #[104, 104] 104 #[.slice A n c, .slice (some ⟨w1.heap.size, 0, none⟩) 1 1]) w2 = .ok (.slice A' (n + 1) c') w3 ∧ Ext (ownF A) w w3 ∧ Sets N0 w3 A' (n + 1) c' (rs ++ [⟨0, p, b, S⟩]) N M := by
  obtain ⟨b2, x2, z2⟩ := box_new (cs := PL.enc ⟨0, p, b, S⟩) h2
  have hlen := h.rows.len
  have gb := h.rows.base
  have z1 := e1.size
  have e2 := e1.trans x2
  obtain ⟨A', c', w3, hr3, own3, x3, hat⟩ := (h.rows.ext0 e2).more (P := Tryz.prog) (t := 104) (ty := 104) (x := ⟨0, p, b, S⟩) u104 i43 rfl (by omega) b2 (by omega) (by omega)
  have hpl := hs.hdr.lt
  have hbl := hs.wrd.lt
  have hA' : ∀ g ∈ ownF A', g ∈ ownF A ∨ w2.heap.size ≤ g := fun g hg => by
    rcases hat with h1 | h1
    · rw [h1] at hg; exact .inl hg
    · rw [h1] at hg; simp at hg; exact .inr (by omega)
  have old : ∀ r ∈ rs, r.p < w.heap.size ∧ r.b < w.heap.size := fun r hr => by
    obtain ⟨j, hj⟩ := List.mem_iff_getElem?.1 hr
    obtain ⟨T, h1, _⟩ := h.set j r hj
    exact ⟨h1.hdr.lt, h1.wrd.lt⟩
  have nA : ∀ g, w.heap.size ≤ g → g ∉ ownF A := fun g hg hm => by have := (gb g hm).2; omega
  have at_ : ∀ (j : Nat) (r : Rw), (rs ++ [⟨0, p, b, S⟩])[j]? = some r → (j < n ∧ rs[j]? = some r) ∨ (j = n ∧ r = ⟨0, p, b, S⟩) := fun j r hj => by
    rcases Nat.lt_or_ge j rs.length with h1 | h1
    · rw [List.getElem?_append_left h1] at hj
      exact .inl ⟨by omega, hj⟩
    · rw [List.getElem?_append_right h1] at hj
      have hk := (List.getElem?_eq_some_iff.1 hj).1
      simp at hk
      have : j - rs.length = 0 := by omega
      rw [this] at hj
      simp at hj
      exact .inr ⟨by omega, hj.symm⟩
  refine ⟨A', c', w3, hr3, e2.up.trans x3, own3, fun j r hj => ?_, fun r hr => ?_, fun j j' r r' hj hj' hne => ?_⟩
  · rcases at_ j r hj with ⟨h1, h2⟩ | ⟨rfl, rfl⟩
    · obtain ⟨T, q1, q2, q3⟩ := h.set j r h2
      have hl := h.low r (List.mem_of_getElem? h2)
      exact ⟨T, (q1.ext0 e2).ext x3 hl.2.2.1 hl.2.2.2, q2, q3⟩
    · exact ⟨S, (hs.ext0 x2).ext x3 (nA _ hp) (nA _ hb), hN, hm⟩
  · rcases List.mem_append.1 hr with hr | hr
    · have hl := h.low r hr
      have ho := old r hr
      exact ⟨hl.1, hl.2.1, fun hm => by rcases hA' _ hm with h | h; exact hl.2.2.1 h; omega, fun hm => by rcases hA' _ hm with h | h; exact hl.2.2.2 h; omega⟩
    · simp at hr; subst hr
      exact ⟨by show N0 ≤ p; omega, by show N0 ≤ b; omega, fun hm => by rcases hA' _ hm with h | h; exact nA _ hp h; exact absurd h (by show ¬ _ ≤ p; omega), fun hm => by rcases hA' _ hm with h | h; exact nA _ hb h; exact absurd h (by show ¬ _ ≤ b; omega)⟩
  · rcases at_ j r hj with ⟨h1, h2⟩ | ⟨e1', rfl⟩ <;> rcases at_ j' r' hj' with ⟨h3, h4⟩ | ⟨e2', rfl⟩
    · exact h.dis j j' r r' h2 h4 hne
    · have := old r (List.mem_of_getElem? h2)
      exact ⟨by show r.p ≠ p; omega, by show r.p ≠ b; omega, by show r.b ≠ p; omega, by show r.b ≠ b; omega⟩
    · have := old r' (List.mem_of_getElem? h4)
      exact ⟨by show p ≠ r'.p; omega, by show p ≠ r'.b; omega, by show b ≠ r'.p; omega, by show b ≠ r'.b; omega⟩
    · omega
end
theorem countP_compl {p q : Nat → Bool} : ∀ (l : List Nat), (∀ i ∈ l, q i = !p i) → l.countP p + l.countP q = l.length
  | [], _ => rfl
  | i :: l, h => by
    have h1 := countP_compl l fun j hj => h j (by simp [hj])
    have h2 := h i (by simp)
    rw [List.countP_cons, List.countP_cons, h2]
    cases p i <;> simp <;> omega
theorem mi_dec {T : SetV} (hT : T.Ok) {ys : List Int} (hr : RiseL ys) (hnat : ∀ z ∈ ys, ∃ i : Nat, z = i) (hm : ∀ i : Nat, T.mem i = decide ((i : Int) ∈ ys)) : T.mi = ys :=
  rise_eq (mi_rise T) hr fun z => by
    rw [mem_mi hT]
    constructor
    · rintro ⟨i, rfl, hi⟩
      rw [hm] at hi; exact of_decide_eq_true hi
    · intro hz
      obtain ⟨i, rfl⟩ := hnat z hz
      exact ⟨i, rfl, by rw [hm]; exact decide_eq_true hz⟩
end Go.Proofs.YtjlkdadafddodaaGreatDoor
namespace Go.Proofs.YtjlkdadafddodaaGreatDoor
open Go Go.V Go.B

set_option maxRecDepth 8000 in
set_option maxHeartbeats 4000000 in
theorem own_c {w : World} {base g cap : Nat} {es : Nat → En} (h : WAt w base g cap es) (hcap : cap ≤ 1100000) {i : Nat} (hi4 : i < 4) (what : Int) (key : ByteArray) (n hi : Int) (h0 : -9223372036854775808 ≤ n) (h1 : n ≤ 9223372036854775807) {A : Option Addr} {l c : Nat} {ns : List Int} (hns : Ints w .i64 A l ns) (hA : ∀ ad, A = some ad → ad.block < w.heap.size) (hl : l ≤ 1048576)
    {pa ba : Nat} {SA : SetV} (hall : SetAt w pa ba SA) (hAN : SA.N = (es i).x.N) (hAm : ∀ j, SA.mem j = decide (j < (es i).x.N)) {R : Ending → World → Prop} (k : ∀ w', Ext [] w w' → R (.returned (.bool true)) w') :
    Calls Tryz.prog 24 #[.pointer (some ⟨g, 0, none⟩), .int .i64 (i : Int), .int .i64 what, .string key, .int .i64 n, .int .i64 hi, .slice A l c, .pointer (some ⟨pa, 0, none⟩)] w R := by
  apply berthlaw08_World_own_nf
  intro w9 h9
  have hen := h.en i hi4
  obtain ⟨x, hx⟩ : ∃ x, (es i).x = x := ⟨_, rfl⟩
  obtain ⟨d, hd⟩ : ∃ d, (es i).d = d := ⟨_, rfl⟩
  have rel : Rel x d.rows := by rw [← hx, ← hd]; exact hen.rel
  have ok : IxOk x := by rw [← hx]; exact hen.ok
  rw [hx] at hAN hAm
  obtain ⟨A10, c10, w11, hr11, own11, e11⟩ := copyL (L := IL) (P := Tryz.prog) (ty := 23) (t := 23) (e := 3) (w := w) u37 i3 rfl (by omega) (ints_cells hns) hns.len h9 (by omega) c
  refine ⟨_, _, _, w11, hr11, told_c (h.ext0 e11) hcap hi4 what key n hi (il_ints own11.cells own11.len) hl fun B m cB ys w14 e14 ownY hrY hmY => ⟨_, _, _, rfl, ?_⟩⟩
  rw [hd] at hmY
  have E14 := e11.trans e14
  have z14 := E14.size
  have hyl := ownY.len
  have W14 := h.ext0 E14
  have yI : ∀ w', Ext [] w14 w' → Ints w' .i64 B m ys := fun w' e => il_ints (ownY.ext0 e).cells ownY.len
  have hnat : ∀ z ∈ ys, ∃ j : Nat, z = j := fun z hz => by
    obtain ⟨j, rfl, _⟩ := (rel.slots ok key _ z).1 ((hmY z).1 hz)
    exact ⟨j, rfl⟩
  have in14 : ∀ w', Ext [] w14 w' → Ints w' .i64 A l ns := fun w' e => (hns.ext0 E14).ext0 e
  have hA14 : ∀ w', Ext [] w14 w' → ∀ ad, A = some ad → ad.block < w'.heap.size := fun w' e ad ea => by have := hA ad ea; have := e.size; omega
  -- a set that answers
  have told : ∀ {φ : Nat → Prop} {w' : World} {p b : Nat} {S : SetV}, Holds w' p b x.N S φ → (∀ j, φ j ↔ ∃ a, x.val key (j : Int) = some a ∧ askQ what n hi ns a) → S.mi = ys := fun hS hφ => rel.mi ok (Q := askQ what n hi ns) hS.set.ok hS.mem hφ hrY hmY
  obtain ⟨N, hN⟩ : ∃ N, x.N = N := ⟨_, rfl⟩
  refine ⟨fun A n c t w' => ∃ (a : Nat) (rs : List Rw), t = a ∧ a ≤ 6 ∧ n = a ∧ Ext [] w14 w' ∧ Sets w14.heap.size w' A n c rs N (fun _ j => decide ((j : Int) ∈ ys)), fun _ _ _ t _ => 6 - t.toNat, ⟨0, [], rfl, by omega, rfl, Ext.refl _ _, OwnL.nil _ _ _, fun j r h => by simp at h, fun r h => by simp at h, fun j j' r r' h => by simp at h⟩, ?_⟩
  rintro As ls cs _ _ w20 ⟨a, rs, rfl, ha, rfl, e20, sets20⟩
  have W20 := W14.ext0 e20
  have z20 := e20.size
  refine sel_dec (fun hlt => ?_) (fun hge => ?_)
  · have hlt : ls < 6 := by omega
    refine ask_c W20 hcap hi4 what key n hi h0 h1 (in14 w20 e20) (hA14 w20 e20) hl fun p bw w23 S e23 hp hb hS => ⟨_, rfl, ?_⟩
    rw [hx] at hS
    have hmi := told hS (fun j => Iff.rfl)
    have E23 := e20.trans e23
    refine set_c (W14.ext0 E23) hi4 hS.set (by rw [hx]; exact hS.size) hmi (yI w23 E23) fun w26 e26 => ⟨_, rfl, sel_false rfl fun w27 h27 => ?_⟩
    obtain ⟨A28, c28, w29, hr29, x29, sets29⟩ := sets20.more (by omega) (e23.trans e26) hp hb (hS.set.ext0 e26) (hS.size.trans hN) (fun j => by
      rw [Bool.eq_iff_iff, decide_eq_true_eq, ← hmi, mem_mi hS.set.ok]
      constructor
      · intro hj; exact ⟨j, rfl, hj⟩
      · rintro ⟨j', e, hj⟩
        have : j = j' := by omega
        subst this; exact hj) z20 h27
    refine ⟨A28, _, c28, w29, hr29, ?_⟩
    rw [up64 ls (by omega)]
    exact ⟨⟨ls + 1, _, rfl, by omega, rfl, e20.trans' x29 (fun b hb => .inr (sets20.rows.base b hb).1), sets29⟩, by simp only [Int.toNat_natCast]; omega⟩
  have h6 : ls = 6 := by omega
  subst h6
  have setM : ∀ {w' : World} {r : Rw} {T : SetV}, SetAt w' r.p r.b T → T.N = N → (∀ j, T.mem j = decide ((j : Int) ∈ ys)) → T.mi = ys := fun hs _ hm => mi_dec hs.ok hrY hnat hm
  -- the count of what is asked for
  obtain ⟨cnt0, hc0, hc0'⟩ : ∃ T0 : SetV, T0.N = N ∧ T0.mi = ys ∧ ∀ j, T0.mem j = decide ((j : Int) ∈ ys) := by
    obtain ⟨r, ad, hr, _⟩ := sets20.row (a := 0) (by omega)
    obtain ⟨T, q1, q2, q3⟩ := sets20.set 0 r hr
    exact ⟨T, q2, setM q1 q2 q3, q3⟩
  have hys : ys.length = (List.range N).countP fun j : Nat => decide ((j : Int) ∈ ys) := by
    rw [← hc0'.1, mi_length]
    unfold SetV.count SetV.rank
    rw [hc0]
    refine List.countP_congr fun j _ => ?_
    rw [hc0'.2 j, hc0'.1]
  refine ⟨fun t w' => ∃ a : Nat, t = a ∧ a ≤ 6 ∧ Ext [] w20 w', fun t _ => 6 - t.toNat, ⟨0, rfl, by omega, Ext.refl _ _⟩, ?_⟩
  rintro _ _ w34 ⟨a, rfl, ha', e34⟩
  have E34 := e20.trans e34
  have sets34 := sets20.ext0 e34
  refine sel_dec (fun hlt => ?_) (fun hge => ?_)
  · have hlt : a < 6 := by omega
    obtain ⟨r, ad, hr, rfl, hc⟩ := sets34.row (a := a) hlt
    obtain ⟨T, q1, q2, q3⟩ := sets34.set a r hr
    refine when_dec ⟨by omega, by omega⟩ (ptr_in ⟨_, hc, set_c (W14.ext0 E34) hi4 q1 (by rw [hx, hN]; exact q2) (setM q1 q2 q3) (yI w34 E34) fun w39 e39 => ⟨_, rfl, sel_false rfl ?_⟩⟩)
    rw [up64 a (by omega)]
    exact ⟨⟨a + 1, rfl, by omega, e34.trans e39⟩, by simp only [Int.toNat_natCast]; omega⟩
  refine ptr_in (when_dec ⟨by omega, by omega⟩ ⟨_, w_ptr (W14.ext0 E34).blk hi4, sel_intro (fun _ => k w34 (E14.trans E34)) (fun hq => ?_)⟩)
  -- all are turned about
  refine ⟨fun t w' => ∃ a : Nat, t = a ∧ a ≤ 6 ∧ Ext [] w14 w' ∧ Sets w14.heap.size w' As 6 cs rs N (fun j i => if j < a then (decide (i < N) && !decide ((i : Int) ∈ ys)) else decide ((i : Int) ∈ ys)), fun t _ => 6 - t.toNat, ⟨0, rfl, by omega, E34, by simpa using sets34⟩, ?_⟩
  rintro _ _ w46 ⟨a2, rfl, ha2, e46, sets46⟩
  refine sel_dec (fun hlt => ?_) (fun hge2 => ?_)
  · have hlt : a2 < 6 := by omega
    obtain ⟨r, ad, hr, hAs, hc⟩ := sets46.row (a := a2) hlt
    obtain ⟨T, q1, q2, q3⟩ := sets46.set a2 r hr
    have hlow := sets46.low r (List.mem_of_getElem? hr)
    have sets46' := sets46
    rw [hAs] at sets46'
    refine when_dec ⟨by omega, by omega⟩ ?_
    rw [hAs]
    refine ptr_in ⟨_, hc, turn_c q1 ((hall.ext0 E14).ext0 e46) q2 (hAN.trans hN) (by rw [← hN]; exact hAm) fun w50 T' x50 s50 hN50 hm50 => ⟨rfl, ?_⟩⟩
    rw [up64 a2 (by omega)]
    refine ⟨⟨a2 + 1, rfl, by omega, e46.trans' x50 (fun b hb => .inr (by simp at hb; omega)), sets46'.touch hr x50 s50 hN50 (fun j => ?_) (fun j' j hne => ?_)⟩, by simp only [Int.toNat_natCast]; omega⟩
    · rw [hm50, q3, if_neg (Nat.lt_irrefl _), if_pos (by omega)]
    · by_cases hlt2 : j' < a2
      · rw [if_pos hlt2, if_pos (by omega)]
      · rw [if_neg hlt2, if_neg (by omega)]
  have h62 : a2 = 6 := by omega
  subst h62
  refine ⟨fun t w' => ∃ a : Nat, t = a ∧ a ≤ 6 ∧ Ext [] w46 w', fun t _ => 6 - t.toNat, ⟨0, rfl, by omega, Ext.refl _ _⟩, ?_⟩
  rintro _ _ w55 ⟨a3, rfl, ha3, e55⟩
  have E55 := e46.trans e55
  have sets55 := sets46.ext0 e55
  refine sel_dec (fun hlt => ?_) (fun hge3 => ?_)
  · have hlt : a3 < 6 := by omega
    obtain ⟨r, ad, hr, hAs, hc⟩ := sets55.row (a := a3) hlt
    obtain ⟨T, q1, q2, q3⟩ := sets55.set a3 r hr
    have q3' : ∀ j, T.mem j = (decide (j < N) && !decide ((j : Int) ∈ ys)) := fun j => by rw [q3, if_pos hlt]
    have hcnt : T.count + ys.length = N := by
      rw [hys]
      unfold SetV.count SetV.rank
      rw [q2, Nat.add_comm]
      have := countP_compl (p := fun j : Nat => decide ((j : Int) ∈ ys)) (q := T.mem) (List.range N) fun j hj => by
        rw [q3', decide_eq_true (List.mem_range.1 hj), Bool.true_and]
      simpa using this
    have N65 : N ≤ 65536 := by rw [← q2]; exact q1.ok.N
    refine when_dec ⟨by omega, by omega⟩ ?_
    rw [hAs]
    refine ptr_in ⟨_, hc, Count_c q1.ref ⟨_, rfl, Size_c q1.ref ⟨_, rfl, sel_false ?_ ?_⟩⟩⟩
    · rw [q2, w64 (by omega) (by omega), bne_eq_false_iff_eq]; omega
    refine ⟨fun t w' => ∃ b : Nat, t = b ∧ b ≤ m ∧ Ext [] w55 w', fun t _ => m - t.toNat, ⟨0, rfl, by omega, Ext.refl _ _⟩, ?_⟩
    rintro _ _ w68 ⟨b, rfl, hb, e68⟩
    refine sel_dec (fun hlt2 => ?_) (fun hge4 => ?_)
    · have hlt2 : b < m := by omega
      obtain ⟨z, hz⟩ : ∃ z, ys[b]? = some z := ⟨ys[b]'(by omega), List.getElem?_eq_getElem (by omega)⟩
      obtain ⟨ad2, hB, hcz⟩ := il_cell (ownY.ext0 (E55.trans e68)).cells hz
      obtain ⟨j, rfl⟩ := hnat z (List.mem_of_getElem? hz)
      rw [hB]
      refine when_dec ⟨by omega, by omega⟩ (ptr_in ⟨_, hcz, Has_c (q1.ext0 e68).ref _ ⟨_, rfl, sel_false ?_ ?_⟩⟩)
      · rw [SetV.has_nat, q3', decide_eq_true (List.mem_of_getElem? hz)]; simp
      · rw [up64 b (by omega)]
        exact ⟨⟨b + 1, rfl, by omega, e68⟩, by simp only [Int.toNat_natCast]; omega⟩
    · rw [up64 a3 (by omega)]
      exact ⟨⟨a3 + 1, rfl, by omega, e55.trans e68⟩, by simp only [Int.toNat_natCast]; omega⟩
  refine ask_c (W14.ext0 E55) hcap hi4 what key n hi h0 h1 (in14 w55 E55) (hA14 w55 E55) hl fun p bw w76 S e76 hp hb hS => ⟨_, rfl, ?_⟩
  rw [hx] at hS
  have E76 := E55.trans e76
  exact set_c (W14.ext0 E76) hi4 hS.set (by rw [hx]; exact hS.size) (told hS (fun j => Iff.rfl)) (yI w76 E76) fun w79 e79 => ⟨_, rfl, k w79 (E14.trans (E76.trans e79))⟩
set_option maxRecDepth 8000 in
set_option maxHeartbeats 4000000 in
theorem owns_c {w : World} {base g cap : Nat} {es : Nat → En} (h : WAt w base g cap es) (hcap : cap ≤ 1100000) {i : Nat} (hi4 : i < 4) (key : ByteArray) {A : Option Addr} {l c : Nat} {ns : List Int} (hns : Ints w .i64 A l ns) (hA : ∀ ad, A = some ad → ad.block < w.heap.size) (hl : l ≤ 1048576) {R : Ending → World → Prop} (k : ∀ w', Ext [] w w' → R (.returned (.bool true)) w') :
    Calls Tryz.prog 8 #[.pointer (some ⟨g, 0, none⟩), .int .i64 (i : Int), .string key, .slice A l c] w R := by
  apply berthlaw08_World_owns_nf
  have hen := h.en i hi4
  have small : (es i).x.N ≤ 65536 := (hen.b (by omega)).g.r.small
  refine ptr_in (when_dec ⟨by omega, by omega⟩ ⟨_, w_size h.blk hi4, ?_⟩)
  rw [hen.N]
  refine full_c small fun pa ba SA w9 e9 hpa hba sA hAN hAm => ⟨_, rfl, ?_⟩
  have inI : ∀ w', Ext [] w w' → Ints w' .i64 A l ns := fun w' e => hns.ext0 e
  have hAl : ∀ w', Ext [] w w' → ∀ ad, A = some ad → ad.block < w'.heap.size := fun w' e ad ea => by have := hA ad ea; have := e.size; omega
  refine own_c (h.ext0 e9) hcap hi4 10 key 0 0 (by omega) (by omega) (inI w9 e9) (hAl w9 e9) hl sA hAN hAm fun w12 e12 => ⟨_, rfl, sel_false rfl ?_⟩
  have E12 := e9.trans e12
  refine own_c (h.ext0 E12) hcap hi4 11 key 0 0 (by omega) (by omega) (inI w12 E12) (hAl w12 E12) hl (sA.ext0 e12) hAN hAm fun w15 e15 => ⟨_, rfl, sel_false rfl ?_⟩
  have E15 := E12.trans e15
  have sA15 := (sA.ext0 e12).ext0 e15
  refine ptr_in (when_dec ⟨by omega, by omega⟩ ⟨_, _, _, _, w_doc (h.ext0 E15).blk hi4, ?_⟩)
  refine DocNumbers_c (hen.doc.ext0 E15) (by have := hen.dl; omega) key fun B m cB ys w21 e21 own hr hm => ⟨_, _, _, rfl, ?_⟩
  have E21 := E15.trans e21
  have sA21 := sA15.ext0 e21
  have hyl := own.len
  have rng : ∀ z ∈ ys, -9223372036854775808 ≤ z ∧ z ≤ 9223372036854775807 := fun z hz => by
    obtain ⟨r, hr', ⟨h1, _⟩, h3⟩ := (hm z).1 hz
    exact hen.rng key r.slot z ((hen.rel.tell key r.slot z).2 ⟨r, hr', h1, rfl, h3⟩)
  have hml : m ≤ 8000000000000 := by
    have h1 := hen.rel.nums hen.ok hr hm
    have h2 := (hen.b (by omega)).g.r.rows (hen.b (by omega)).g.few key
    rw [h1, List.length_map] at hyl; omega
  refine ⟨fun t w' => ∃ a : Nat, t = a ∧ a ≤ m ∧ Ext [] w21 w', fun t _ => m - t.toNat, ⟨0, rfl, by omega, Ext.refl _ _⟩, ?_⟩
  rintro _ _ w26 ⟨a, rfl, ha, e26⟩
  refine sel_dec (fun hlt => ?_) (fun hge => k w26 (E21.trans e26))
  have hlt : a < m := by omega
  obtain ⟨z, hz⟩ : ∃ z, ys[a]? = some z := ⟨ys[a]'(by omega), List.getElem?_eq_getElem (by omega)⟩
  obtain ⟨ad, hB, hc⟩ := il_cell (own.cells.ext0 e26) hz
  have hzr := rng z (List.mem_of_getElem? hz)
  rw [hB]
  refine when_dec ⟨by omega, by omega⟩ (ptr_in ⟨_, hc, sel_dec (fun _ => k w26 (E21.trans e26)) (fun h20 => ?_)⟩)
  have e1 : IntKind.wrap .i64 (((m : Nat) : Int) - 1) = ((m - 1 : Nat) : Int) := by rw [w64 (by omega) (by omega)]; omega
  have e2 : IntKind.wrap .i64 ((a : Int) + 1) = ((a + 1 : Nat) : Int) := up64 a (by omega)
  rw [e1, e2]
  obtain ⟨q, hq, hqm⟩ : ∃ q : Nat, (if ((m - 1 : Nat) : Int) < ((a + 1 : Nat) : Int) then ((m - 1 : Nat) : Int) else ((a + 1 : Nat) : Int)) = (q : Int) ∧ q < m := by
    split
    · exact ⟨m - 1, rfl, by omega⟩
    · exact ⟨a + 1, rfl, by omega⟩
  rw [hq]
  obtain ⟨z2, hz2⟩ : ∃ z2, ys[q]? = some z2 := ⟨ys[q]'(by omega), List.getElem?_eq_getElem (by omega)⟩
  obtain ⟨ad2, hB2, hc2⟩ := il_cell (own.cells.ext0 e26) hz2
  rw [hB] at hB2
  cases hB2
  refine when_dec ⟨by omega, by omega⟩ (ptr_in ⟨_, hc2, ?_⟩)
  refine ⟨fun t w' => ∃ b : Nat, t = b ∧ b ≤ 10 ∧ Ext [] w26 w', fun t _ => 10 - t.toNat, ⟨0, rfl, by omega, Ext.refl _ _⟩, ?_⟩
  rintro _ _ w35 ⟨b, rfl, hb, e35⟩
  have E35 := E21.trans (e26.trans e35)
  refine sel_dec (fun hle => ?_) (fun hgt => ?_)
  · refine own_c (h.ext0 E35) hcap hi4 (b : Int) key z z2 hzr.1 hzr.2 (inI w35 E35) (hAl w35 E35) hl (sA21.ext0 (e26.trans e35)) hAN hAm fun w38 e38 => ⟨_, rfl, sel_false rfl ?_⟩
    rw [up64 b (by omega)]
    exact ⟨⟨b + 1, rfl, by omega, e35.trans e38⟩, by simp only [Int.toNat_natCast]; omega⟩
  · exact ⟨⟨a + 1, rfl, by omega, e26.trans e35⟩, by simp only [Int.toNat_natCast]; omega⟩
end Go.Proofs.YtjlkdadafddodaaGreatDoor
namespace Go.Proofs.YtjlkdadafddodaaGreatDoor
open Go Go.V Go.B

def flip (x : Int) : Int := IntKind.wrap .i64 ((BitVec.toNat (BitVec.ofInt 64 x ^^^ BitVec.ofInt 64 1) : Nat) : Int)
theorem wrap_mod (x : Int) : (IntKind.wrap .i64 x = x % 18446744073709551616 ∧ x % 18446744073709551616 < 9223372036854775808) ∨ (IntKind.wrap .i64 x = x % 18446744073709551616 - 18446744073709551616 ∧ 9223372036854775808 ≤ x % 18446744073709551616) := by
  unfold IntKind.wrap
  simp only [IntKind.bits, IntKind.signed, Bool.true_and]
  split
  · rename_i h
    right
    refine ⟨rfl, ?_⟩
    have := of_decide_eq_true h
    omega
  · rename_i h
    left
    refine ⟨rfl, ?_⟩
    have : ¬ _ := fun hh => h (decide_eq_true hh)
    omega
theorem flip_flip {x : Int} (h0 : -9223372036854775808 ≤ x) (h1 : x ≤ 9223372036854775807) : flip (flip x) = x := by
  have key : BitVec.ofInt 64 (flip x) = BitVec.ofInt 64 x ^^^ BitVec.ofInt 64 1 := by
    unfold flip
    generalize BitVec.ofInt 64 x ^^^ BitVec.ofInt 64 1 = u
    apply BitVec.eq_of_toNat_eq
    rw [BitVec.toNat_ofInt]
    have hu : u.toNat < 18446744073709551616 := u.isLt
    rcases wrap_mod (u.toNat : Int) with ⟨e, _⟩ | ⟨e, _⟩ <;> rw [e] <;> omega
  show IntKind.wrap .i64 ((BitVec.toNat (BitVec.ofInt 64 (flip x) ^^^ BitVec.ofInt 64 1) : Nat) : Int) = x
  rw [key, BitVec.xor_assoc, BitVec.xor_self, BitVec.xor_zero, BitVec.toNat_ofInt]
  rcases wrap_mod (((x % ((2 ^ 64 : Nat) : Int)).toNat : Nat) : Int) with ⟨e, h⟩ | ⟨e, h⟩ <;> rw [e] <;> omega
def flN (a : Nat) (xs : List Int) : List Int := (xs.take a).map flip ++ xs.drop a
theorem flN_len (a : Nat) (xs : List Int) : (flN a xs).length = xs.length := by
  unfold flN; simp; omega
theorem flN_zero (xs : List Int) : flN 0 xs = xs := by simp [flN]
theorem flN_at {a : Nat} {xs : List Int} {x : Int} (h : xs[a]? = some x) : (flN a xs)[a]? = some x := by
  have hl := (List.getElem?_eq_some_iff.1 h).1
  unfold flN
  rw [List.getElem?_append_right (by simp; omega)]
  have : a - ((xs.take a).map flip).length = 0 := by simp; omega
  rw [this, List.getElem?_drop, Nat.add_zero]; exact h
theorem flN_set {a : Nat} {xs : List Int} {x : Int} (h : xs[a]? = some x) : (flN a xs).set a (flip x) = flN (a + 1) xs := by
  obtain ⟨hl, e⟩ := List.getElem?_eq_some_iff.1 h
  unfold flN
  rw [List.set_append_right _ _ (by simp; omega)]
  have : a - ((xs.take a).map flip).length = 0 := by simp; omega
  rw [this, snoc_at h, List.drop_eq_getElem_cons hl, e]
  simp
theorem flN_app {xs ys : List Int} : flN xs.length (xs ++ ys) = xs.map flip ++ ys := by
  unfold flN; simp
theorem flN_back {xs ys : List Int} (h : ∀ z ∈ xs, -9223372036854775808 ≤ z ∧ z ≤ 9223372036854775807) : flN xs.length (flN xs.length (xs ++ ys)) = xs ++ ys := by
  rw [flN_app]
  have e : xs.length = (xs.map flip).length := by simp
  rw [e, flN_app, List.map_map]
  congr 1
  conv => rhs; rw [← List.map_id xs]
  refine List.map_congr_left fun z hz => ?_
  exact flip_flip (h z hz).1 (h z hz).2
/-- The first of a list's numbers are turned about. -/
theorem flip_c {w : World} {N0 l c : Nat} {A : Option Addr} {xs : List Int} (own : OwnL IL w N0 3 A (l + 4) c xs) (hl : l ≤ 1048576) {K : World → Prop} (kk : ∀ w', Ext (ownF A) w w' → OwnL IL w' N0 3 A (l + 4) c (flN l xs) → K w') :
    ∃ I68 : Int → World → Prop, ∃ μ69 : Int → World → Nat, I68 0 w ∧
  ∀ t78_70 (j71 : Nat → Value) (w72 : World), I68 t78_70 w72 →
  (V.sel (decide (t78_70 < ((((l : Nat) - 0) : Nat) : Int)))
  (V.when (decide ((0 : Int) ≤ t78_70 ∧ (t78_70 : Int) < ((((l : Nat) - 0) : Nat) : Int))) (V.ptr A fun a73 =>
  ∃ n74, World.cell? w72 (Addr.add a73 ((Int.toNat t78_70) * 1)) = some (Value.int .i64 n74) ∧
  V.when (decide ((0 : Int) ≤ t78_70 ∧ (t78_70 : Int) < ((((l : Nat) - 0) : Nat) : Int))) (V.ptr A fun a75 =>
  ∃ w76, Sem.run Tryz.prog (Instr.storeAt 3 (Value.pointer (some (Addr.add a75 ((Int.toNat t78_70) * 1)))) (Value.int .i64 (IntKind.wrap .i64 ((BitVec.toNat (BitVec.ofInt 64 n74 ^^^ BitVec.ofInt 64 1) : Nat) : Int)))) w72 = .ok () w76 ∧
  I68 (IntKind.wrap .i64 (t78_70 + 1)) w76 ∧ μ69 (IntKind.wrap .i64 (t78_70 + 1)) w76 < μ69 t78_70 w72)))
  (K w72)) := by
  have hlen := own.len
  refine ⟨fun t w' => ∃ a : Nat, t = a ∧ a ≤ l ∧ Ext (ownF A) w w' ∧ OwnL IL w' N0 3 A (l + 4) c (flN a xs), fun t _ => l - t.toNat, ⟨0, rfl, by omega, Ext.refl _ _, by rw [flN_zero]; exact own⟩, ?_⟩
  rintro _ _ w72 ⟨a, rfl, ha, e72, own72⟩
  refine sel_dec (fun hlt => ?_) (fun hge => ?_)
  · have hlt : a < l := by omega
    obtain ⟨x, hx⟩ : ∃ x, xs[a]? = some x := ⟨xs[a]'(by omega), List.getElem?_eq_getElem (by omega)⟩
    obtain ⟨ad, hA, hc⟩ := il_cell own72.cells (flN_at hx)
    obtain ⟨g, w76, hg, hr76, own76, x76⟩ := own72.set1 (P := Tryz.prog) (i := a) (y := flip x) (v := .int .i64 (flip x)) (by omega) rfl rfl (t := 3) i3s' rfl
    rw [flN_set hx] at own76
    rw [hA]
    rw [hA] at hg
    cases hg
    refine when_dec ⟨by omega, by omega⟩ (ptr_in ⟨_, hc, when_dec ⟨by omega, by omega⟩ (ptr_in ⟨w76, by rw [Int.toNat_natCast]; exact hr76, ?_⟩)⟩)
    rw [up64 a (by omega)]
    rw [hA] at e72 x76 own76
    exact ⟨⟨a + 1, rfl, by omega, e72.trans x76, own76⟩, by simp only [Int.toNat_natCast]; omega⟩
  · have : a = l := by omega
    subst this
    exact kk w72 e72 own72
end Go.Proofs.YtjlkdadafddodaaGreatDoor
