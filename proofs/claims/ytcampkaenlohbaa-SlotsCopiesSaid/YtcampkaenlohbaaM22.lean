/- Slots: a script played on one table and on the document's. -/
import Derived.Test.YtcampkaenlohbaaM21
set_option linter.unusedVariables false
set_option linter.unusedSimpArgs false
namespace Go.Proofs.Ytcampkaenlohbaa
open Go Go.V Go.B

/-- The blocks of the document's rows. -/
def dA (A : Option Addr) (n : Nat) : List Nat := if n = 0 then [] else ownF A
theorem dA_lt {w : World} {A : Option Addr} {n : Nat} {s : TS} {ds : List DR} (h : Dc w A n s ds) : ∀ b ∈ dA A n, b < w.heap.size := by
  intro b hb
  unfold dA at hb
  split at hb
  · simp at hb
  · exact h.blk_lt (by assumption) b hb
theorem Dc.extD {F : List Nat} {w w' : World} {A : Option Addr} {n : Nat} {s : TS} {ds : List DR} (h : Dc w A n s ds) (e : Ext F w w') (hF : ∀ b ∈ dA A n, b ∉ F) : Dc w' A n s ds :=
  h.extT e fun hn b hb => hF b (by unfold dA; rw [if_neg hn]; exact hb)
set_option maxRecDepth 4000 in
theorem after_c {w : World} {p : Option Nat} {f : List Nat} {s : TS} {A : Option Addr} {n c : Nat} {ds : List DR} (ht : Tb w p f s) (hd : Dc w A n s ds) (hdis : ∀ b ∈ dA A n, b ∉ f) {S : Option Addr} {ln sc : Nat} {ops : List Op} (hS : ∀ w', Ext f w w' → OpsAt w' S ln ops) {R : Ending → World → Prop}
    (k : ∀ w' f' s' A' n' c' ds', Ext f w w' → Tb w' p f' s' → Dc w' A' n' s' ds' → (∀ b ∈ f', b ∈ f ∨ w.heap.size ≤ b) → (∀ b ∈ dA A' n', b ∈ f ∨ b ∈ dA A n ∨ w.heap.size ≤ b) → (∀ b ∈ dA A' n', b ∉ f') → R (.returned (.tuple #[.agg ⟨dt (s'.most : Int) A' n' c'⟩, .bool true])) w') :
    Calls Try.prog 26 #[pv p, .agg ⟨dt (s.most : Int) A n c⟩, .slice S ln sc] w R := by
  have hlt := ht.lt
  have hln := (hS w (Ext.refl _ _)).2.2
  unfold dt
  apply berthlaw05_after_nf
  intro w5 h5 w6 h6 w7 h7
  obtain ⟨b5, x5, z5⟩ := box_new (cs := dt (s.most : Int) A n c) h5
  obtain ⟨b6, x6, z6⟩ := box_new (cs := [.int .i64 0, .slice none 0 0]) h6
  obtain ⟨b7, x7, z7⟩ := box_new (cs := wcells [Reg.none, Reg.none, Reg.none, Reg.none]) h7
  have e6 : Ext [] w w6 := x5.trans x6
  have e7 := e6.trans x7
  obtain ⟨tag, htag⟩ : ∃ tag : Nat → Nat, tag = fun b => if b ∈ f then 1 else if b < w6.heap.size then (if b ∈ dA A n then 6 else 9) else if b = w6.heap.size then 5 else 7 := ⟨_, rfl⟩
  have st7 : St w6 f (dA A n) w7 w6.heap.size tag [Reg.none, Reg.none, Reg.none, Reg.none] 4 := by
    refine ⟨x7.up, rfl, b7, ?_, fun b hb hx => ?_, fun i r hi hr => ?_⟩
    · have : w6.heap.size ∉ f := fun h => by have := hlt _ h; omega
      rw [htag]; simp [this]
    · rw [htag]
      simp only [hx, hb, if_false, if_true]
      split
      · exact .inr ⟨rfl, by assumption⟩
      · exact .inl rfl
    · have : r = Reg.none := by
        match i, hr with
        | 0, hr => cases hr; rfl
        | 1, hr => cases hr; rfl
        | 2, hr => cases hr; rfl
        | 3, hr => cases hr; rfl
        | n + 4, hr => simp at hr
      subst this
      exact ⟨⟨rfl, rfl⟩, by simp [Reg.none], ⟨Cells.nil _ _, rfl, Dm.nil⟩, fun hn => absurd rfl hn⟩
  have r7 : RegAt w7 tag 1 ⟨p, f, s, A, n, c, ds⟩ := by
    refine ⟨ht.ext0 e7, fun b hb => by rw [htag]; simp [show b ∈ f from hb], hd.ext0 e7, fun hn b hb => ?_⟩
    have hb' : b ∈ dA A n := by unfold dA; rw [if_neg hn]; exact hb
    have h1 := dA_lt hd b hb'
    rw [htag]
    simp only [hdis b hb', if_false, hb', if_true]
    rw [if_pos (by omega)]
  have b7d : BlkT w7.drew w6.heap.size (wcells [Reg.none, Reg.none, Reg.none, Reg.none]) 57 := b7
  obtain ⟨w12, hr12, b12, x12⟩ := put_p b7d rfl (i := 1) (by omega) p
  obtain ⟨w13, hr13, b13, x13⟩ := put_d b12 rfl (i := 1) (by omega) (s.most : Int) A n c
  have hb5 : w.heap.size ∉ [w6.heap.size] := by simp; omega
  have x12' := x12.undrew
  have b5w7 := (b5.ext0 x6).ext0 x7
  refine ⟨fun w' => Ext [w6.heap.size] w7 w', (Ext.refl _ _).drew, _, _, _, _, cellsC_S fun w' (e : Ext [w6.heap.size] w7 w') => cadd0 (b5w7.ext e hb5), w12, hr12, x12', w13, hr13, x12'.trans x13, ?_⟩
  have st13 := (st7.but 1).put (by omega) ⟨p, f, s, A, n, c, ds⟩ b13 (x12'.trans x13) r7
  refine ⟨fun t w' => ∃ a : Nat, t = a ∧ a ≤ ln ∧ ∃ tag r, St w6 f (dA A n) w' w6.heap.size tag [Reg.none, r, Reg.none, Reg.none] 4 ∧ r.p = p, fun t _ => ln - t.toNat, ⟨0, rfl, by omega, _, _, st13, rfl⟩, ?_⟩
  rintro _ _ w18 ⟨a, rfl, ha, tag1, r, st, hp⟩
  have e18 : Ext f w w18 := e6.up.trans st.e
  have nf : ∀ g, w.heap.size ≤ g → g ∉ f := fun g hg hm => by have := hlt _ hm; omega
  refine sel_dec (fun hlt' => ?_) (fun _ => ?_)
  · obtain ⟨o, ad, hoo, rfl, ro⟩ := (hS w18 e18).read (a := a) (by omega)
    refine when_dec ⟨by omega, by omega⟩ (ptr_in ⟨_, _, _, _, _, ro, fun w25 h25 => ?_⟩)
    obtain ⟨w26, hr26, b26, e26⟩ := op_box (o := o) h25
    obtain ⟨w27, hr27, b27, x27⟩ := store1a (P := Try.prog) (v := .int .i64 1) i3s b26 (i := 1) (by simp [Op.cells]) rfl rfl
    have b27' : BlkT w27 w18.heap.size ({ o with at_ := 1 } : Op).cells 31 := b27
    have e27 : Ext [] w18 w27 := e26.trans' x27 (fun b hb => .inr (by simp at hb; omega))
    have st27 := st.ext0 7 e27
    have fin : ∀ w' tag r, St w6 f (dA A n) w' w6.heap.size tag [Reg.none, r, Reg.none, Reg.none] 4 → r.p = p → (∃ a1 : Nat, IntKind.wrap .i64 ((a : Int) + 1) = (a1 : Int) ∧ a1 ≤ ln ∧ ∃ tag r, St w6 f (dA A n) w' w6.heap.size tag [Reg.none, r, Reg.none, Reg.none] 4 ∧ r.p = p) ∧ ln - (IntKind.wrap .i64 ((a : Int) + 1)).toNat < ln - (a : Int).toNat := fun w' tag r h1 h2 => by
      rw [up64 a (by omega)]
      exact ⟨⟨a + 1, rfl, by omega, tag, r, h1, h2⟩, by simp only [Int.toNat_natCast]; omega⟩
    refine ⟨w26, hr26, w27, hr27, _, cadd b27' (i := 0) rfl, sel_dec (fun h2 => ?_) (fun _ => fin _ _ _ st27 hp)⟩
    refine ⟨_, cadd b27' (i := 0) rfl, sel_dec (fun h4 => ?_) (fun _ => fin _ _ _ st27 hp)⟩
    refine ⟨_, _, _, _, _, cadd0 b27', changes_c st27 { o with at_ := 1 } (i := 1) (by omega) fun w37 hw37 => ⟨_, rfl, sel_false rfl ?_⟩⟩
    obtain ⟨tag', r', st', hk⟩ := hw37
    exact fin _ _ _ st' ((hk (by have h2' : o.kind ≥ 2 := h2; show o.kind ≠ 1; omega) r rfl).trans hp)
  · have hr1 := st.regs 1 r (by omega) rfl
    have b6' : BlkT w18 w5.heap.size [.int .i64 0, .slice none 0 0] 54 := b6.ext st.e (nf _ x5.size)
    obtain ⟨w45, hr45, b45, x45⟩ := dt_box (w0 := w18) b6' rfl (r.s.most : Int) r.A r.n r.c
    refine ⟨_, _, _, _, st.read_d (i := 1) (r := r) rfl, w45, hr45, _, _, _, _, cadd0 b45, ?_⟩
    have h5s := x5.size
    have n6 : ∀ b ∈ r.f, b ∉ [w5.heap.size] := fun b hb hm => ?_
    · have htg : ∀ b ∈ dA r.A r.n, tag1 b = 6 := fun b hb => by
        unfold dA at hb
        split at hb
        · simp at hb
        · exact hr1.dd (by assumption) b hb
      have nd : ∀ b ∈ dA r.A r.n, b ∉ [w5.heap.size] := fun b hb hm => by
        have h1 : b = w5.heap.size := by simpa using hm
        have h2 := htg b hb
        have hbf : b ∉ f := nf _ (by omega)
        rcases st.old b (by omega) hbf with h3 | ⟨_, h3⟩
        · omega
        · have := dA_lt hd b h3
          omega
      refine k w45 r.f r.s r.A r.n r.c r.ds (e18.trans' x45 fun b hb => .inr (by simp at hb; omega)) ?_ (hr1.d.extD x45 nd) (fun b hb => ?_) (fun b hb => ?_) (fun b hb hm => ?_)
      · rw [← hp]; exact hr1.t.ext x45 n6
      · rcases st.own (b := b) (by have := hr1.tt b hb; omega) with h | h
        · exact .inl h
        · exact .inr (by have := e6.size; omega)
      · by_cases hbf : b ∈ f
        · exact .inl hbf
        · rcases Nat.lt_or_ge b w6.heap.size with h1 | h1
          · rcases st.old b h1 hbf with h3 | ⟨_, h3⟩
            · have := htg b hb; omega
            · exact .inr (.inl h3)
          · exact .inr (.inr (by have := e6.size; omega))
      · have h1 := htg b hb
        have h2 := hr1.tt b hm
        omega
    · have h1 : b = w5.heap.size := by simpa using hm
      rcases st.own (b := b) (by have := hr1.tt b hb; omega) with h | h
      · exact nf _ (by omega) h
      · omega
end Go.Proofs.Ytcampkaenlohbaa
