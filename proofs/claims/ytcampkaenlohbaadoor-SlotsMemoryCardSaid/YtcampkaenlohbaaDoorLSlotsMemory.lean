/- SlotsMemory: whatever script comes in, where the powers of ten stand, Names answers new memory each time, spare room too. -/
import Derived.Test.YtcampkaenlohbaaDoorP1
import Derived.Test.YtcampkaenlohbaaDoorL1L
import Derived.Test.YtcampkaenlohbaaDoorL2L
import Derived.Test.YtcampkaenlohbaaDoorRows
import Derived.Test.YtcampkaenlohbaaDoorTie
import Derived.Test.YtcampkaenlohbaaDoorCards
import Derived.ProofKit
import Derived.LaidMore
import Derived.OpenShut
import Derived.Stop.Joined
import Derived.SevenTiedAt
import Derived.LaidHandle
set_option linter.unusedVariables false
set_option linter.unusedSimpArgs false
namespace Go.Proofs.YtcampkaenlohbaaDoor
open Go Go.V Go.B
open Go.ChangeShapes Go.WideShapes Go.ChangeAt Go.RowKit

theorem own : ownKnob Tryd.prog.godebug = none := by kernel_rfl
theorem laidOut : laidOutB Tryd.prog = true := by kernel_rfl
def it (k : Nat) : ByteArray := ⟨(Go.Lib.itoa (k : Int)).toArray⟩
theorem it_size (k : Nat) : (it k).size ≤ k + 1 := by
  have h : (it k).size = (Go.Lib.decDigits k).length := by
    unfold it Go.Lib.itoa
    rw [if_neg (by omega), Int.toNat_natCast]
    simp [ByteArray.size]
  have := dec_len k
  omega
theorem one_size (c : UInt8) : ByteArray.size ⟨#[c]⟩ = 1 := rfl
def til (k j : Nat) : ByteArray := (((⟨#[126]⟩ : ByteArray) ++ it k) ++ ⟨#[126]⟩) ++ it j
def star (k : Nat) : ByteArray := (⟨#[42]⟩ : ByteArray) ++ it k
def plus (k : Nat) : ByteArray := (⟨#[43]⟩ : ByteArray) ++ it k
theorem names_le {w : World} {p : Option Nat} {f : List Nat} {s : TS} (h : Tb w p f s) : (srt (names s.rows)).length ≤ 65536 := by
  have h1 := h.len
  have h2 := prs_len s.rows
  have : (srt (names s.rows)).length = (prs s.rows).length := by simp [srt, names]
  omega
def Qt (k : Nat) (ys : List ByteArray) : Prop := ∀ i x, ys[i]? = some x → x = til k i
def Q5 (a j : Nat) (k : Nat) (ys : List ByteArray) : Prop := (k < a → Qt k ys) ∧ (k = a → ∀ i x, i < j → ys[i]? = some x → x = til k i)
theorem str_row {w : World} {B n c : Nat} {A : Option Addr} {xs : List ByteArray} (h : OwnL SL w B 9 A n c xs) {a : Nat} (ha : a < n) : ∃ x ad, xs[a]? = some x ∧ A = some ad ∧ w.cell? (ad.add (Int.toNat (a : Int) * 1)) = some (.string x) := by
  obtain ⟨x, ad, h1, h2, h3⟩ := h.row ha
  exact ⟨x, ad, h1, h2, by have := h3 0 _ rfl; rwa [Addr.add_zero'] at this⟩
theorem ent_row {w : World} {B n c : Nat} {A : Option Addr} {xs : List Ent} (h : OwnL EL w B 68 A n c xs) {a : Nat} (ha : a < n) : ∃ x ad, xs[a]? = some x ∧ A = some ad ∧ w.cell? (ad.add (Int.toNat (a : Int) * 1)) = some (.slice x.1 x.2.1 x.2.2) := by
  obtain ⟨x, ad, h1, h2, h3⟩ := h.row ha
  exact ⟨x, ad, h1, h2, by have := h3 0 _ rfl; rwa [Addr.add_zero'] at this⟩
/-- One list's turn of the last filling: what append makes of it. -/
theorem star_c {N k : Nat} {w : World} {ea : Ent} {zs : List ByteArray} (hk : k < 18) (hN : N ≤ w.heap.size) (hp : ∀ w', Ext (ownF ea.1) w w' → Pow w') (own : OwnL SL w N 9 ea.1 ea.2.1 ea.2.2 zs) (hs : ea.2.1 ≤ 65536) {K : Option Addr → Nat → Nat → World → Prop}
    (kk : ∀ (A : Option Addr) (c : Nat) (w' : World), Ext (ownF ea.1) w w' → OwnL SL w' N 9 ea.1 ea.2.1 ea.2.2 zs → (∃ ad, A = some ad ∧ w'.cell? (ad.add (ea.2.1 * 1)) = some (.string (star k)) ∧ (ad.block ∈ ownF ea.1 ∨ w.heap.size ≤ ad.block)) → K A (ea.2.1 + 1) c w') :
    ∃ I96 : Option Addr → Nat → Nat → Int → World → Prop, ∃ μ97 : Option Addr → Nat → Nat → Int → World → Nat, I96 ea.1 ea.2.1 ea.2.2 0 w ∧
      ∀ g_98 g_98l g_98c j_99 (j100 : Nat → Value) (w101 : World), I96 g_98 g_98l g_98c j_99 w101 →
      (V.sel (decide (j_99 < 64))
      (Calls Tryd.prog 9 #[(Value.int .i64 (k : Int))] w101 fun e103 w104 =>
      ∃ s102, e103 = Ending.returned (Value.string s102) ∧
      V.when (decide (ByteArray.size ⟨#[43]⟩ + ByteArray.size s102 ≤ 9223372036854775807)) (∀ w105, w105 = (World.alloc w104 (.cells #[(Value.string (⟨#[43]⟩ ++ s102))] 9)) →
      ∃ A106, ∃ A106l, ∃ A106c, ∃ w107, Sem.run Tryd.prog (Builtin.append_ #[68, 68] 68 #[(Value.slice g_98 g_98l g_98c), (Value.slice (some ⟨Array.size (World.heap w104), 0, none⟩) 1 1)]) w105 = .ok (Value.slice A106 A106l A106c) w107 ∧
      I96 A106 A106l A106c (IntKind.wrap .i64 (j_99 + 1)) w107 ∧ μ97 A106 A106l A106c (IntKind.wrap .i64 (j_99 + 1)) w107 < μ97 g_98 g_98l g_98c j_99 w101))
      (Calls Tryd.prog 9 #[(Value.int .i64 (k : Int))] w101 fun e109 w110 =>
      ∃ s108, e109 = Ending.returned (Value.string s108) ∧
      V.when (decide (ByteArray.size ⟨#[42]⟩ + ByteArray.size s108 ≤ 9223372036854775807)) (∀ w111, w111 = (World.alloc w110 (.cells #[(Value.string (⟨#[42]⟩ ++ s108))] 9)) →
      ∃ A112, ∃ A112l, ∃ A112c, ∃ w113, Sem.run Tryd.prog (Builtin.append_ #[68, 68] 68 #[(Value.slice ea.1 ea.2.1 ea.2.2), (Value.slice (some ⟨Array.size (World.heap w110), 0, none⟩) 1 1)]) w111 = .ok (Value.slice A112 A112l A112c) w113 ∧
      K A112 A112l A112c w113))) := by
  have hzl := own.len
  have hbase := own.base
  have hts := it_size k
  have s43 : ByteArray.size ⟨#[43]⟩ = 1 := rfl
  have s42 : ByteArray.size ⟨#[42]⟩ = 1 := rfl
  refine ⟨fun g gl gc j w' => ∃ (jn : Nat) (ys : List ByteArray), j = jn ∧ jn ≤ 64 ∧ gl = ea.2.1 + jn ∧ Ext (ownF ea.1) w w' ∧ OwnL SL w' N 9 ea.1 ea.2.1 ea.2.2 zs ∧ OwnL SL w' N 9 g gl gc ys ∧ ((g = ea.1 ∧ gc = ea.2.2 ∧ ys.take ea.2.1 = zs) ∨ ∀ b ∈ ownF g, w.heap.size ≤ b), fun _ _ _ j _ => 64 - j.toNat,
    ⟨0, zs, rfl, by omega, rfl, Ext.refl _ _, own, own, .inl ⟨rfl, rfl, List.take_of_length_le (by omega)⟩⟩, ?_⟩
  rintro g gl gc _ _ w1 ⟨j, ys, rfl, hj, rfl, e1, own1, og, hg⟩
  have s1 := e1.size
  refine sel_dec (fun hlt => ?_) (fun _ => ?_)
  · have hlt : j < 64 := by omega
    refine Itoa_c (hp _ e1) k (by omega) fun w2 e2 => ⟨_, rfl, when_dec (by show _ + (it k).size ≤ _; omega) fun w3 h3 => ?_⟩
    obtain ⟨b3, x3, z3⟩ := box_new (cs := SL.enc (plus k)) h3
    have e3 := e2.trans x3
    have s3 := e3.size
    obtain ⟨A', c', w4, hr4, own4, hcase⟩ := OwnL_step (P := Tryd.prog) (t := 68) (ty := 68) (x := plus k) u41 i9 rfl (by omega) (og.ext0 e3) b3 (by omega) (by omega)
    refine ⟨A', ea.2.1 + j + 1, c', w4, hr4, ?_⟩
    rw [up64 j (by omega)]
    have hyl := og.len
    refine ⟨⟨j + 1, ys ++ [plus k], rfl, by omega, by omega, ?_⟩, by simp only [Int.toNat_natCast]; omega⟩
    rcases hcase with ⟨rfl, rfl, x4, og4⟩ | ⟨hnew, x4⟩
    · rcases hg with ⟨rfl, rfl, htk⟩ | hg
      · have hpre := own4.take (n := ea.2.1) (by omega) (by omega)
        rw [List.take_append_of_le_length (by omega), htk] at hpre
        exact ⟨(e1.trans e3.up).trans x4, hpre, own4, .inl ⟨rfl, rfl, by rw [List.take_append_of_le_length (by omega), htk]⟩⟩
      · exact ⟨(e1.trans e3.up).trans' x4 (fun b hb => .inr (hg b hb)), (own1.ext0 e3).ext x4 (fun b hb hm => by have := hg b hm; have := (hbase b hb).2; omega), own4, .inr hg⟩
    · exact ⟨(e1.trans e3.up).trans x4.up, (own1.ext0 e3).ext0 x4, own4, .inr fun b hb => by have := hnew b hb; omega⟩
  · refine Itoa_c (hp _ e1) k (by omega) fun w2 e2 => ⟨_, rfl, when_dec (by show _ + (it k).size ≤ _; omega) fun w3 h3 => ?_⟩
    obtain ⟨b3, x3, z3⟩ := box_new (cs := SL.enc (star k)) h3
    have e3 := e2.trans x3
    have s3 := e3.size
    obtain ⟨A', c', w4, hr4, own4, hcase⟩ := OwnL_step (P := Tryd.prog) (t := 68) (ty := 68) (x := star k) u41 i9 rfl (by omega) (own1.ext0 e3) b3 (by omega) (by omega)
    obtain ⟨x, ad, hx, hA, hc⟩ := str_row own4 (a := ea.2.1) (by omega)
    have hxs : x = star k := by
      rw [List.getElem?_append_right (by omega), show ea.2.1 - zs.length = 0 by omega] at hx
      simpa using hx.symm
    subst hxs
    rw [Int.toNat_natCast] at hc
    have hbk : ad.block ∈ ownF A' := by rw [hA]; simp [ownF]
    refine ⟨A', ea.2.1 + 1, c', w4, hr4, kk A' c' w4 ?_ ?_ ⟨ad, hA, hc, ?_⟩⟩
    · rcases hcase with ⟨_, _, x4, _⟩ | ⟨_, x4⟩
      · exact (e1.trans e3.up).trans x4
      · exact (e1.trans e3.up).trans x4.up
    · rcases hcase with ⟨_, _, _, og4⟩ | ⟨_, x4⟩
      · exact og4
      · exact (own1.ext0 e3).ext0 x4
    · rcases hcase with ⟨h, _⟩ | ⟨hnew, _⟩
      · left; rw [← h]; exact hbk
      · right; have := hnew _ hbk; omega
theorem LS.lt {N nl cl nw cw : Nat} {w : World} {Al Aw : Option Addr} {es : List Ent} {ws : List ByteArray} {Q : Nat → List ByteArray → Prop} (h : LS N w Al nl cl es Aw nw cw ws Q) : (∀ b ∈ ownF Al, b < w.heap.size) ∧ (∀ (k : Nat) (e : Ent), es[k]? = some e → ∀ b ∈ ownF e.1, b < w.heap.size) ∧ ∀ b ∈ ownF Aw, b < w.heap.size :=
  ⟨fun b hb => (h.rows.base b hb).2, fun k e he b hb => by obtain ⟨ys, o, _⟩ := h.fam k e he; exact (o.base b hb).2, fun b hb => (h.want.base b hb).2⟩
theorem LS.extN {N nl cl nw cw M : Nat} {w w' : World} {Al Aw : Option Addr} {es : List Ent} {ws : List ByteArray} {Q : Nat → List ByteArray → Prop} (h : LS N w Al nl cl es Aw nw cw ws Q) {F : List Nat} (e : Ext F w w') (hF : ∀ b ∈ F, M ≤ b)
    (hM : (∀ b ∈ ownF Al, b < M) ∧ (∀ (k : Nat) (e : Ent), es[k]? = some e → ∀ b ∈ ownF e.1, b < M) ∧ ∀ b ∈ ownF Aw, b < M) : LS N w' Al nl cl es Aw nw cw ws Q :=
  ⟨h.rows.ext e fun b hb hm => by have := hF b hm; have := hM.1 b hb; omega, fun k x hk => by
    obtain ⟨ys, a, b⟩ := h.fam k x hk
    exact ⟨ys, a.ext e fun b hb hm => by have := hF b hm; have := hM.2.1 k x hk b hb; omega, b⟩, h.want.ext e fun b hb hm => by have := hF b hm; have := hM.2.2 b hb; omega, h.d1, h.d2, h.d3⟩
/-- What the grown lists hold. -/
def GR (N6 : Nat) (w : World) (A : Option Addr) (n c : Nat) (es gs : List Ent) : Prop :=
  OwnL EL w N6 68 A n c gs ∧ ∀ (k : Nat) (g : Ent), gs[k]? = some g → ∃ e : Ent, es[k]? = some e ∧ g.2.1 = e.2.1 + 1 ∧ ∃ ad, g.1 = some ad ∧ w.cell? (ad.add (e.2.1 * 1)) = some (.string (star k)) ∧ (ad.block ∈ ownF e.1 ∨ N6 ≤ ad.block) ∧ ad.block ∉ ownF A ∧ ad.block < w.heap.size
theorem GR.ext {N6 : Nat} {w w' : World} {A : Option Addr} {n c : Nat} {es gs : List Ent} {F : List Nat} (h : GR N6 w A n c es gs) (e : Ext F w w') (h1 : ∀ b ∈ ownF A, b ∉ F) (h2 : ∀ (k : Nat) (x : Ent), k < gs.length → es[k]? = some x → ∀ b ∈ ownF x.1, b ∉ F) (h3 : ∀ b ∈ F, b < w.heap.size → N6 ≤ b → b ∈ ownF A) : GR N6 w' A n c es gs := by
  refine ⟨h.1.ext e h1, fun k g hg => ?_⟩
  obtain ⟨x, hx, hn, ad, ha, hc, hb, hA, hl⟩ := h.2 k g hg
  refine ⟨x, hx, hn, ad, ha, cell_ext e hc ?_, hb, hA, by have := e.size; omega⟩
  rw [add_block]
  intro hm
  rcases hb with hb | hb
  · exact h2 k x (List.getElem?_eq_some_iff.1 hg).1 hx _ hb hm
  · exact hA (h3 _ hm hl hb)
theorem mem_state {α : Type} {ys : List α} {n : Nat} (h : ys.length = n) {j : Nat} {v : α} (hj : j < n) {P : Nat → α → Prop} (hP : ∀ i x, i < j → ys[i]? = some x → P i x) (hv : P j v) : ∀ i x, i < j + 1 → (ys.set j v)[i]? = some x → P i x := by
  intro i x hi hx
  by_cases e : i = j
  · subst e
    rw [List.getElem?_set_self (by omega)] at hx
    cases hx; exact hv
  · rw [List.getElem?_set_ne (fun h => e h.symm)] at hx
    exact hP i x (by omega) hx
set_option maxRecDepth 8000 in
theorem slotsMemoryW_c {w : World} {A : Option Addr} {n c : Nat} {ops : List Op} (ho : OpsAt w A n ops) (hp : Pow w) {R : Ending → World → Prop} (k : ∀ w', Ext [] w w' → R (.returned (.bool true)) w') : Calls Tryd.prog 5 #[.slice A n c] w R := by
  have hnb := ho.2.2
  have s126 : ByteArray.size ⟨#[126]⟩ = 1 := rfl
  have s42 : ByteArray.size ⟨#[42]⟩ = 1 := rfl
  apply berthlaw05_SlotsMemory_nf
  refine fixed_c fun w4 e4 => ⟨_, rfl, sel_false rfl (begin_c fun w8 wb tag rs st8 hwb => ⟨_, _, rfl, sel_false rfl ?_⟩)⟩
  refine ⟨fun t w' => ∃ a : Nat, t = a ∧ a ≤ n ∧ ∃ tag rs, St w4 [] w' wb tag rs 4, fun t _ => n - t.toNat, ⟨0, rfl, by omega, tag, rs, st8⟩, ?_⟩
  rintro _ _ w13 ⟨a, rfl, ha, tag, rs, st⟩
  refine sel_dec (fun hlt => ?_) (fun hge => ?_)
  · obtain ⟨o, ad, hoo, rfl, ro⟩ := (ho.ext0 (e4.trans st.e)).read (a := a) (by omega)
    refine when_dec ⟨by omega, by omega⟩ (ptr_in ⟨_, _, _, _, _, ro, fun w20 h20 => ?_⟩)
    obtain ⟨w21, hr21, b21, e21⟩ := op_box (o := o) h20
    refine ⟨w21, hr21, _, _, _, _, _, cadd0 b21, step_c (st.ext0 7 e21) o fun w29 tag' rs' st' => ⟨_, rfl, sel_false rfl ?_⟩⟩
    rw [up64 a (by omega)]
    exact ⟨⟨a + 1, rfl, by omega, tag', rs', st'⟩, by simp only [Int.toNat_natCast]; omega⟩
  refine ⟨fun t w' => ∃ a : Nat, t = a ∧ a ≤ 4 ∧ Ext [] w13 w', fun t _ => 4 - t.toNat, ⟨0, rfl, by omega, Ext.refl _ _⟩, ?_⟩
  rintro _ _ w34 ⟨i, rfl, hi, e34⟩
  have st34 := st.ext0 7 e34
  have ew34 := e4.trans st34.e
  refine sel_dec (fun hlt => ?_) (fun hge => k w34 ew34)
  have hi4 : i < 4 := by omega
  have ii : (0 : Int) ≤ (i : Int) ∧ (i : Int) < 4 := by omega
  obtain ⟨r, hr⟩ := st34.at hi4
  have hri := st34.regs i r (by omega) hr
  have hp34 := hp.ext0 ew34
  have hwl := names_le hri.t
  obtain ⟨ws, hws⟩ : ∃ ws, ws = srt (names r.s.rows) := ⟨_, rfl⟩
  rw [← hws] at hwl
  refine ptr_in (when_dec ii ⟨_, _, _, _, st34.read_d hr, refNames_c hri.d _ _ fun Aw nw cw w40 e40 own40 => ⟨_, _, _, rfl, ?_⟩⟩)
  rw [← hws] at own40
  have hnw := own40.len
  -- the lists are asked for
  refine ⟨fun lA ll lc t w' => ∃ (a : Nat) (es : List Ent), t = a ∧ a ≤ 18 ∧ ll = a ∧ Ext [] w34 w' ∧ LS w34.heap.size w' lA ll lc es Aw nw cw ws (fun _ ys => ys = ws), fun _ _ _ t _ => 18 - t.toNat,
    ⟨0, [], rfl, by omega, rfl, e40, ⟨OwnL.nil _ _ _, fun k e h => by simp at h, own40, fun k k' e e' _ h => by simp at h, fun k e h => by simp at h, fun b hb => by simp [ownF] at hb⟩⟩, ?_⟩
  rintro Al nl cl _ _ w46 ⟨a, es, rfl, ha, rfl, e46, ls46⟩
  have s46 := e46.size
  refine sel_dec (fun hlt => ?_) (fun hge => ?_)
  · have st46 := st34.ext0 7 e46
    refine ptr_in (when_dec ii ⟨_, st46.read_p hr, Names_c (hri.t.ext0 e46) fun A49 n49 c49 w51 e51 own51 => ⟨_, _, _, rfl, ?_⟩⟩)
    rw [← hws] at own51
    have hl51 := own51.len
    refine textsAre_c own51.cells own51.len (ls46.want.ext0 e51).cells ls46.want.len (by omega) (fun _ w54 e54 => ⟨_, rfl, sel_false rfl fun w55 h55 => ?_⟩) (fun h => absurd rfl h)
    obtain ⟨A', c', w57, hr57, x57, ls57⟩ := ls46.more (e51.trans e54) (own51.ext0 e54) rfl s46 (by omega) h55
    refine ⟨A', _, c', w57, hr57, ?_⟩
    rw [up64 nl (by omega)]
    refine ⟨⟨nl + 1, _, rfl, by omega, rfl, e46.trans' x57 (fun b hb => .inr (ls46.rows.base b hb).1), ls57⟩, by simp only [Int.toNat_natCast]; omega⟩
  have hn18 : nl = 18 := by omega
  have hel := ls46.rows.len
  -- they are all the same
  refine ⟨fun t w' => ∃ a : Nat, t = a ∧ a ≤ nl ∧ Ext [] w34 w' ∧ LS w34.heap.size w' Al nl cl es Aw nw cw ws (fun _ ys => ys = ws), fun t _ => nl - t.toNat, ⟨0, rfl, by omega, e46, ls46⟩, ?_⟩
  rintro _ _ w62 ⟨a, rfl, ha, e62, ls62⟩
  refine sel_dec (fun hlt => ?_) (fun hge => ?_)
  · obtain ⟨e, ad, he, rfl, hc⟩ := ent_row ls62.rows (a := a) (by omega)
    obtain ⟨ys, oy, rfl⟩ := ls62.fam a e he
    have hyl := oy.len
    refine when_dec ⟨by omega, by omega⟩ (ptr_in ⟨_, _, _, hc, textsAre_c oy.cells oy.len ls62.want.cells ls62.want.len (by omega) (fun _ w67 e67 => ⟨_, rfl, sel_false rfl ?_⟩) (fun h => absurd rfl h)⟩)
    rw [up64 a (by omega)]
    exact ⟨⟨a + 1, rfl, by omega, e62.trans e67, ls62.ext0 e67⟩, by simp only [Int.toNat_natCast]; omega⟩
  -- each is written over
  refine ⟨fun t w' => ∃ a : Nat, t = a ∧ a ≤ nl ∧ Ext [] w34 w' ∧ LS w34.heap.size w' Al nl cl es Aw nw cw ws (Q5 a 0), fun t _ => nl - t.toNat, ⟨0, rfl, by omega, e62, ls62.weak fun k ys _ => ⟨fun h => by omega, fun _ i x hi => by omega⟩⟩, ?_⟩
  rintro _ _ w72 ⟨a, rfl, ha, e72, ls72⟩
  refine sel_dec (fun hlt => ?_) (fun hge => ?_)
  · have hlt : a < nl := by omega
    obtain ⟨e, ad, he, rfl, hc⟩ := ent_row ls72.rows (a := a) hlt
    refine when_dec ⟨by omega, by omega⟩ (ptr_in ⟨_, _, _, hc, ?_⟩)
    have hel2 : e.2.1 ≤ 65536 := by
      obtain ⟨ys, oy, rfl⟩ := ls62.fam a e he
      have := oy.len; omega
    refine ⟨fun t w' => ∃ j : Nat, t = j ∧ j ≤ e.2.1 ∧ Ext [] w34 w' ∧ LS w34.heap.size w' (some ad) nl cl es Aw nw cw ws (Q5 a j), fun t _ => e.2.1 - t.toNat, ⟨0, rfl, by omega, e72, ls72⟩, ?_⟩
    rintro _ _ w79 ⟨j, rfl, hj, e79, ls79⟩
    refine sel_dec (fun hltj => ?_) (fun hgej => ?_)
    · have hltj : j < e.2.1 := by omega
      have ha1 := it_size a
      have hj1 := it_size j
      refine Itoa_c (hp34.ext0 e79) a (by omega) fun w82 e82 => ⟨_, rfl, when_dec (by show _ + (it a).size ≤ _; omega) (when_dec (by show ByteArray.size (⟨#[126]⟩ ++ it a) + _ ≤ _; rw [ByteArray.size_append]; omega) ?_)⟩
      refine Itoa_c (hp34.ext0 (e79.trans e82)) j (by omega) fun w85 e85 => ⟨_, rfl, when_dec (by show ByteArray.size ((⟨#[126]⟩ ++ it a) ++ ⟨#[126]⟩) + (it j).size ≤ _; rw [ByteArray.size_append, ByteArray.size_append]; omega) (when_dec ⟨by omega, by omega⟩ ?_)⟩
      have e85' := e82.trans e85
      have ls85 := ls79.ext0 e85'
      obtain ⟨ys, oy, qy⟩ := ls85.fam a e he
      obtain ⟨g, w87, hA, hr87, oy2, x87⟩ := oy.set1 (P := Tryd.prog) (i := j) (y := til a j) (v := .string (til a j)) hltj rfl rfl (t := 9) i9s rfl
      rw [hA]
      refine ptr_in ⟨w87, by rw [Int.toNat_natCast]; exact hr87, ?_⟩
      rw [up64 j (by omega)]
      refine ⟨⟨j + 1, rfl, by omega, (e79.trans e85').trans' x87 (fun b hb => .inr (oy.base b hb).1), ls85.touch he x87 (fun b hb => .inl hb) oy2 ⟨fun h => by omega, fun _ => ?_⟩ (fun k ys hk q => ⟨q.1, fun h => absurd h hk⟩)⟩, by simp only [Int.toNat_natCast]; omega⟩
      exact mem_state (P := fun i x => x = til a i) oy.len hltj (qy.2 rfl) rfl
    · rw [up64 a (by omega)]
      have hje : j = e.2.1 := by omega
      refine ⟨⟨a + 1, rfl, by omega, e79, ?_⟩, by simp only [Int.toNat_natCast]; omega⟩
      refine ⟨ls79.rows, fun k x hk => ?_, ls79.want, ls79.d1, ls79.d2, ls79.d3⟩
      obtain ⟨ys, oy, q1, q2⟩ := ls79.fam k x hk
      refine ⟨ys, oy, fun h => ?_, fun _ i x hi => by omega⟩
      by_cases hka : k = a
      · subst hka
        rw [he] at hk; cases hk
        have hyl := oy.len
        exact fun i x hx => q2 rfl i x (by have := (List.getElem?_eq_some_iff.1 hx).1; omega) hx
      · exact q1 (by omega)
  have ls72 : LS w34.heap.size w72 Al nl cl es Aw nw cw ws Qt := ⟨ls72.rows, fun k x hk => by
    obtain ⟨ys, oy, q1, _⟩ := ls72.fam k x hk
    exact ⟨ys, oy, q1 (by have := (List.getElem?_eq_some_iff.1 hk).1; omega)⟩, ls72.want, ls72.d1, ls72.d2, ls72.d3⟩
  have hM := ls72.lt
  have s72 := e72.size
  have he2 : ∀ (k : Nat) (e : Ent), es[k]? = some e → e.2.1 ≤ 65536 := fun k e he => by
    obtain ⟨ys, oy, rfl⟩ := ls62.fam k e he
    have := oy.len; omega
  -- what is appended
  refine ⟨fun gA gl gc t w' => ∃ (a : Nat) (gs : List Ent), t = a ∧ a ≤ nl ∧ gl = a ∧ Ext [] w34 w' ∧ w72.heap.size ≤ w'.heap.size ∧ LS w34.heap.size w' Al nl cl es Aw nw cw ws Qt ∧ GR w72.heap.size w' gA gl gc es gs, fun _ _ _ t _ => nl - t.toNat, ⟨0, [], rfl, by omega, rfl, e72, Nat.le_refl _, ls72, OwnL.nil _ _ _, fun k g h => by simp at h⟩, ?_⟩
  rintro Ag ng cg _ _ w93 ⟨a, gs, rfl, ha, rfl, e93, s93, ls93, gr93⟩
  have hgl := gr93.1.len
  refine sel_dec (fun hlt => ?_) (fun hge => ?_)
  · have hlt : ng < nl := by omega
    obtain ⟨e, ad, he, hAl, hc⟩ := ent_row ls93.rows (a := ng) hlt
    obtain ⟨zs, oz, qz⟩ := ls93.fam ng e he
    have hzb := oz.base
    have s93' := e93.size
    refine when_dec ⟨by omega, by omega⟩ ?_
    rw [hAl]
    refine ptr_in ⟨_, _, _, hc, ?_⟩
    refine star_c (k := ng) (N := w34.heap.size) (by omega) s93' (fun w' x => hp34.ext0 (e93.trans' x fun b hb => .inr (hzb b hb).1)) oz (he2 ng e he) fun A112 c112 w113 x113 oz113 hstar w114 h114 => ?_
    have s113 := x113.size
    obtain ⟨adS, hAS, hcS, hbS⟩ := hstar
    have ls113 := ls93.touch (Q' := Qt) he x113 (fun b hb => .inl hb) oz113 qz (fun _ _ _ h => h)
    have gr113 := gr93.ext x113 (fun b hb hm => by have := (gr93.1.base b hb).1; have := hM.2.1 ng e he b hm; omega) (fun k x hk hx b hb hm => ls93.d1 k ng x e (by omega) hx he b hb hm) (fun b hb _ h6 => by have := hM.2.1 ng e he b hb; omega)
    obtain ⟨b114, x114, z114⟩ := box_new (cs := EL.enc (A112, e.2.1 + 1, c112)) h114
    have s114 := x114.size
    obtain ⟨A115, c115, w116, hr116, og116, x116, hat⟩ := (gr113.1.ext0 x114).more (P := Tryd.prog) (t := 79) (ty := 79) (x := (A112, e.2.1 + 1, c112)) u79 i68 rfl (by omega) b114 (by omega) (by omega)
    have hgb := gr113.1.base
    have ga : ∀ b ∈ ownF Ag, w72.heap.size ≤ b := fun b hb => (hgb b hb).1
    have x16 : Ext (ownF Ag) w113 w116 := x114.up.trans x116
    have hA115 : ∀ b ∈ ownF A115, b ∈ ownF Ag ∨ w114.heap.size ≤ b := fun b hb => by
      rcases hat with h1 | h1
      · rw [h1] at hb; exact .inl hb
      · rw [h1] at hb; simp at hb; exact .inr (by omega)
    have hSlt : adS.block < w113.heap.size := by
      have := World.block_lt_of_cell? w113 _ hcS
      rwa [add_block] at this
    have hSA : adS.block ∉ ownF Ag := fun hm => by
      rcases hbS with h | h
      · have := hM.2.1 ng e he _ h; have := ga _ hm; omega
      · have := (gr93.1.base _ hm).2; omega
    refine ⟨A115, ng + 1, c115, w116, hr116, ?_⟩
    rw [up64 ng (by omega)]
    have s116 := x116.size
    refine ⟨⟨ng + 1, gs ++ [(A112, e.2.1 + 1, c112)], rfl, by omega, rfl, ?_, by omega, hAl ▸ ls113.extN x16 ga hM, og116, fun k g hg => ?_⟩, by simp only [Int.toNat_natCast]; omega⟩
    · exact ((e93.trans' x113 (fun b hb => .inr (hzb b hb).1))).trans' x16 (fun b hb => .inr (by have := ga b hb; omega))
    · rcases Nat.lt_or_ge k gs.length with h1 | h1
      · rw [List.getElem?_append_left h1] at hg
        obtain ⟨x, hx, hn, ad', ha', hc', hb', hA', hl'⟩ := gr113.2 k g hg
        refine ⟨x, hx, hn, ad', ha', cell_ext x16 hc' (by rw [add_block]; exact hA'), hb', fun hm => ?_, by omega⟩
        rcases hA115 _ hm with h | h
        · exact hA' h
        · omega
      · rw [List.getElem?_append_right h1] at hg
        have hk0 := (List.getElem?_eq_some_iff.1 hg).1
        simp at hk0
        have hk : k = ng := by omega
        have hk1 : k - gs.length = 0 := by omega
        rw [hk1] at hg
        simp at hg; subst hg; subst hk
        refine ⟨e, he, rfl, adS, hAS, cell_ext x16 hcS (by rw [add_block]; exact hSA), ?_, fun hm => ?_, by omega⟩
        · rcases hbS with h | h
          · exact .inl h
          · exact .inr (by omega)
        · rcases hA115 _ hm with h | h
          · exact hSA h
          · omega
  have hng : ng = nl := by omega
  -- all is as it was written
  refine ⟨fun t w' => ∃ a : Nat, t = a ∧ a ≤ nl ∧ Ext [] w93 w', fun t _ => nl - t.toNat, ⟨0, rfl, by omega, Ext.refl _ _⟩, ?_⟩
  rintro _ _ w121 ⟨a, rfl, ha, e121⟩
  have e121' := e93.trans e121
  refine sel_dec (fun hlt => ?_) (fun hge => ?_)
  · have hlt : a < nl := by omega
    have ls121 := ls93.ext0 e121
    have gr121 := gr93.ext e121 (by simp) (by simp) (by simp)
    obtain ⟨e, ad, he, hAl, hc⟩ := ent_row ls121.rows (a := a) hlt
    obtain ⟨zs, oz, qz⟩ := ls121.fam a e he
    have hel2 := he2 a e he
    have ha1 := it_size a
    refine when_dec ⟨by omega, by omega⟩ ?_
    rw [hAl]
    refine ptr_in ⟨_, _, _, hc, ?_⟩
    refine ⟨fun t w' => ∃ j : Nat, t = j ∧ j ≤ e.2.1 ∧ Ext [] w121 w', fun t _ => e.2.1 - t.toNat, ⟨0, rfl, by omega, Ext.refl _ _⟩, ?_⟩
    rintro _ _ w128 ⟨j, rfl, hj, e128⟩
    have d128 : Ext [] w128 w128.drew := (Ext.refl _ _).drew
    refine sel_dec (fun hltj => ?_) (fun hgej => ?_)
    · have hltj : j < e.2.1 := by omega
      have hj1 := it_size j
      obtain ⟨x, adx, hx, hA, hcx⟩ := str_row (oz.ext0 e128) hltj
      obtain rfl := qz j x hx
      refine ⟨fun w' => Ext [] w128 w', d128, when_dec ⟨by omega, by omega⟩ ?_⟩
      rw [hA]
      refine ptr_in ⟨_, fun w' ee => cell_ext ee hcx (by simp), ?_⟩
      refine Itoa_c (hp34.ext0 ((e121'.trans e128).trans d128)) a (by omega) fun w135 e135 => ⟨_, rfl, d128.trans e135, when_dec (by show _ + (it a).size ≤ _; omega) (when_dec (by show ByteArray.size (⟨#[126]⟩ ++ it a) + _ ≤ _; rw [ByteArray.size_append]; omega) ?_)⟩
      refine Itoa_c (hp34.ext0 (((e121'.trans e128).trans d128).trans e135)) j (by omega) fun w138 e138 => ⟨_, rfl, (d128.trans e135).trans e138, when_dec (by show ByteArray.size ((⟨#[126]⟩ ++ it a) ++ ⟨#[126]⟩) + (it j).size ≤ _; rw [ByteArray.size_append, ByteArray.size_append]; omega) (sel_false ?_ ?_)⟩
      · show (!(ByteArray.toList (til a j) == ByteArray.toList (til a j))) = false
        simp
      · rw [up64 j (by omega)]
        exact ⟨⟨j + 1, rfl, by omega, e128.trans ((d128.trans e135).trans e138)⟩, by simp only [Int.toNat_natCast]; omega⟩
    · have gr128 := gr121.ext e128 (by simp) (by simp) (by simp)
      obtain ⟨g, adg, hg, hAg, hcg⟩ := ent_row gr128.1 (a := a) (by omega)
      obtain ⟨x, hx, hn, adS, haS, hcS, _⟩ := gr128.2 a g hg
      rw [he] at hx; cases hx
      refine ⟨fun w' => Ext [] w128 w', d128, when_dec ⟨by omega, by omega⟩ ?_⟩
      rw [hAg]
      refine ptr_in ⟨_, _, _, fun w' ee => cell_ext ee hcg (by simp), when_dec ⟨by omega, by rw [hn]; omega⟩ ?_⟩
      rw [haS]
      refine ptr_in ⟨_, fun w' ee => cell_ext ee hcS (by simp), ?_⟩
      refine Itoa_c (hp34.ext0 ((e121'.trans e128).trans d128)) a (by omega) fun w147 e147 => ⟨_, rfl, d128.trans e147, when_dec (by show _ + (it a).size ≤ _; omega) (sel_false ?_ ?_)⟩
      · show (!(ByteArray.toList (star a) == ByteArray.toList (star a))) = false
        simp
      · rw [up64 a (by omega)]
        exact ⟨⟨a + 1, rfl, by omega, e121.trans (e128.trans (d128.trans e147))⟩, by simp only [Int.toNat_natCast]; omega⟩
  · have st121 := st34.ext0 7 e121'
    have d121 : Ext [] w121 w121.drew := (Ext.refl _ _).drew
    have hri121 := st121.regs i r (by omega) hr
    refine ⟨fun w' => Ext [] w121 w', d121, ptr_in (when_dec ii ⟨_, fun w' e => (st121.ext0 7 e).read_p hr, ptr_in (when_dec ii ⟨_, _, _, _, cellsC_S (S := fun w' => Ext [] w121 w') (fun w' e => (st121.ext0 7 e).read_d hr), seen_c (hri121.t.ext0 d121) (hri121.d.ext0 d121) _ fun w157 e157 => ⟨_, rfl, e157.undrew, sel_false rfl ?_⟩⟩)⟩)⟩
    rw [up64 i (by omega)]
    exact ⟨⟨i + 1, rfl, by omega, e34.trans (e121'.trans e157.undrew)⟩, by simp only [Int.toNat_natCast]; omega⟩
/-! ### the library's tables, and the tied card -/
theorem pow_data : (Rows.laid_internal_strconv_uint64pow10 : DataW Unit) = Go.Lib.tabData .u64 Go.Lib.pow10Tab := by kernel_rfl
theorem laid_pow {W : World} (h : laidMetH Tryd.prog Rows.slotsMemoryRow.laid W) : Pow W := by
  rw [MakeChecks.laidMetH_plain _ _ _ (by kernel_rfl)] at h
  have h1 := Go.Lib.laidMet.reads h (n := "internal/strconv.uint64pow10") (d := Rows.laid_internal_strconv_uint64pow10) (.tail _ (.tail _ (.head _)))
  rw [pow_data] at h1
  obtain ⟨g, hg⟩ := pow_at
  exact tab_of_reads (g := 0) (t := 144) (e := 127) (n := 20) (by kernel_rfl) (by kernel_rfl) (by kernel_rfl) (by kernel_rfl) (by kernel_rfl) (by kernel_rfl) h1
theorem door_met (os : Os) (args : Array Value) : laidMetH Tryd.prog Rows.slotsMemoryRow.laid ((World.doorLaid Tryd.prog 4000 os).forCall (fun _ _ => 0) ⟨#[], args, []⟩).memory :=
  laidMetH_of_parts3 (fuel := 8) (laidMet_of_run' 8 (by kernel_rfl) (by kernel_rfl)) (by kernel_rfl) (by kernel_rfl)
set_option maxRecDepth 8000 in
theorem slotsMemory_lifted (os : Os) (started : os.Started) (H : Type) (enc : TypeId × Value → H) (F : Stop.Interp) :
    ReturnsInHanded {} Tryd.checked os 5 .any ((OpenSpec.ofChange Rows.slotsMemorySpec).preRow enc Tryd.prog Tryd.f5 Rows.slotsMemoryRow.domain false Rows.slotsMemoryRow.laid) (((OpenSpec.ofChange Rows.slotsMemorySpec).at F).post enc Tryd.prog Tryd.f5 false true false false) :=
  lift1L (C := Tryd.checked) (T := 34) (tb := 4) own (by kernel_rfl) Tryd.func5 (by kernel_rfl) (by kernel_rfl) Tryd.underlying4 rfl (fun _ _ => rfl) laidOut (by kernel_rfl) (of_decide_eq_true (by kernel_rfl)) os started H enc F
    (fun W base v d p hok h hw hL => by
      obtain ⟨A, n, c, ops, rfl, ho⟩ := open_ops hok h hw
      exact slotsMemoryW_c ho (laid_pow hL) fun w' e => ⟨rfl, e.below⟩)
    (ChangeSpec.witness_shaped (enc := enc) (C := Tryd.checked) (os := os) (X := fun w _ => laidMetH Tryd.prog Rows.slotsMemoryRow.laid w) false (World.doorLaid Tryd.prog 4000 os) #[.slice none 0 0] 8 rfl (World.shaped_of_RefB (by kernel_rfl) (by kernel_rfl)) (by kernel_rfl) (by kernel_rfl) (by kernel_rfl) (door_met os _))
theorem slotsMemory_holds : Rows.SlotsMemorySaid :=
  OpenClaim.holds_of_cond 5 Tryd.f5 rfl rfl rfl rfl rfl rfl rfl ⟨rfl, rfl, rfl, rfl, rfl⟩ rfl rfl rfl rfl rfl (by kernel_rfl) Tryd.func5 (by kernel_rfl)
    (of_decide_eq_true (by kernel_rfl)) (by unfold Func.isWrapper; first | (rw [if_pos (by decide +kernel)]; kernel_rfl) | (rw [if_neg (by decide +kernel)]; exact ⟨rfl, rfl⟩))
    (fun os started H enc _ F0 => by rw [OpenClaim.pre_eq_preRow]; exact slotsMemory_lifted os started H enc F0)
theorem slotsMemory_card_holds : Rows.SlotsMemoryCardSaid :=
  Claim7.holds_tied_plain_at .later [] [.data, .data, .data] true (true, Rows.slotsMemoryCard.stood.harness.2) false
    slotsMemory_holds (fun _ h => by cases h) (by kernel_rfl) (fun _ h => by cases h) slotsMemory_row_tie rfl ⟨rfl, rfl⟩ (by kernel_rfl) rfl
    (fun f fn hf hfn => by
      obtain rfl : f = 5 := Option.some.inj ((show Tryd.prog.funcNamed "berth/berthlaw05.SlotsMemory" = some 5 by kernel_rfl).symm.trans hf) |>.symm
      obtain rfl : fn = Tryd.f5 := (Option.some.inj (Tryd.func5.symm.trans hfn)).symm
      exact ⟨by kernel_rfl, fun j t ht => by
        rw [Tryd.params5] at ht
        have hm : t ∈ [34] := by simpa using Array.mem_of_getElem? ht
        have hall : ([34].all fun u => !Tryd.prog.wantsStandIn u) = true := by kernel_rfl
        exact (show Tryd.prog.wantsStandIn t = false by simpa using List.all_eq_true.1 hall t hm)⟩)
    (by kernel_rfl)
end Go.Proofs.YtcampkaenlohbaaDoor
