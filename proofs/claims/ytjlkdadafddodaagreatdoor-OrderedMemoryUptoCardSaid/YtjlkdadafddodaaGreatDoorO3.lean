/- Ordered: the rows between two numbers, and what Between, Has, Find tell. -/
import Derived.Test.YtjlkdadafddodaaGreatDoorO2
set_option linter.unusedVariables false
set_option linter.unusedSimpArgs false
namespace Go.B
open Go.V
section
variable {α : Type} {P : Program} {enc : α → List Value} {gf : FuncId} {cap : List Value} {ys : List α} {K : World → Prop}
/-- An iterator whose consumer never leaves. -/
def IterT (P : Program) (enc : α → List Value) (gf : FuncId) (cap : List Value) (ys : List α) (K : World → Prop) : Prop :=
  ∀ (yl : Nat) (w : World) (J : List α → World → Prop) (R : Ending → World → Prop),
    J [] w → (∀ ps w1 w2, Ext [] w1 w2 → J ps w1 → J ps w2) → (∀ ps w1, J ps w1 → K w1) →
    (∀ ps y rest w1, ys = ps ++ y :: rest → J ps w1 → ∀ R' : Ending → World → Prop, (∀ w2, J (ps ++ [y]) w2 → R' (.returned (.bool true)) w2) → V.Yield P yl (enc y) w1 R') →
    (∀ w1, J ys w1 → R (.returned undef) w1) →
    Calls P gf ⟨[Value.func (.yield yl) #[] #[]] ++ cap⟩ w R
/-- A range over it. -/
theorem IterT.range (it : IterT P enc gf cap ys K) {l : Nat} {Rc : Loop} {w : World} {I : List α → World → Prop} {Bd : α → World → (Ending → World → Prop) → Prop} {FIN : World → Prop}
    (hy : ∀ y W R', LoopSt W l Rc .ready none → Bd y W R' → V.Yield P l (enc y) W R')
    (l0 : LoopSt w l Rc .ready none) (i0 : I [] w) (st : ∀ ps w1 w2, Ext [l] w1 w2 → I ps w1 → I ps w2) (hK : ∀ ps w1, I ps w1 → K w1)
    (body : ∀ ps y rest W R', ys = ps ++ y :: rest → LoopSt W l Rc .ready none → LoopSt (setLoop W l Rc .busy none) l Rc .busy none → I ps (setLoop W l Rc .busy none) →
      (∀ w2, LoopSt w2 l Rc .busy none → I (ps ++ [y]) w2 → R' (.returned (.bool true)) (setLoop w2 l Rc .ready none)) → Bd y W R')
    (fin : ∀ w2, LoopSt w2 l Rc .ready none → I ys w2 → FIN w2) :
    Calls P gf ⟨[Value.func (.yield l) #[] #[]] ++ cap⟩ w fun e w2 => (∃ v, e = .returned v) ∧ FIN w2 := by
  refine it l w (fun ps w1 => LoopSt w1 l Rc .ready none ∧ I ps w1) _ ⟨l0, i0⟩ (fun ps w1 w2 e h => ⟨LoopSt.ext h.1 e (by simp), st ps w1 w2 e.up h.2⟩) (fun ps w1 h => hK ps w1 h.2) ?_ (fun w1 h => ⟨⟨_, rfl⟩, fin w1 h.1 h.2⟩)
  rintro ps y rest w1 e ⟨h1, h2⟩ R' k1
  exact hy y w1 R' h1 (body ps y rest w1 R' e h1 (setLoop_st _ _ (LoopSt.lt h1)) (st ps _ _ (setLoop_ext _ _ _ _ _) h2) (fun w2 hs hi => k1 _ ⟨setLoop_st _ _ (LoopSt.lt hs), st _ _ _ (setLoop_ext _ _ _ _ _) hi⟩))
end
end Go.B
namespace Go.Proofs.YtjlkdadafddodaaGreatDoor
open Go Go.V Go.B

theorem i29s : (Tryz.prog.info? 43).map (·.size) = some 1 := by kernel_rfl
def inR (lo hi : Int) (r : Rw) : Bool := decide (lo ≤ r.n ∧ r.n ≤ hi)
theorem filt_none {rows : List Rw} {n hi : Int} {i : Nat} (h : Place rows n i) : (rows.take i).filter (inR n hi) = [] := by
  rw [List.filter_eq_nil_iff]
  intro r hr
  have := h.lo r hr
  simp [inR]; omega
theorem filt_stop {rows : List Rw} (hr : Rising rows) {lo hi : Int} {a : Nat} {r : Rw} (ha : rows[a]? = some r) (hn : hi < r.n) : (rows.take a).filter (inR lo hi) = rows.filter (inR lo hi) := by
  have e : rows.filter (inR lo hi) = (rows.take a).filter (inR lo hi) ++ (rows.drop a).filter (inR lo hi) := by
    rw [← List.filter_append, List.take_append_drop]
  have : (rows.drop a).filter (inR lo hi) = [] := by
    rw [List.filter_eq_nil_iff]
    intro s hs
    obtain ⟨j, hj, hjs⟩ := drop_head hs
    have : r.n ≤ s.n := by
      rcases Nat.eq_or_lt_of_le hj with he | hl
      · subst he; rw [ha] at hjs; cases hjs; omega
      · have := hr.at_ ha hjs hl; omega
    simp [inR]; omega
  rw [e, this, List.append_nil]
theorem filt_split {rows : List Rw} {lo hi : Int} {a : Nat} {r : Rw} (ha : rows[a]? = some r) (hin : inR lo hi r = true) : rows.filter (inR lo hi) = (rows.take a).filter (inR lo hi) ++ r :: (rows.drop (a + 1)).filter (inR lo hi) := by
  have e : rows = rows.take a ++ r :: rows.drop (a + 1) := by
    obtain ⟨hl, er⟩ := List.getElem?_eq_some_iff.1 ha
    rw [← er, ← List.drop_eq_getElem_cons hl, List.take_append_drop]
  conv => lhs; rw [e]
  rw [List.filter_append, List.filter_cons, if_pos hin]
theorem filt_snoc {rows : List Rw} {lo hi : Int} {a : Nat} {r : Rw} (ha : rows[a]? = some r) (hin : inR lo hi r = true) : (rows.take (a + 1)).filter (inR lo hi) = (rows.take a).filter (inR lo hi) ++ [r] := by
  rw [snoc_at ha, List.filter_append]
  simp [hin]
/-- What the walk over a column's rows reads. -/
structure FromK (w : World) (b0 b1 b2 c : Nat) (f : List Nat) (C : Cl) (lo hi : Int) : Prop where
  h0 : BlkT w b0 [ptrTo c] 69
  h1 : BlkT w b1 [.int .i64 lo] 3
  h2 : BlkT w b2 [.int .i64 hi] 3
  v : ColV w c f C
theorem FromK.ext {F : List Nat} {w w' : World} {b0 b1 b2 c : Nat} {f : List Nat} {C : Cl} {lo hi : Int} (h : FromK w b0 b1 b2 c f C lo hi) (e : Ext F w w') (n0 : b0 ∉ F) (n1 : b1 ∉ F) (n2 : b2 ∉ F) (hc : c ∉ F) (hf : ∀ b ∈ f, b ∉ F) : FromK w' b0 b1 b2 c f C lo hi :=
  ⟨h.h0.ext e n0, h.h1.ext e n1, h.h2.ext e n2, h.v.ext e hc hf⟩
theorem FromK.ext0 {w w' : World} {b0 b1 b2 c : Nat} {f : List Nat} {C : Cl} {lo hi : Int} (h : FromK w b0 b1 b2 c f C lo hi) (e : Ext [] w w') : FromK w' b0 b1 b2 c f C lo hi := h.ext e (by simp) (by simp) (by simp) (by simp) (by simp)
theorem from_c {w : World} {c : Nat} {f : List Nat} {C : Cl} (v : ColV w c f C) (lo hi : Int) {R : Ending → World → Prop}
    (k : ∀ b0 b1 b2 w', Ext [] w w' → w.heap.size ≤ b0 → w.heap.size ≤ b1 → w.heap.size ≤ b2 → FromK w' b0 b1 b2 c f C lo hi → R (.returned (.func (.func 59) #[] #[.pointer (some ⟨b0, 0, none⟩), .pointer (some ⟨b1, 0, none⟩), .pointer (some ⟨b2, 0, none⟩)])) w') :
    Calls Tryz.prog 29 #[.pointer (some ⟨c, 0, none⟩), .int .i64 lo, .int .i64 hi] w R := by
  apply ordered_column_from_nf
  intro w4 h4 w5 h5 w6 h6
  obtain ⟨b4, x4, z4⟩ := box_new (cs := [ptrTo c]) h4
  obtain ⟨b5, x5, z5⟩ := box_new (cs := [.int .i64 lo]) h5
  obtain ⟨b6, x6, z6⟩ := box_new (cs := [.int .i64 hi]) h6
  exact k _ _ _ w6 ((x4.trans x5).trans x6) (Nat.le_refl _) (by omega) (by omega) ⟨(b4.ext0 x5).ext0 x6, b5.ext0 x6, b6, ((v.ext0 x4).ext0 x5).ext0 x6⟩
theorem from_iter {b0 b1 b2 c : Nat} {f : List Nat} {C : Cl} {lo hi : Int} (hr : Rising C.rows) (hl : C.rows.length ≤ 8000000000000) :
    IterT Tryz.prog rowCells 59 [.pointer (some ⟨b0, 0, none⟩), .pointer (some ⟨b1, 0, none⟩), .pointer (some ⟨b2, 0, none⟩)] (C.rows.filter (inR lo hi)) (fun w => FromK w b0 b1 b2 c f C lo hi) := by
  intro yl w J R j0 st hK hy k1
  apply ordered_column_from_l1_nf
  have K0 := hK _ _ j0
  refine ptr_in ⟨_, K0.h0.cell (i := 0) rfl, ptr_in ⟨_, K0.h1.cell (i := 0) rfl, at_c K0.v hr hl lo fun i w1 e1 pl => ⟨_, rfl, ?_⟩⟩⟩
  refine ⟨fun t w' => ∃ a : Nat, t = a ∧ i ≤ a ∧ a ≤ C.rows.length ∧ J ((C.rows.take a).filter (inR lo hi)) w', fun t _ => C.rows.length - t.toNat, ⟨i, rfl, Nat.le_refl _, pl.le, by rw [filt_none pl]; exact st _ _ _ e1 j0⟩, ?_⟩
  rintro _ _ w2 ⟨a, rfl, hia, hal, j1⟩
  have K2 := hK _ _ j1
  obtain ⟨mo, hb2, _⟩ := K2.v.hdr
  refine ptr_in ⟨_, K2.h0.cell (i := 0) rfl, ptr_in ⟨_, _, _, cadd hb2 rfl, sel_dec (fun hlt => ?_) (fun hge => ?_)⟩⟩
  · have hlt : a < C.rows.length := by omega
    have hrow : C.rows[a]? = some (C.rows[a]'hlt) := List.getElem?_eq_getElem hlt
    generalize C.rows[a]'hlt = r at hrow
    obtain ⟨ad, hA, hc0, _⟩ := row_cells K2.v.arr hrow
    refine ptr_in ⟨_, K2.h0.cell (i := 0) rfl, ptr_in ⟨_, _, _, cadd hb2 rfl, when_dec ⟨by omega, by omega⟩ ?_⟩⟩
    rw [hA]
    have hlo : lo ≤ r.n := pl.hi r (List.mem_of_getElem? (i := a - i) (by rw [List.getElem?_drop, show i + (a - i) = a by omega]; exact hrow))
    refine ptr_in ⟨_, hc0, ptr_in ⟨_, K2.h2.cell (i := 0) rfl, sel_dec (fun hhi => ?_) (fun hhi => ?_)⟩⟩
    · have hin : inR lo hi r = true := by simp [inR]; omega
      have e2 : Ext [] w2 w2.drew.drew := ((Ext.refl [] w2).drew).drew
      have rc : ∀ w', FromK w' b0 b1 b2 c f C lo hi → w'.cell? (Addr.add (Addr.add ad (Int.toNat (a : Int) * 2)) 0) = some (.int .i64 r.n) ∧ w'.cell? (Addr.add (Addr.add ad (Int.toNat (a : Int) * 2)) 1) = some (ptrTo r.p) := fun w' h => by
        obtain ⟨ad', hA', g0, g1⟩ := row_cells h.v.arr hrow
        rw [hA] at hA'
        cases hA'
        exact ⟨g0, g1⟩
      have rh : ∀ w', FromK w' b0 b1 b2 c f C lo hi → w'.cell? (Addr.add ⟨c, 0, none⟩ 0) = some (.slice C.A C.rows.length C.cp) := fun w' h => by
        obtain ⟨mo', hb', _⟩ := h.v.hdr
        exact cadd hb' rfl
      refine ⟨fun w' => FromK w' b0 b1 b2 c f C lo hi, K2.ext0 e2, ptr_in ⟨_, fun w' h => h.h0.cell (i := 0) rfl, ptr_in ⟨_, _, _, fun w' h => rh w' h, when_dec ⟨by omega, by omega⟩ ?_⟩⟩⟩
      rw [hA]
      refine ptr_in ⟨_, fun w' h => (rc w' h).1, ptr_in ⟨_, fun w' h => h.h0.cell (i := 0) rfl, ptr_in ⟨_, _, _, fun w' h => rh w' h, when_dec ⟨by omega, by omega⟩ ?_⟩⟩⟩
      rw [hA]
      refine ptr_in ⟨_, fun w' h => (rc w' h).2, ?_⟩
      refine hy _ r _ w2.drew.drew (filt_split hrow hin) (st _ _ _ e2 j1) _ fun w3 j3 => ?_
      refine ⟨_, rfl, hK _ _ j3, sel_false rfl ⟨?_, ?_⟩⟩
      · rw [up64 a (by omega)]
        exact ⟨a + 1, rfl, by omega, by omega, by rw [filt_snoc hrow hin]; exact j3⟩
      · rw [up64 a (by omega)]
        simp only [Int.toNat_natCast]; omega
    · rw [filt_stop hr hrow (by omega)] at j1
      exact k1 _ (st _ _ _ (Ext.refl [] w2).drew j1)
  · have : a = C.rows.length := by omega
    subst this
    rw [List.take_of_length_le (Nat.le_refl _)] at j1
    exact k1 _ (st _ _ _ (Ext.refl [] w2).drew j1)
/-- A set that holds what a condition tells. -/
structure Holds (w : World) (p bw : Nat) (N : Nat) (S : SetV) (φ : Nat → Prop) : Prop where
  set : SetAt w p bw S
  size : S.N = N
  mem : ∀ i, S.mem i = true ↔ φ i
theorem rows_tell {N : Nat} {C : Cl} (h : ClOk N C) (lo hi : Int) (i : Nat) : (∃ r ∈ C.rows.filter (inR lo hi), r.S.mem i = true) ↔ ∃ n, mget C.of (i : Int) = some n ∧ lo ≤ n ∧ n ≤ hi := by
  constructor
  · rintro ⟨r, hr, hm⟩
    obtain ⟨hr, hin⟩ := List.mem_filter.1 hr
    have : lo ≤ r.n ∧ r.n ≤ hi := by simpa [inR] using hin
    exact ⟨r.n, (h.tell i r.n).2 ⟨r, hr, rfl, hm⟩, this⟩
  · rintro ⟨n, hg, hn⟩
    obtain ⟨r, hr, rfl, hm⟩ := (h.tell i n).1 hg
    exact ⟨r, List.mem_filter.2 ⟨hr, by simpa [inR] using hn⟩, hm⟩
def between (x : Ix) (key : ByteArray) (lo hi : Int) (i : Nat) : Prop := ∃ n, x.val key (i : Int) = some n ∧ lo ≤ n ∧ n ≤ hi
theorem IxR.rows {w : World} {q : Option Addr} {x : Ix} (h : IxR w q x) {cnt : Nat} (hc : ∀ k C, x.cols k = some C → C.rows.length ≤ cnt) (key : ByteArray) : (x.colOf key).rows.length ≤ cnt := by
  unfold Ix.colOf
  cases hk : x.cols key with
  | none => exact Nat.zero_le _
  | some C => exact hc key C hk
/-- An index, its laws and a bound. -/
structure IxG (w : World) (q : Option Addr) (x : Ix) : Prop where
  r : IxR w q x
  ok : IxOk x
  few : ∀ k C, x.cols k = some C → C.rows.length ≤ 8000000000000
  rng : ∀ k i n, x.val k i = some n → -9223372036854775808 ≤ n ∧ n ≤ 9223372036854775807
theorem IxG.ext0 {w w' : World} {q : Option Addr} {x : Ix} (h : IxG w q x) (e : Ext [] w w') : IxG w' q x := ⟨h.r.ext0 e, h.ok, h.few, h.rng⟩
set_option maxRecDepth 4000 in
theorem Between_c {w : World} {q : Option Addr} {x : Ix} (h : IxG w q x) (key : ByteArray) (lo hi : Int) {R : Ending → World → Prop}
    (k : ∀ p bw w' S, Ext [] w w' → w.heap.size ≤ p → w.heap.size ≤ bw → Holds w' p bw x.N S (between x key lo hi) → R (.returned (.pointer (some ⟨p, 0, none⟩))) w') :
    Calls Tryz.prog 43 #[.pointer q, .string key, .int .i64 lo, .int .i64 hi] w R := by
  apply ordered_Index_Between_nf
  refine empty_c h.r fun p bw w7 e7 hp hbw s7 => ⟨_, rfl, fun w8 h8 => ?_⟩
  obtain ⟨b8, x8, z8⟩ := box_new (cs := [.pointer none]) h8
  obtain ⟨w9, hr9, b9, x9⟩ := store1 (P := Tryz.prog) (v := .pointer (some ⟨p, 0, none⟩)) i29s b8 (i := 0) (by simp) rfl rfl
  have hpl := s7.hdr.lt
  have hbl := s7.wrd.lt
  have hne := s7.ne
  have e79 : Ext [] w7 w9 := x8.trans' x9 (fun b hb => .inr (by simp at hb; omega))
  have e9 : Ext [] w w9 := e7.trans e79
  have s9 := s7.ext0 e79
  have z7 := e7.size
  have z9 := x9.size
  refine ⟨w9, hr9, column_c h.r e9 key fun c f w12 e12 v12 hf hc => ⟨_, rfl, from_c v12 lo hi fun b0 b1 b2 w15 e15 n0 n1 n2 K15 => ⟨_, _, _, rfl, V.when_intro (by kernel_rfl) fun Rc l w18 hl h18 hy => ?_⟩⟩⟩
  obtain ⟨l0, m0, x18, z18⟩ := enter_new hl h18
  have z12 := e12.size
  have z15 := e15.size
  have e918 : Ext [] w9 w18 := (e12.trans e15).trans x18
  have K18 := K15.ext0 x18
  have s18 := s9.ext0 e918
  have ob18 : BlkT w18 w7.heap.size [.pointer (some ⟨p, 0, none⟩)] 43 := by simpa using b9.ext0 e918
  have hcl := v12.hdr
  have hcl : c < w12.heap.size := by obtain ⟨mo, hb, _⟩ := hcl; exact hb.lt
  have ok := h.ok.colOf key
  have hlen := h.r.rows h.few key
  have nF : ∀ {g : Nat}, g ≠ bw → g ≠ l → g ∉ [bw, l] := fun h1 h2 => by simp; exact ⟨h1, h2⟩
  have hf2 : ∀ b ∈ f, b ∉ [bw, l] := fun b hb => by have := hf b hb; exact nF (by omega) (by omega)
  have hc2 : c ∉ [bw, l] := nF (by omega) (by omega)
  refine (from_iter (c := c) (f := f) (lo := lo) (hi := hi) ok.1.rise hlen).range (I := fun ps w' => ∃ S, Ext [bw, l] w18 w' ∧ SetAt w' p bw S ∧ S.N = x.N ∧ ∀ i, S.mem i = true ↔ ∃ r ∈ ps, r.S.mem i = true)
    (fun y W R' g1 g2 => hy y.n (some ⟨y.p, 0, none⟩) W R' g1 g2) l0 ⟨_, Ext.refl _ _, s18, rfl, fun i => by rw [empty_mem]; simp⟩ ?_ ?_ ?_ ?_
  · rintro ps w1 w2 e ⟨S, g1, g2, g3, g4⟩
    exact ⟨S, g1.trans' e (fun b hb => .inl (by simp at hb; simp [hb])), g2.ext e (by simp; omega) (by simp; omega), g3, g4⟩
  · rintro ps w1 ⟨S, g1, g2, g3, g4⟩
    exact K18.ext g1 (nF (by omega) (by have := K15.h0.lt; omega)) (nF (by omega) (by have := K15.h1.lt; omega)) (nF (by omega) (by have := K15.h2.lt; omega)) hc2 hf2
  · rintro ps y rest W R' hsp hW hS ⟨S, g1, g2, g3, g4⟩ k1
    have ob := ob18.ext g1 (nF (by omega) (by omega))
    have hyr : y ∈ (x.colOf key).rows := (List.mem_filter.1 (by rw [hsp]; simp : y ∈ (x.colOf key).rows.filter (inR lo hi))).1
    have sy := (K18.v.ext g1 hc2 hf2).set y hyr
    have hyf := K18.v.fS y hyr
    have h1 := hf _ hyf.1
    have h2 := hf _ hyf.2
    refine ⟨hW, _, ob.cell (i := 0) rfl, OrWith_c g2 sy.ok (Rd.other sy.ref (by simp; omega)) fun w25 S' e25 s25 hN hm => ⟨rfl, LoopSt.ext hS e25 (by simp; omega), k1 w25 (LoopSt.ext hS e25 (by simp; omega)) ⟨S', g1.trans' e25 (fun b hb => .inl (by simp at hb; simp [hb])), s25, hN.trans g3, fun i => ?_⟩⟩⟩
    rw [hm i]
    have hyN := ok.1.size y hyr
    constructor
    · intro ht
      rcases Bool.or_eq_true_iff.1 ht with ht | ht
      · obtain ⟨r, hr, hrm⟩ := (g4 i).1 ht
        exact ⟨r, by simp [hr], hrm⟩
      · exact ⟨y, by simp, (Bool.and_eq_true_iff.1 ht).2⟩
    · rintro ⟨r, hr, hrm⟩
      rcases List.mem_append.1 hr with hr | hr
      · rw [(g4 i).2 ⟨r, hr, hrm⟩]; rfl
      · simp at hr; subst hr
        have := sy.ok.mem_lt hrm
        rw [hrm]; simp; right; omega
  · rintro w28 hl28 ⟨S, g1, g2, g3, g4⟩
    have x29 := setLoop_ext w28 l Rc .exhausted none
    have hall := g1.trans' x29 (F := [bw, l]) (fun b hb => .inl (by simp at hb; simp [hb]))
    have ob := ob18.ext hall (nF (by omega) (by omega))
    have mk := m0.ext hall (nF (by omega) (by omega))
    have s29 := g2.ext x29 (by simp; omega) (by simp; omega)
    refine .inl ⟨hl28, _, ob.cell (i := 0) rfl, close_one mk fun w30 x30 => ?_⟩
    have ee : Ext [] w w30 := ((e9.trans e918).trans' hall (fun b hb => .inr (by simp at hb; omega))).trans' x30 (fun b hb => .inr (by simp at hb; omega))
    refine k p bw w30 S ee hp hbw ⟨s29.ext x30 (by simp; omega) (by simp; omega), g3, fun i => ?_⟩
    rw [g4, rows_tell ok.1]
    unfold between
    rw [Ix.val_col]
end Go.Proofs.YtjlkdadafddodaaGreatDoor
