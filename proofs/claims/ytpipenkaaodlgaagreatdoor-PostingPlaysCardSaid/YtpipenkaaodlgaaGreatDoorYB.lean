/- Posting: the pair of indexes. Posting: the steps that change. Posting: the steps that ask. Posting: the steps that ask. Posting: a step; PostingPlays, the walk. PostingPlays, the walk. -/
import Derived.Test.YtpipenkaaodlgaaGreatDoorYA
set_option linter.unusedVariables false
set_option linter.unusedSimpArgs false
namespace Go.Proofs.YtpipenkaaodlgaaGreatDoor
open Go Go.V Go.B

/-- One of the two: the program's index, the document's, whether it is nil, the index's blocks. -/
structure Sd where
  p : Option Addr
  x : Px
  d : PDoc
  nl : Bool
  F : List Nat
structure SdAt (w : World) (s : Sd) : Prop where
  v : PxV w s.p s.x
  N : s.x.N = s.d.N
  lab : s.x.lab = labD s.d.rows
  doc : DocAt w s.d
  ok : DocOk s.d
  nil : (s.nl = true ∧ s.p = none ∧ s.F = []) ∨ (s.nl = false ∧ s.p = some ⟨s.x.q, 0, none⟩ ∧ PxAt w s.F s.x)
theorem SdAt.ext {G : List Nat} {w w' : World} {s : Sd} (h : SdAt w s) (e : Ext G w w') (hF : ∀ b ∈ s.F, b ∉ G) (hd : ∀ b ∈ dblk s.d, b ∉ G) : SdAt w' s := by
  have hdoc := h.doc.ext e (fun b hb => hd b (mem_dblk.2 (.inl hb))) (fun r hr b hb => hd b (mem_dblk.2 (.inr ⟨r, hr, hb⟩)))
  rcases h.nil with ⟨h1, h2, h3⟩ | ⟨h1, h2, h3⟩
  · refine ⟨⟨?_, h.v.ok⟩, h.N, h.lab, hdoc, h.ok, .inl ⟨h1, h2, h3⟩⟩
    rcases h.v.r with h4 | ⟨F, h4, _⟩
    · exact .inl h4
    · rw [h2] at h4; cases h4
  · have h4 := h3.ext e hF
    exact ⟨⟨.inr ⟨_, h2, h4⟩, h.v.ok⟩, h.N, h.lab, hdoc, h.ok, .inr ⟨h1, h2, h4⟩⟩
theorem SdAt.ext0 {w w' : World} {s : Sd} (h : SdAt w s) (e : Ext [] w w') : SdAt w' s := h.ext e (by simp) (by simp)
theorem SdAt.flt {w : World} {s : Sd} (h : SdAt w s) : ∀ b ∈ s.F, b < w.heap.size := fun b hb => by
  rcases h.nil with ⟨_, _, h3⟩ | ⟨_, _, h3⟩
  · rw [h3] at hb; cases hb
  · exact h3.lt b hb
def pcells (s : Nat → Sd) : List Value := [.pointer (s 0).p, .pointer (s 1).p, .int .i64 ((s 0).d.N : Int), .slice (s 0).d.A (s 0).d.l (s 0).d.c, .int .i64 ((s 1).d.N : Int), .slice (s 1).d.A (s 1).d.l (s 1).d.c, .bool (s 0).nl, .bool (s 1).nl]
structure PairAt (W w : World) (gb : Nat) (s : Nat → Sd) : Prop where
  ex : Ext [] W w
  gW : W.heap.size ≤ gb
  blk : BlkT w gb (pcells s) 61
  sd : ∀ i, i < 2 → SdAt w (s i)
  fW : ∀ i, i < 2 → ∀ b ∈ (s i).F, W.heap.size ≤ b
  gF : ∀ i, i < 2 → gb ∉ (s i).F ∧ gb ∉ dblk (s i).d
  FF : ∀ i j, i < 2 → j < 2 → i ≠ j → ∀ b ∈ (s i).F, b ∉ (s j).F
  FD : ∀ i j, i < 2 → j < 2 → ∀ b ∈ (s i).F, b ∉ dblk (s j).d
  dl : ∀ i, i < 2 → ∀ b ∈ dblk (s i).d, b < w.heap.size
theorem PairAt.ext0 {W w w' : World} {gb : Nat} {s : Nat → Sd} (h : PairAt W w gb s) (e : Ext [] w w') : PairAt W w' gb s :=
  ⟨h.ex.trans e, h.gW, h.blk.ext0 e, fun i hi => (h.sd i hi).ext0 e, h.fW, h.gF, h.FF, h.FD, fun i hi b hb => Nat.lt_of_lt_of_le (h.dl i hi b hb) e.size⟩
def updS (s : Nat → Sd) (a : Nat) (t : Sd) : Nat → Sd := fun i => if i = a then t else s i
theorem updS_same (s : Nat → Sd) (a : Nat) (t : Sd) : updS s a t a = t := by simp [updS]
theorem updS_other (s : Nat → Sd) {a i : Nat} (t : Sd) (h : i ≠ a) : updS s a t i = s i := by simp [updS, h]
theorem PairAt.upd {W w w' : World} {gb a : Nat} {s : Nat → Sd} (h : PairAt W w gb s) (ha : a < 2) {t : Sd} (e : Ext ((s a).F ++ [gb]) w w') (hblk : BlkT w' gb (pcells (updS s a t)) 61) (ht : SdAt w' t) (hF : Grow w (s a).F t.F)
    (hD : ∀ b ∈ dblk t.d, b ∈ dblk (s a).d ∨ (w.heap.size ≤ b ∧ b < w'.heap.size)) (hFD : ∀ b ∈ t.F, b ∉ dblk t.d) : PairAt W w' gb (updS s a t) := by
  have hgl := h.blk.lt
  have zW := h.ex.size
  have z := e.size
  have old : ∀ i, i < 2 → i ≠ a → SdAt w' (s i) := fun i hi hne => (h.sd i hi).ext e (fun b hb hm => by
    rcases List.mem_append.1 hm with hm | hm
    · exact h.FF i a hi ha hne b hb hm
    · simp at hm; subst hm; exact (h.gF i hi).1 hb) (fun b hb hm => by
    rcases List.mem_append.1 hm with hm | hm
    · exact h.FD a i ha hi b hm hb
    · simp at hm; subst hm; exact (h.gF i hi).2 hb)
  have flt : ∀ i, i < 2 → ∀ b ∈ (s i).F, b < w.heap.size := fun i hi => (h.sd i hi).flt
  have cases_ : ∀ i, i = a ∨ i ≠ a := fun i => Decidable.em _
  refine ⟨h.ex.trans' e (fun b hb => ?_), h.gW, hblk, fun i hi => ?_, fun i hi b hb => ?_, fun i hi => ?_, fun i j hi hj hne b hb => ?_, fun i j hi hj b hb => ?_, fun i hi b hb => ?_⟩
  · rcases List.mem_append.1 hb with hb | hb
    · exact .inr (h.fW a ha b hb)
    · simp at hb; subst hb; exact .inr h.gW
  · rcases cases_ i with rfl | hne
    · rw [updS_same]; exact ht
    · rw [updS_other s t hne]; exact old i hi hne
  · rcases cases_ i with rfl | hne
    · rw [updS_same] at hb
      rcases hF b hb with h1 | h1
      · exact h.fW i ha b h1
      · omega
    · rw [updS_other s t hne] at hb; exact h.fW i hi b hb
  · rcases cases_ i with rfl | hne
    · rw [updS_same]
      refine ⟨fun hm => ?_, fun hm => ?_⟩
      · rcases hF _ hm with h1 | h1
        · exact (h.gF i ha).1 h1
        · omega
      · rcases hD _ hm with h1 | h1
        · exact (h.gF i ha).2 h1
        · omega
    · rw [updS_other s t hne]; exact h.gF i hi
  · rcases cases_ i with rfl | hi2
    · rw [updS_same] at hb
      rw [updS_other s t (fun e => hne e.symm)]
      intro hm
      rcases hF b hb with h1 | h1
      · exact h.FF i j hi hj hne b h1 hm
      · have := flt j hj b hm; omega
    · rw [updS_other s t hi2] at hb
      rcases cases_ j with rfl | hj2
      · rw [updS_same]
        intro hm
        rcases hF b hm with h1 | h1
        · exact h.FF i j hi hj hne b hb h1
        · have := flt i hi b hb; omega
      · rw [updS_other s t hj2]; exact h.FF i j hi hj hne b hb
  · rcases cases_ i with rfl | hi2
    · rw [updS_same] at hb
      rcases cases_ j with rfl | hj2
      · rw [updS_same]; exact hFD b hb
      · rw [updS_other s t hj2]
        intro hm
        rcases hF b hb with h1 | h1
        · exact h.FD i j hi hj b h1 hm
        · have := h.dl j hj b hm; omega
    · rw [updS_other s t hi2] at hb
      rcases cases_ j with rfl | hj2
      · rw [updS_same]
        intro hm
        rcases hD b hm with h1 | h1
        · exact h.FD i j hi hj b hb h1
        · have := flt i hi b hb; omega
      · rw [updS_other s t hj2]; exact h.FD i j hi hj b hb
  · rcases cases_ i with rfl | hne
    · rw [updS_same] at hb
      rcases hD b hb with h1 | h1
      · have := h.dl i ha b h1; omega
      · exact h1.2
    · rw [updS_other s t hne] at hb
      have := h.dl i hi b hb; omega
/-- Which of the two a step means. -/
def sideOf (n : Int) : Nat := (BitVec.ofInt 64 n &&& BitVec.ofInt 64 1).toNat
theorem sideOf_lt (n : Int) : sideOf n < 2 := by
  unfold sideOf
  rw [BitVec.toNat_and]
  have : (BitVec.ofInt 64 1).toNat = 1 := by decide
  rw [this, Nat.and_one_is_mod]
  omega
theorem side_wrap (n : Int) : IntKind.wrap .i64 ((BitVec.toNat (BitVec.ofInt 64 n &&& BitVec.ofInt 64 1) : Nat) : Int) = ((sideOf n : Nat) : Int) := by
  have := sideOf_lt n
  show IntKind.wrap .i64 ((sideOf n : Nat) : Int) = _
  rw [w64 (by omega) (by omega)]
/-- What stands in the pair, by the side. -/
theorem PairAt.rd {W w w' : World} {gb a : Nat} {s : Nat → Sd} {G : List Nat} (h : PairAt W w gb s) (ha : a < 2) (e : Ext G w w') (hg : gb ∉ G) :
    w'.cell? (Addr.add (Addr.add ⟨gb, 0, none⟩ 0) ((Int.toNat (a : Int)) * 1)) = some (.pointer (s a).p) ∧ V.cellsC (fun a_ x_ => World.cell? w' a_ = some x_) (Addr.add (Addr.add ⟨gb, 0, none⟩ 2) ((Int.toNat (a : Int)) * 2)) [.int .i64 ((s a).d.N : Int), .slice (s a).d.A (s a).d.l (s a).d.c] ∧ w'.cell? (Addr.add (Addr.add ⟨gb, 0, none⟩ 6) ((Int.toNat (a : Int)) * 1)) = some (.bool (s a).nl) := by
  have hb := h.blk.ext e hg
  rw [Int.toNat_natCast]
  rcases (by omega : a = 0 ∨ a = 1) with rfl | rfl
  · refine ⟨cadd2 hb rfl, fun i v hv => ?_, cadd2 hb rfl⟩
    match i, hv with
    | 0, hv => cases hv; simp only [Addr.add_lit]; exact hb.cell (i := 2) rfl
    | 1, hv => cases hv; simp only [Addr.add_lit]; exact hb.cell (i := 3) rfl
    | i + 2, hv => cases hv
  · refine ⟨cadd2 hb rfl, fun i v hv => ?_, cadd2 hb rfl⟩
    match i, hv with
    | 0, hv => cases hv; simp only [Addr.add_lit]; exact hb.cell (i := 4) rfl
    | 1, hv => cases hv; simp only [Addr.add_lit]; exact hb.cell (i := 5) rfl
    | i + 2, hv => cases hv
end Go.Proofs.YtpipenkaaodlgaaGreatDoor
namespace Go.Proofs.YtpipenkaaodlgaaGreatDoor
open Go Go.V Go.B

theorem iPx : (Tryz.prog.info? 27).map (·.size) = some 1 := by kernel_rfl
theorem addTo (g o k n : Nat) : Addr.add (Addr.add ⟨g, 0, none⟩ o) (k * n) = ⟨g, o + k * n, none⟩ := by
  rw [Addr.add_lit, Addr.add_lit, Nat.zero_add]
/-- The document's index of one side is turned. -/
theorem set_doc {w : World} {gb a : Nat} {s : Nat → Sd} (hb : BlkT w gb (pcells s) 61) (ha : a < 2) {t : Sd} (hp : t.p = (s a).p) (hn : t.nl = (s a).nl) :
    ∃ w', Sem.run Tryz.prog (Instr.storeAt 37 (Value.pointer (some (Addr.add (Addr.add ⟨gb, 0, none⟩ 2) ((Int.toNat (a : Int)) * 2)))) (Value.agg #[(Value.int .i64 (t.d.N : Int)), (Value.slice t.d.A t.d.l t.d.c)])) w = .ok () w' ∧ BlkT w' gb (pcells (updS s a t)) 61 ∧ Ext [gb] w w' := by
  have one : ∀ v ∈ [(Value.int .i64 (t.d.N : Int)), (Value.slice t.d.A t.d.l t.d.c)], v.oneCell' = true := fun v hv => by
    simp only [List.mem_cons, List.not_mem_nil, or_false] at hv
    rcases hv with rfl | rfl <;> rfl
  rw [Int.toNat_natCast, addTo]
  rcases (by omega : a = 0 ∨ a = 1) with rfl | rfl
  · obtain ⟨w', h1, h2, h3⟩ := storeN (P := Tryz.prog) (t := 37) (n := 2) (o := 2) (vs := [(Value.int .i64 (t.d.N : Int)), (Value.slice t.d.A t.d.l t.d.c)]) iIx hb rfl (by simp [pcells]) one
    refine ⟨w', h1, ?_, h3⟩
    have : (pcells s).take 2 ++ [(Value.int .i64 (t.d.N : Int)), (Value.slice t.d.A t.d.l t.d.c)] ++ (pcells s).drop (2 + 2) = pcells (updS s 0 t) := by
      simp [pcells, updS, hp, hn]
    rw [this] at h2; exact h2
  · obtain ⟨w', h1, h2, h3⟩ := storeN (P := Tryz.prog) (t := 37) (n := 2) (o := 4) (vs := [(Value.int .i64 (t.d.N : Int)), (Value.slice t.d.A t.d.l t.d.c)]) iIx hb rfl (by simp [pcells]) one
    refine ⟨w', h1, ?_, h3⟩
    have : (pcells s).take 4 ++ [(Value.int .i64 (t.d.N : Int)), (Value.slice t.d.A t.d.l t.d.c)] ++ (pcells s).drop (4 + 2) = pcells (updS s 1 t) := by
      simp [pcells, updS, hp, hn]
    rw [this] at h2; exact h2
/-- All of one side is turned. -/
theorem set_all {w : World} {gb a : Nat} {s : Nat → Sd} (hb : BlkT w gb (pcells s) 61) (ha : a < 2) (t : Sd) :
    ∃ w1, Sem.run Tryz.prog (Instr.storeAt 27 (Value.pointer (some (Addr.add (Addr.add ⟨gb, 0, none⟩ 0) ((Int.toNat (a : Int)) * 1)))) (Value.pointer t.p)) w = .ok () w1 ∧ Ext [gb] w w1 ∧
    ∃ w2, Sem.run Tryz.prog (Instr.storeAt 37 (Value.pointer (some (Addr.add (Addr.add ⟨gb, 0, none⟩ 2) ((Int.toNat (a : Int)) * 2)))) (Value.agg #[(Value.int .i64 (t.d.N : Int)), (Value.slice t.d.A t.d.l t.d.c)])) w1 = .ok () w2 ∧ Ext [gb] w w2 ∧
    ∃ w3, Sem.run Tryz.prog (Instr.storeAt 4 (Value.pointer (some (Addr.add (Addr.add ⟨gb, 0, none⟩ 6) ((Int.toNat (a : Int)) * 1)))) (Value.bool t.nl)) w2 = .ok () w3 ∧ Ext [gb] w w3 ∧ BlkT w3 gb (pcells (updS s a t)) 61 := by
  have one : ∀ v ∈ [(Value.int .i64 (t.d.N : Int)), (Value.slice t.d.A t.d.l t.d.c)], v.oneCell' = true := fun v hv => by
    simp only [List.mem_cons, List.not_mem_nil, or_false] at hv
    rcases hv with rfl | rfl <;> rfl
  rw [Int.toNat_natCast, addTo, addTo, addTo]
  rcases (by omega : a = 0 ∨ a = 1) with rfl | rfl
  · obtain ⟨w1, r1, b1, x1⟩ := store1 (P := Tryz.prog) (i := 0) (v := .pointer t.p) iPx hb (by simp [pcells]) rfl rfl
    obtain ⟨w2, r2, b2, x2⟩ := storeN (P := Tryz.prog) (t := 37) (n := 2) (o := 2) (vs := [(Value.int .i64 (t.d.N : Int)), (Value.slice t.d.A t.d.l t.d.c)]) iIx b1 rfl (by simp [pcells]) one
    obtain ⟨w3, r3, b3, x3⟩ := store1 (P := Tryz.prog) (i := 6) (v := .bool t.nl) i4s b2 (by simp [pcells]) rfl rfl
    refine ⟨w1, r1, x1, w2, r2, x1.trans x2, w3, r3, (x1.trans x2).trans x3, ?_⟩
    have : (((pcells s).set 0 (.pointer t.p)).take 2 ++ [(Value.int .i64 (t.d.N : Int)), (Value.slice t.d.A t.d.l t.d.c)] ++ ((pcells s).set 0 (.pointer t.p)).drop (2 + 2)).set 6 (.bool t.nl) = pcells (updS s 0 t) := by
      simp [pcells, updS]
    rw [this] at b3; exact b3
  · obtain ⟨w1, r1, b1, x1⟩ := store1 (P := Tryz.prog) (i := 1) (v := .pointer t.p) iPx hb (by simp [pcells]) rfl rfl
    obtain ⟨w2, r2, b2, x2⟩ := storeN (P := Tryz.prog) (t := 37) (n := 2) (o := 4) (vs := [(Value.int .i64 (t.d.N : Int)), (Value.slice t.d.A t.d.l t.d.c)]) iIx b1 rfl (by simp [pcells]) one
    obtain ⟨w3, r3, b3, x3⟩ := store1 (P := Tryz.prog) (i := 7) (v := .bool t.nl) i4s b2 (by simp [pcells]) rfl rfl
    refine ⟨w1, r1, x1, w2, r2, x1.trans x2, w3, r3, (x1.trans x2).trans x3, ?_⟩
    have : (((pcells s).set 1 (.pointer t.p)).take 4 ++ [(Value.int .i64 (t.d.N : Int)), (Value.slice t.d.A t.d.l t.d.c)] ++ ((pcells s).set 1 (.pointer t.p)).drop (4 + 2)).set 7 (.bool t.nl) = pcells (updS s 1 t) := by
      simp [pcells, updS]
    rw [this] at b3; exact b3
/-- Behind a changing call on the index and on the document's. -/
def Both (w w' : World) (bx : Nat) (u : Sd) (e f : Int) : Prop :=
  (u.nl = true ∧ e = 1 ∧ Ext [] w w') ∨ (u.nl = false ∧ e = f ∧ ∃ t : Sd, t.p = u.p ∧ t.nl = u.nl ∧ Ext u.F w w' ∧ Grow w u.F t.F ∧ SdAt w' t ∧ (∀ b ∈ dblk t.d, b ∈ dblk u.d ∨ (w.heap.size ≤ b ∧ b < w'.heap.size)) ∧ (∀ b ∈ t.F, b ∉ dblk t.d) ∧ BlkT w' bx [.int .i64 (t.d.N : Int), .slice t.d.A t.d.l t.d.c] 37 ∧ (∀ b ∈ dblk t.d, b < w'.heap.size))
theorem Both.mk {w w1 w2 w3 w4 w5 : World} {bx : Nat} {u : Sd} {F' : List Nat} {x' : Px} {d' : PDoc} {f : LabF} {e : Int} (hu : SdAt w u) (hn : u.nl = false) (hp : u.p = some ⟨u.x.q, 0, none⟩) (hF : ∀ b ∈ u.F, b < w.heap.size) (hdl : ∀ b ∈ dblk u.d, b < w.heap.size) (hFD : ∀ b ∈ u.F, b ∉ dblk u.d)
    (e1 : Ext [] w w1) (ch : Chz w1 w2 u.F F' u.x x' f) (e2 : Ext [] w2 w3) (e3 : Ext [] w3 w4) (dch : DChg w3 w4 u.d d' f) (e4 : Ext [bx] w4 w5) (hb : BlkT w5 bx [.int .i64 (d'.N : Int), .slice d'.A d'.l d'.c] 37) (hb0 : w.heap.size ≤ bx) (hb1 : bx < w1.heap.size) : Both w w5 bx u e e := by
  have z1 := e1.size
  have z2 := ch.ex.size
  have z3 := e2.size
  have z4 := e3.size
  have z5 := e4.size
  have hF'lt := ch.at_.lt
  have dnew : ∀ b ∈ dblk d', b ∈ dblk u.d ∨ (w3.heap.size ≤ b ∧ b < w4.heap.size) := dch.blk
  have hbF' : ∀ b ∈ F', b ≠ bx := fun b hb' e => by
    subst e
    rcases ch.gr b hb' with h1 | h1
    · have := hF b h1; omega
    · omega
  have hbD : ∀ b ∈ dblk d', b ∉ [bx] := fun b hb' hm => by
    simp at hm; subst hm
    rcases dnew b hb' with h1 | h1
    · have := hdl b h1; omega
    · omega
  have x4 : PxAt w5 F' x' := ((ch.at_.ext0 e2).ext0 e3).ext e4 (fun b hb' hm => by simp at hm; exact hbF' b hb' hm)
  refine .inr ⟨hn, rfl, ⟨u.p, x', d', u.nl, F'⟩, rfl, rfl, ?_, fun b hb' => ?_, ⟨⟨.inr ⟨F', by rw [ch.q]; exact hp, x4⟩, ch.ok⟩, ?_, ?_, dch.at_.ext e4 (fun b hb' => hbD b (mem_dblk.2 (.inl hb'))) (fun r hr b hb' => hbD b (mem_dblk.2 (.inr ⟨r, hr, hb'⟩))), dch.ok, .inr ⟨hn, by rw [ch.q]; exact hp, x4⟩⟩, fun b hb' => ?_, fun b hb' hm => ?_, hb, fun b hb' => ?_⟩
  · exact (((e1.up.trans ch.ex).then e2).then e3).trans' e4 (fun b hb' => by simp at hb'; subst hb'; exact .inr hb0)
  · rcases ch.gr b hb' with h1 | h1
    · exact .inl h1
    · exact .inr (by omega)
  · show x'.N = d'.N
    rw [ch.N, dch.N, hu.N]
  · show x'.lab = labD d'.rows
    rw [show x'.lab = f from funext ch.lab, dch.lab]
  · rcases dnew b hb' with h1 | h1
    · exact .inl h1
    · exact .inr (by omega)
  · rcases ch.gr b hb' with h1 | h1
    · rcases dnew b hm with h2 | h2
      · exact hFD b h1 h2
      · have := hF b h1; omega
    · have := hF'lt b hb'
      rcases dnew b hm with h2 | h2
      · have := hdl b h2; omega
      · omega
  · rcases dnew b hb' with h1 | h1
    · have := hdl b h1; omega
    · omega
theorem cellsC_all {g : Nat} {cs : List Value} {T : TypeId} {S : World → Prop} (h : ∀ w', S w' → BlkT w' g cs T) : V.cellsC (fun a_ x_ => ∀ w', S w' → World.cell? w' a_ = some x_) ⟨g, 0, none⟩ cs := fun i v hv w' hs => cadd (h w' hs) hv
theorem op_new {w w9 : World} {o : POp} (h : w9 = World.alloc w (.cells #[.int .i64 o.kind, .int .i64 o.x, .int .i64 o.n, .slice o.A o.m o.c, .string o.key, .string o.value, .slice o.B o.m2 o.c2] 25)) : BlkT w9 w.heap.size o.cells 25 ∧ Ext [] w w9 ∧ w9.heap.size = w.heap.size + 1 := box_new (cs := o.cells) h
abbrev opVal (o : POp) : Value := .agg #[.int .i64 o.kind, .int .i64 o.x, .int .i64 o.n, .slice o.A o.m o.c, .string o.key, .string o.value, .slice o.B o.m2 o.c2]
set_option maxRecDepth 8000 in
set_option maxHeartbeats 1000000 in
theorem changing_c {W w : World} {gb : Nat} {s : Nat → Sd} (h : PairAt W w gb s) {o : POp} (ho : o.In W) {R : Ending → World → Prop}
    (k : ∀ w' s', PairAt W w' gb s' → R (.returned (.bool true)) w') : Calls Tryz.prog 48 #[.pointer (some ⟨gb, 0, none⟩), opVal o] w R := by
  apply berthlaw07_Pair_changing_nf
  intro w9 h9
  obtain ⟨b9, x9, z9⟩ := op_new h9
  refine ⟨_, cadd b9 rfl, ?_⟩
  show ∀ _, _
  simp only [side_wrap]
  generalize ha0 : sideOf o.x = a
  have ha : a < 2 := by rw [← ha0]; exact sideOf_lt _
  have wa : (0 : Int) ≤ ((a : Nat) : Int) ∧ ((a : Nat) : Int) < 2 := by omega
  intro w12 h12
  obtain ⟨b12, x12, z12⟩ := doc_box h12
  have hu := h.sd a ha
  have hFlt := hu.flt
  have hdl := h.dl a ha
  have hFD := h.FD a a ha ha
  have hgl := h.blk.lt
  have E12 := x9.trans x12
  have d13 : Ext [] w12 w12.drew := (Ext.refl _ _).drew
  have E13 := E12.trans d13
  have b13 := (b9.ext0 x12).ext0 d13
  have q13 := b12.ext0 d13
  have z13 : w12.drew.heap.size = w12.heap.size := rfl
  refine ⟨fun e f w' => Both w w' w9.heap.size (s a) e f, ?_, ?_⟩
  · refine ⟨_, cadd (b9.ext0 x12) rfl, sel_intro (fun hk => ?_) (fun hk => sel_intro (fun hk2 => ?_) (fun hk2 => ?_))⟩
    · -- Put
      have b13 := b13
      generalize w12.drew = w13 at d13 E13 b13 q13 z13 ⊢
      have h13 := h.ext0 E13
      have ho13 := ho.ext0 (h.ex.trans E13)
      have hgF := (h.gF a ha).1
      have hboF : w.heap.size ∉ (s a).F := fun hm => by have := hFlt _ hm; omega
      have hbxF : w9.heap.size ∉ (s a).F := fun hm => by have := hFlt _ hm; omega
      refine ⟨fun w' => Ext (s a).F w13 w', Ext.refl _ _, ptr_in (when_dec wa ⟨_, fun w' e => (h13.rd ha e hgF).1, _, fun w' e => cadd (b13.ext e hboF) rfl, _, _, _, fun w' e => cadd (b13.ext e hboF) rfl, ?_⟩)⟩
      refine labels_c ho13.l.c ho13.l.len ho13.l.big fun w23 A' c' e23 own23 => ⟨_, _, _, rfl, e23.up, ?_⟩
      have gb23 := own23.base
      have l23 : LIn w23 A' o.m o.l := ⟨own23.cells, ho13.l.len, ho13.l.sz, ho13.l.big⟩
      have E23 := E13.trans e23
      have h23 := h.ext0 E23
      -- what the document does
      have doc : ∀ {w26 : World} (e1 : Int), Ext (s a).F w13 w26 → (∀ w38 d', Ext [] w26.drew w38 → DChg w26.drew w38 (s a).d d' (updL (labD (s a).d.rows) (putE (s a).d.N (labD (s a).d.rows) o.n o.l) o.n (some o.l)) → ∀ w39, Ext [w9.heap.size] w38 w39 → BlkT w39 w9.heap.size [.int .i64 (d'.N : Int), .slice d'.A d'.l d'.c] 37 → Both w w39 w9.heap.size (s a) e1 (putE (s a).d.N (labD (s a).d.rows) o.n o.l)) →
          ∃ S27 : World → Prop, S27 (World.drew w26) ∧
          V.ptr (some ⟨gb, 0, none⟩) fun a29 =>
          V.when (decide ((0 : Int) ≤ ((a : Nat) : Int) ∧ (((a : Nat) : Int) : Int) < 2)) (∃ n30, ∃ A31, ∃ A31l, ∃ A31c, V.cellsC (fun a_ x_ => ∀ w28, S27 w28 → World.cell? w28 a_ = some x_) (Addr.add (Addr.add a29 2) ((Int.toNat ((a : Nat) : Int)) * 2)) [(Value.int .i64 n30), (Value.slice A31 A31l A31c)] ∧
          ∃ n32, (∀ w28, S27 w28 → World.cell? w28 (Addr.add ⟨Array.size (World.heap w), 0, none⟩ 2) = some (Value.int .i64 n32)) ∧
          ∃ A33, ∃ A33l, ∃ A33c, (∀ w28, S27 w28 → World.cell? w28 (Addr.add ⟨Array.size (World.heap w), 0, none⟩ 3) = some (Value.slice A33 A33l A33c)) ∧
          Calls Tryz.prog 10 #[(Value.agg #[(Value.int .i64 n30), (Value.slice A31 A31l A31c)]), (Value.int .i64 n32), (Value.slice A33 A33l A33c)] (World.drew w26) fun e37 w38 =>
          ∃ n34, ∃ A35, ∃ A35l, ∃ A35c, ∃ n36, e37 = Ending.returned (Value.tuple #[(Value.agg #[(Value.int .i64 n34), (Value.slice A35 A35l A35c)]), (Value.int .i64 n36)]) ∧
          S27 w38 ∧
          ∃ w39, Sem.run Tryz.prog (Instr.storeAt 37 (Value.pointer (some ⟨Array.size (World.heap w9), 0, none⟩)) (Value.agg #[(Value.int .i64 n34), (Value.slice A35 A35l A35c)])) w38 = .ok () w39 ∧
          S27 w39 ∧
          Both w w39 w9.heap.size (s a) e1 n36) := by
        intro w26 e1 e26 fin
        have dd : Ext [] w26 w26.drew := (Ext.refl _ _).drew
        have ed := e26.then dd
        have bo := b13.ext ed hboF
        have bq := q13.ext ed hbxF
        have hdoc := (hu.doc.ext0 E13).ext ed (fun b hb hm => hFD b hm (mem_dblk.2 (.inl hb))) (fun r hr b hb hm => hFD b hm (mem_dblk.2 (.inr ⟨r, hr, hb⟩)))
        have hl26 : LIn w26.drew o.A o.m o.l := ho.l.ext0 ((h.ex.trans E13).trans' ed (fun b hb => .inr (h.fW a ha b hb)))
        refine ⟨fun w' => Ext [w9.heap.size] w26.drew w', Ext.refl _ _, ptr_in (when_dec wa ⟨_, _, _, _, fun i v hv w' e' => (h13.rd ha (G := (s a).F ++ [w9.heap.size]) ((ed.weaken (fun b hb => .inl (by simp [hb]))).trans' e' (fun b hb => .inl (by simp at hb; simp [hb]))) (by simp; exact ⟨hgF, by omega⟩)).2.1 i v hv, _, fun w' e' => cadd (bo.ext e' (by simp; omega)) rfl, _, _, _, fun w' e' => cadd (bo.ext e' (by simp; omega)) rfl, ?_⟩)⟩
        refine DPut_c hdoc hu.ok o.n hl26 fun w38 d' e38 dch => ⟨_, _, _, _, _, rfl, e38.up, ?_⟩
        obtain ⟨w39, hr39, b39, x39⟩ := doc_store (bq.ext0 e38) rfl (d'.N : Int) d'.A d'.l d'.c
        exact ⟨w39, hr39, e38.up.trans x39, fin w38 d' e38 dch w39 x39 b39⟩
      rcases hu.nil with ⟨n1, n2, n3⟩ | ⟨n1, n2, n3⟩
      · rw [n2]
        refine Put_nil ⟨_, rfl, e23.up, doc 1 e23.up fun w38 d' e38 dch w39 e39 b39 => .inl ⟨n1, rfl, ?_⟩⟩
        exact ((E23.trans (Ext.refl _ _).drew).trans e38).trans' e39 (fun b hb => by simp at hb; subst hb; exact .inr (by omega))
      · rw [n2]
        have x23 := n3.ext0 E23
        refine Put_c x23 hu.v.ok o.n l23 (fun b hb hm => by have := gb23 b hb; have := hFlt b hm; have := E13.size; omega) fun w26 F' x' ch => ⟨_, rfl, e23.up.trans ch.ex, ?_⟩
        have hee : putE (s a).x.N (s a).x.lab o.n o.l = putE (s a).d.N (labD (s a).d.rows) o.n o.l := by rw [hu.N, hu.lab]
        refine doc _ (e23.up.trans ch.ex) fun w38 d' e38 dch w39 e39 b39 => ?_
        rw [hee, hu.lab] at ch
        rw [hee]
        exact Both.mk hu n1 n2 hFlt hdl hFD E23 ch (Ext.refl _ _).drew e38 dch e39 b39 (by omega) (by have := x12.size; have := e23.size; omega)
    · -- Set
      have b13 := b13
      generalize w12.drew = w13 at d13 E13 b13 q13 z13 ⊢
      have h13 := h.ext0 E13
      have ho13 := ho.ext0 (h.ex.trans E13)
      have hgF := (h.gF a ha).1
      have hboF : w.heap.size ∉ (s a).F := fun hm => by have := hFlt _ hm; omega
      have hbxF : w9.heap.size ∉ (s a).F := fun hm => by have := hFlt _ hm; omega
      refine ⟨fun w' => Ext (s a).F w13 w', Ext.refl _ _, ptr_in (when_dec wa ⟨_, fun w' e => (h13.rd ha e hgF).1, _, fun w' e => cadd (b13.ext e hboF) rfl, _, _, _, fun w' e => cadd (b13.ext e hboF) rfl, ?_⟩)⟩
      refine labels_c ho13.l.c ho13.l.len ho13.l.big fun w23 A' c' e23 own23 => ⟨_, _, _, rfl, e23.up, ?_⟩
      have gb23 := own23.base
      have l23 : LIn w23 A' o.m o.l := ⟨own23.cells, ho13.l.len, ho13.l.sz, ho13.l.big⟩
      have E23 := E13.trans e23
      have h23 := h.ext0 E23
      -- what the document does
      have doc : ∀ {w26 : World} (e1 : Int), Ext (s a).F w13 w26 → (∀ w38 d', Ext [] w26.drew w38 → DChg w26.drew w38 (s a).d d' (updL (labD (s a).d.rows) (setE (s a).d.N (labD (s a).d.rows) o.n o.l) o.n (some o.l)) → ∀ w39, Ext [w9.heap.size] w38 w39 → BlkT w39 w9.heap.size [.int .i64 (d'.N : Int), .slice d'.A d'.l d'.c] 37 → Both w w39 w9.heap.size (s a) e1 (setE (s a).d.N (labD (s a).d.rows) o.n o.l)) →
          ∃ S27 : World → Prop, S27 (World.drew w26) ∧
          V.ptr (some ⟨gb, 0, none⟩) fun a29 =>
          V.when (decide ((0 : Int) ≤ ((a : Nat) : Int) ∧ (((a : Nat) : Int) : Int) < 2)) (∃ n30, ∃ A31, ∃ A31l, ∃ A31c, V.cellsC (fun a_ x_ => ∀ w28, S27 w28 → World.cell? w28 a_ = some x_) (Addr.add (Addr.add a29 2) ((Int.toNat ((a : Nat) : Int)) * 2)) [(Value.int .i64 n30), (Value.slice A31 A31l A31c)] ∧
          ∃ n32, (∀ w28, S27 w28 → World.cell? w28 (Addr.add ⟨Array.size (World.heap w), 0, none⟩ 2) = some (Value.int .i64 n32)) ∧
          ∃ A33, ∃ A33l, ∃ A33c, (∀ w28, S27 w28 → World.cell? w28 (Addr.add ⟨Array.size (World.heap w), 0, none⟩ 3) = some (Value.slice A33 A33l A33c)) ∧
          Calls Tryz.prog 66 #[(Value.agg #[(Value.int .i64 n30), (Value.slice A31 A31l A31c)]), (Value.int .i64 n32), (Value.slice A33 A33l A33c)] (World.drew w26) fun e37 w38 =>
          ∃ n34, ∃ A35, ∃ A35l, ∃ A35c, ∃ n36, e37 = Ending.returned (Value.tuple #[(Value.agg #[(Value.int .i64 n34), (Value.slice A35 A35l A35c)]), (Value.int .i64 n36)]) ∧
          S27 w38 ∧
          ∃ w39, Sem.run Tryz.prog (Instr.storeAt 37 (Value.pointer (some ⟨Array.size (World.heap w9), 0, none⟩)) (Value.agg #[(Value.int .i64 n34), (Value.slice A35 A35l A35c)])) w38 = .ok () w39 ∧
          S27 w39 ∧
          Both w w39 w9.heap.size (s a) e1 n36) := by
        intro w26 e1 e26 fin
        have dd : Ext [] w26 w26.drew := (Ext.refl _ _).drew
        have ed := e26.then dd
        have bo := b13.ext ed hboF
        have bq := q13.ext ed hbxF
        have hdoc := (hu.doc.ext0 E13).ext ed (fun b hb hm => hFD b hm (mem_dblk.2 (.inl hb))) (fun r hr b hb hm => hFD b hm (mem_dblk.2 (.inr ⟨r, hr, hb⟩)))
        have hl26 : LIn w26.drew o.A o.m o.l := ho.l.ext0 ((h.ex.trans E13).trans' ed (fun b hb => .inr (h.fW a ha b hb)))
        refine ⟨fun w' => Ext [w9.heap.size] w26.drew w', Ext.refl _ _, ptr_in (when_dec wa ⟨_, _, _, _, fun i v hv w' e' => (h13.rd ha (G := (s a).F ++ [w9.heap.size]) ((ed.weaken (fun b hb => .inl (by simp [hb]))).trans' e' (fun b hb => .inl (by simp at hb; simp [hb]))) (by simp; exact ⟨hgF, by omega⟩)).2.1 i v hv, _, fun w' e' => cadd (bo.ext e' (by simp; omega)) rfl, _, _, _, fun w' e' => cadd (bo.ext e' (by simp; omega)) rfl, ?_⟩)⟩
        refine DSet_c hdoc hu.ok o.n hl26 fun w38 d' e38 dch => ⟨_, _, _, _, _, rfl, e38.up, ?_⟩
        obtain ⟨w39, hr39, b39, x39⟩ := doc_store (bq.ext0 e38) rfl (d'.N : Int) d'.A d'.l d'.c
        exact ⟨w39, hr39, e38.up.trans x39, fin w38 d' e38 dch w39 x39 b39⟩
      rcases hu.nil with ⟨n1, n2, n3⟩ | ⟨n1, n2, n3⟩
      · rw [n2]
        refine Set_nil ⟨_, rfl, e23.up, doc 1 e23.up fun w38 d' e38 dch w39 e39 b39 => .inl ⟨n1, rfl, ?_⟩⟩
        exact ((E23.trans (Ext.refl _ _).drew).trans e38).trans' e39 (fun b hb => by simp at hb; subst hb; exact .inr (by omega))
      · rw [n2]
        have x23 := n3.ext0 E23
        refine Set_c x23 hu.v.ok o.n l23 (fun b hb hm => by have := gb23 b hb; have := hFlt b hm; have := E13.size; omega) (fun b hb => (gb23 b hb).2) fun w26 F' x' ch => ⟨_, rfl, e23.up.trans ch.ex, ?_⟩
        have hee : setE (s a).x.N (s a).x.lab o.n o.l = setE (s a).d.N (labD (s a).d.rows) o.n o.l := by rw [hu.N, hu.lab]
        refine doc _ (e23.up.trans ch.ex) fun w38 d' e38 dch w39 e39 b39 => ?_
        rw [hee, hu.lab] at ch
        rw [hee]
        exact Both.mk hu n1 n2 hFlt hdl hFD E23 ch (Ext.refl _ _).drew e38 dch e39 b39 (by omega) (by have := x12.size; have := e23.size; omega)
    · -- Drop
      have b13 := b13
      generalize w12.drew = w13 at d13 E13 b13 q13 z13 ⊢
      have h13 := h.ext0 E13
      have ho13 := ho.ext0 (h.ex.trans E13)
      have hgF := (h.gF a ha).1
      have hboF : w.heap.size ∉ (s a).F := fun hm => by have := hFlt _ hm; omega
      have hbxF : w9.heap.size ∉ (s a).F := fun hm => by have := hFlt _ hm; omega
      refine ⟨fun w' => Ext (s a).F w13 w', Ext.refl _ _, ptr_in (when_dec wa ⟨_, fun w' e => (h13.rd ha e hgF).1, _, fun w' e => cadd (b13.ext e hboF) rfl, ?_⟩)⟩
      have E23 := E13
      -- what the document does
      have doc : ∀ {w26 : World} (e1 : Int), Ext (s a).F w13 w26 → (∀ w38 d', Ext [] w26.drew w38 → DChg w26.drew w38 (s a).d d' (updL (labD (s a).d.rows) (dropE (s a).d.N (labD (s a).d.rows) o.n) o.n none) → ∀ w39, Ext [w9.heap.size] w38 w39 → BlkT w39 w9.heap.size [.int .i64 (d'.N : Int), .slice d'.A d'.l d'.c] 37 → Both w w39 w9.heap.size (s a) e1 (dropE (s a).d.N (labD (s a).d.rows) o.n)) →
          ∃ S27 : World → Prop, S27 (World.drew w26) ∧
          V.ptr (some ⟨gb, 0, none⟩) fun a29 =>
          V.when (decide ((0 : Int) ≤ ((a : Nat) : Int) ∧ (((a : Nat) : Int) : Int) < 2)) (∃ n30, ∃ A31, ∃ A31l, ∃ A31c, V.cellsC (fun a_ x_ => ∀ w28, S27 w28 → World.cell? w28 a_ = some x_) (Addr.add (Addr.add a29 2) ((Int.toNat ((a : Nat) : Int)) * 2)) [(Value.int .i64 n30), (Value.slice A31 A31l A31c)] ∧
          ∃ n32, (∀ w28, S27 w28 → World.cell? w28 (Addr.add ⟨Array.size (World.heap w), 0, none⟩ 2) = some (Value.int .i64 n32)) ∧
          Calls Tryz.prog 68 #[(Value.agg #[(Value.int .i64 n30), (Value.slice A31 A31l A31c)]), (Value.int .i64 n32)] (World.drew w26) fun e37 w38 =>
          ∃ n34, ∃ A35, ∃ A35l, ∃ A35c, ∃ n36, e37 = Ending.returned (Value.tuple #[(Value.agg #[(Value.int .i64 n34), (Value.slice A35 A35l A35c)]), (Value.int .i64 n36)]) ∧
          S27 w38 ∧
          ∃ w39, Sem.run Tryz.prog (Instr.storeAt 37 (Value.pointer (some ⟨Array.size (World.heap w9), 0, none⟩)) (Value.agg #[(Value.int .i64 n34), (Value.slice A35 A35l A35c)])) w38 = .ok () w39 ∧
          S27 w39 ∧
          Both w w39 w9.heap.size (s a) e1 n36) := by
        intro w26 e1 e26 fin
        have dd : Ext [] w26 w26.drew := (Ext.refl _ _).drew
        have ed := e26.then dd
        have bo := b13.ext ed hboF
        have bq := q13.ext ed hbxF
        have hdoc := (hu.doc.ext0 E13).ext ed (fun b hb hm => hFD b hm (mem_dblk.2 (.inl hb))) (fun r hr b hb hm => hFD b hm (mem_dblk.2 (.inr ⟨r, hr, hb⟩)))
        have hl26 : LIn w26.drew o.A o.m o.l := ho.l.ext0 ((h.ex.trans E13).trans' ed (fun b hb => .inr (h.fW a ha b hb)))
        refine ⟨fun w' => Ext [w9.heap.size] w26.drew w', Ext.refl _ _, ptr_in (when_dec wa ⟨_, _, _, _, fun i v hv w' e' => (h13.rd ha (G := (s a).F ++ [w9.heap.size]) ((ed.weaken (fun b hb => .inl (by simp [hb]))).trans' e' (fun b hb => .inl (by simp at hb; simp [hb]))) (by simp; exact ⟨hgF, by omega⟩)).2.1 i v hv, _, fun w' e' => cadd (bo.ext e' (by simp; omega)) rfl, ?_⟩)⟩
        refine DDrop_c hdoc hu.ok o.n fun w38 d' e38 dch => ⟨_, _, _, _, _, rfl, e38.up, ?_⟩
        obtain ⟨w39, hr39, b39, x39⟩ := doc_store (bq.ext0 e38) rfl (d'.N : Int) d'.A d'.l d'.c
        exact ⟨w39, hr39, e38.up.trans x39, fin w38 d' e38 dch w39 x39 b39⟩
      rcases hu.nil with ⟨n1, n2, n3⟩ | ⟨n1, n2, n3⟩
      · rw [n2]
        refine Drop_nil ⟨_, rfl, Ext.refl _ _, doc 1 (Ext.refl _ _) fun w38 d' e38 dch w39 e39 b39 => .inl ⟨n1, rfl, ?_⟩⟩
        exact ((E23.trans (Ext.refl _ _).drew).trans e38).trans' e39 (fun b hb => by simp at hb; subst hb; exact .inr (by omega))
      · rw [n2]
        have x23 := n3.ext0 E23
        refine Drop_c x23 hu.v.ok o.n fun w26 F' x' ch => ⟨_, rfl, ch.ex, ?_⟩
        have hee : dropE (s a).x.N (s a).x.lab o.n = dropE (s a).d.N (labD (s a).d.rows) o.n := by rw [hu.N, hu.lab]
        refine doc _ ch.ex fun w38 d' e38 dch w39 e39 b39 => ?_
        rw [hee, hu.lab] at ch
        rw [hee]
        exact Both.mk hu n1 n2 hFlt hdl hFD E23 ch (Ext.refl _ _).drew e38 dch e39 b39 (by omega) (by have := x12.size; omega)
  · rintro e f _ w88 both
    have hbx : gb ≠ w9.heap.size := by omega
    rcases both with ⟨hn, he, e88⟩ | ⟨hn, he, t, tp, tn, e88, tg, ts, td, tfd, tb, tlt⟩
    · have h88 := h.ext0 e88
      refine ptr_in (when_dec wa ⟨_, (h88.rd ha (Ext.refl [] _) (by simp)).2.2, ?_⟩)
      rw [hn]
      exact sel_true rfl (num_c _ ⟨_, rfl, by rw [he]; exact k w88 s h88⟩)
    · have hgF := (h.gF a ha).1
      refine ptr_in (when_dec wa ⟨_, (h.rd ha e88 hgF).2.2, ?_⟩)
      rw [hn]
      have d88 : Ext [] w88 w88.drew := (Ext.refl _ _).drew
      have gb88 := (h.blk.ext e88 hgF).ext0 d88
      have ts' := ts.ext0 d88
      have tb' := tb.ext0 d88
      have e88' := e88.then d88
      have z88 : w88.drew.heap.size = w88.heap.size := rfl
      generalize w88.drew = w89 at d88 gb88 ts' tb' e88' z88 ⊢
      obtain ⟨w99, hr99, b99, x99⟩ := set_doc gb88 ha tp tn
      have hgd : gb ∉ dblk t.d := fun hm => by
        rcases td gb hm with h1 | h1
        · exact (h.gF a ha).2 h1
        · omega
      have hgtF : gb ∉ t.F := fun hm => by
        rcases tg gb hm with h1 | h1
        · exact hgF h1
        · omega
      refine sel_false rfl ⟨fun w' => Ext [gb] w89 w', Ext.refl _ _, _, _, _, _, cellsC_all (fun w' e' => tb'.ext e' (by simp; omega)), ptr_in (when_dec wa ⟨w99, hr99, x99, num_c _ ⟨_, rfl, ?_⟩⟩)⟩
      rw [he]
      have := k w99 (updS s a t) (h.upd ha (e88'.weaken (fun b hb => .inl (by simp [hb])) |>.trans' x99 (fun b hb => .inl (by simp at hb; simp [hb]))) b99 (ts'.ext x99 (fun b hb hm => by simp at hm; subst hm; exact hgtF hb) (fun b hb hm => by simp at hm; subst hm; exact hgd hb)) tg (fun b hb => (td b hb).imp id (fun h1 => ⟨h1.1, by have := x99.size; omega⟩)) tfd)
      simpa using this
end Go.Proofs.YtpipenkaaodlgaaGreatDoor
namespace Go.Proofs.YtpipenkaaodlgaaGreatDoor
open Go Go.V Go.B

theorem count_eq' {S T : SetV} (hs : S.Ok) (ht : T.Ok) (h : ∀ i, S.mem i = true ↔ T.mem i = true) : S.count = T.count := by
  rw [← members_length, ← members_length]
  have n1 : S.members.Nodup := List.nodup_range.filter _
  have n2 : T.members.Nodup := List.nodup_range.filter _
  exact ((List.perm_ext_iff_of_nodup n1 n2).2 fun i => by rw [mem_members hs, mem_members ht, h]).length_eq
/-- A set without members, not in block G. -/
def EmpN (G : Nat) (w : World) (q : Option Addr) : Prop := ∃ p bw S, q = some ⟨p, 0, none⟩ ∧ p ≠ G ∧ bw ≠ G ∧ SetAt w p bw S ∧ ∀ i, S.mem i = false
/-- A set without members. -/
def Emp (w : World) (q : Option Addr) : Prop := ∃ p bw S, q = some ⟨p, 0, none⟩ ∧ SetAt w p bw S ∧ ∀ i, S.mem i = false
theorem Emp.ext0 {w w' : World} {q : Option Addr} (h : Emp w q) (e : Ext [] w w') : Emp w' q := by
  obtain ⟨p, bw, S, h1, h2, h3⟩ := h
  exact ⟨p, bw, S, h1, h2.ext0 e, h3⟩
theorem EmpN.ext0 {G : Nat} {w w' : World} {q : Option Addr} (h : EmpN G w q) (e : Ext [] w w') : EmpN G w' q := by
  obtain ⟨p, bw, S, h1, g1, g2, h2, h3⟩ := h
  exact ⟨p, bw, S, h1, g1, g2, h2.ext0 e, h3⟩
theorem EmpN.ext {G : Nat} {w w' : World} {q : Option Addr} (h : EmpN G w q) (e : Ext [G] w w') : Emp w' q := by
  obtain ⟨p, bw, S, h1, g1, g2, h2, h3⟩ := h
  exact ⟨p, bw, S, h1, h2.ext e (by simpa using g1) (by simpa using g2), h3⟩
theorem Emp.new {G : Nat} {w : World} {q : Option Addr} (h : Emp w q) (hG : w.heap.size ≤ G) : EmpN G w q := by
  obtain ⟨p, bw, S, h1, h2, h3⟩ := h
  have g1 := h2.hdr.lt
  have g2 := h2.wrd.lt
  exact ⟨p, bw, S, h1, by omega, by omega, h2, h3⟩
theorem Emp.count {w : World} {q : Option Addr} (h : Emp w q) {R : Ending → World → Prop} (k : R (.returned (.int .i64 0)) w) : Calls Tryz.prog 46 #[.pointer q] w R := by
  obtain ⟨p, bw, S, rfl, h2, h3⟩ := h
  refine Count_c h2.ref ?_
  rw [(count0 h2.ok).2 h3]
  exact k
section
variable {w : World} {x : Px} (v : PxV w none x) {R : Ending → World → Prop}
include v
theorem nlab (i : Int) : x.lab i = none := v.nil_lab.2.1 i
theorem Live_e (k : ∀ w' q, Ext [] w w' → (∀ G, G < w.heap.size → EmpN G w' q) → R (.returned (.pointer q)) w') : Calls Tryz.prog 36 #[.pointer none] w R :=
  Live_c v fun p bw w' S e hp hb hs hN hm => k w' _ e fun G hG => ⟨p, bw, S, rfl, by omega, by omega, hs, fun i => by rw [hm, nlab v]; rfl⟩
theorem With_e (key val : ByteArray) (k : ∀ w' q, Ext [] w w' → (∀ G, G < w.heap.size → EmpN G w' q) → R (.returned (.pointer q)) w') : Calls Tryz.prog 24 #[.pointer none, .string key, .string val] w R :=
  With_c v key val fun p bw w' S e hp hb hs hN hm => k w' _ e fun G hG => ⟨p, bw, S, rfl, by omega, by omega, hs, fun i => by
    cases h : S.mem i with
    | false => rfl
    | true => obtain ⟨l, h1, _⟩ := (hm i).1 h; rw [nlab v] at h1; cases h1⟩
theorem Has_e (key : ByteArray) (k : ∀ w' q, Ext [] w w' → (∀ G, G < w.heap.size → EmpN G w' q) → R (.returned (.pointer q)) w') : Calls Tryz.prog 42 #[.pointer none, .string key] w R :=
  HasP_c v key fun p bw w' S e hp hb hs hN hm => k w' _ e fun G hG => ⟨p, bw, S, rfl, by omega, by omega, hs, fun i => by
    cases h : S.mem i with
    | false => rfl
    | true => obtain ⟨l, h1, _⟩ := (hm i).1 h; rw [nlab v] at h1; cases h1⟩
theorem In_e (key : ByteArray) {A : Option Addr} {n c B : Nat} {vs : List ByteArray} (own : OwnL SL w B 9 A n c vs) (hn : n < 4611686018427387904) (k : ∀ w' q, Ext [] w w' → (∀ G, G < w.heap.size → EmpN G w' q) → R (.returned (.pointer q)) w') : Calls Tryz.prog 41 #[.pointer none, .string key, .slice A n c] w R :=
  In_c v key (vs := vs) (fun j u hj => by
    have hjl := (List.getElem?_eq_some_iff.1 hj).1
    obtain ⟨u', ad', h1, h2, h3⟩ := text_at own.cells own.len (a := j) (by have := own.len; omega)
    rw [hj] at h1
    cases h1
    exact ⟨ad', h2, by rw [Int.toNat_natCast, Nat.mul_one] at h3; exact h3⟩) own.len hn (fun b hb => (own.base b hb).2) fun p bw w' S e hp hb hs hN hm => k w' _ e fun G hG => ⟨p, bw, S, rfl, by omega, by omega, hs, fun i => by
    cases h : S.mem i with
    | false => rfl
    | true => obtain ⟨l, h1, _⟩ := (hm i).1 h; rw [nlab v] at h1; cases h1⟩
end
theorem EmpN.emp {G : Nat} {w : World} {q : Option Addr} (h : EmpN G w q) : Emp w q := by
  obtain ⟨p, bw, S, h1, _, _, h2, h3⟩ := h
  exact ⟨p, bw, S, h1, h2, h3⟩
theorem copy_texts {w0 w w' : World} {A : Option Addr} {n c : Nat} {vs : List ByteArray} (own : OwnL SL w w0.heap.size 9 (some ⟨w0.heap.size, 0, none⟩) 0 0 []) (hz : w0.heap.size ≤ w.heap.size) (hv : SIn w A n vs) :
    ∃ A' c' w2, (Builtin.append_ #[23, 23] 23 #[.slice (some ⟨w0.heap.size, 0, none⟩) 0 0, .slice A n c]).run Tryz.prog w = .ok (.slice A' n c') w2 ∧ OwnL SL w2 w0.heap.size 9 A' n c' vs ∧ Ext [w0.heap.size] w w2 := by
  obtain ⟨A', c', w2, hr, ho, he, _⟩ := OwnL.many (P := Tryz.prog) (ty := 23) (t := 23) (cy := c) uS iS rfl (by omega) own hv.c hv.len hz (by have := hv.big; omega)
  rw [Nat.zero_add] at hr ho
  exact ⟨A', c', w2, hr, by simpa using ho, he⟩
set_option maxRecDepth 8000 in
set_option maxHeartbeats 1000000 in
theorem pnone_c {W w : World} {gb : Nat} {s : Nat → Sd} (h : PairAt W w gb s) {o : POp} (ho : o.In w) (hn : (s (sideOf o.x)).nl = true) {R : Ending → World → Prop}
    (k : ∀ w', Ext [] w w' → R (.returned (.bool true)) w') : Calls Tryz.prog 49 #[.pointer (some ⟨gb, 0, none⟩), opVal o] w R := by
  apply berthlaw07_Pair_none_nf
  intro w9 h9
  obtain ⟨b9, x9, z9⟩ := op_new h9
  refine ⟨_, cadd b9 rfl, ?_⟩
  simp only [side_wrap]
  have ha := sideOf_lt o.x
  generalize sideOf o.x = a at ha hn
  have wa : (0 : Int) ≤ ((a : Nat) : Int) ∧ ((a : Nat) : Int) < 2 := by omega
  have hu := h.sd a ha
  have hp : (s a).p = none := by
    rcases hu.nil with ⟨_, h1, _⟩ | ⟨h1, _⟩
    · exact h1
    · rw [hn] at h1; cases h1
  have hv : PxV w none (s a).x := hp ▸ hu.v
  refine ptr_in (when_dec wa ⟨_, ((h.ext0 x9).rd ha (Ext.refl [] _) (by simp)).1, ?_⟩)
  rw [hp]
  have d9 : Ext [] w9 w9.drew.drew := (Ext.refl _ _).drew.drew
  refine ⟨fun A l c w' => ∃ b q0 q1 q2 q3, A = some ⟨b, 0, none⟩ ∧ l = 4 ∧ Ext [] w9 w' ∧ BlkT w' b [.pointer q0, .pointer q1, .pointer q2, .pointer q3] 64 ∧ Emp w' q0 ∧ Emp w' q1 ∧ Emp w' q2 ∧ Emp w' q3, ?_, ?_⟩
  · have bd := b9.ext0 d9
    have vd := (hv.ext0 x9).ext0 d9
    have hvs := (ho.vs.ext0 x9).ext0 d9
    have hbig := ho.vs.big
    generalize w9.drew.drew = w10 at d9 bd vd hvs ⊢
    have tl : ∀ {w0 wX : World} {q0 q1 : Option Addr}, Ext [] w10 w0 → w9.heap.size < w0.heap.size + 1 → OwnL SL wX w0.heap.size 9 (some ⟨w0.heap.size, 0, none⟩) 0 0 [] → Ext [] w0 wX → EmpN w0.heap.size wX q0 → EmpN w0.heap.size wX q1 →
        ∃ A41 A41l A41c w42, (Builtin.append_ #[23, 23] 23 #[.slice (some ⟨w0.heap.size, 0, none⟩) 0 0, .slice o.B o.m2 o.c2]).run Tryz.prog wX = .ok (.slice A41 A41l A41c) w42 ∧ Ext [] w10 w42 ∧
          Calls Tryz.prog 41 #[.pointer none, .string o.key, .slice A41 A41l A41c] w42 fun e44 w45 => ∃ p43, e44 = Ending.returned (.pointer p43) ∧ Ext [] w10 w45 ∧
            Calls Tryz.prog 42 #[.pointer none, .string o.key] w45 fun e47 w48 => ∃ p46, e47 = Ending.returned (.pointer p46) ∧ Ext [] w10 w48 ∧
              ∀ w49, w49 = w48.alloc (.cells #[.pointer q0, .pointer q1, .pointer p43, .pointer p46] 64) → Ext [] w10 w49 ∧
                ∃ b q0 q1 q2 q3, (some ⟨w48.heap.size, 0, none⟩ : Option Addr) = some ⟨b, 0, none⟩ ∧ 4 = 4 ∧ Ext [] w9 w49 ∧ BlkT w49 b [.pointer q0, .pointer q1, .pointer q2, .pointer q3] 64 ∧ Emp w49 q0 ∧ Emp w49 q1 ∧ Emp w49 q2 ∧ Emp w49 q3 := by
      intro w0 wX q0 q1 e0 hz own eX m0 m1
      have E := e0.trans eX
      obtain ⟨A', c', w42, hr42, own42, e42⟩ := copy_texts (w' := wX) (c := o.c2) own eX.size (hvs.ext0 E)
      have E42 : Ext [] w10 w42 := E.trans' e42 (fun b hb => by simp at hb; have := e0.size; exact .inr (by omega))
      refine ⟨_, _, _, w42, hr42, E42, In_e (vd.ext0 E42) _ own42 (by omega) fun w45 q2 e45 m2 => ⟨_, rfl, E42.trans e45, Has_e ((vd.ext0 E42).ext0 e45) _ fun w48 q3 e48 m3 => ⟨_, rfl, (E42.trans e45).trans e48, fun w49 h49 => ?_⟩⟩⟩
      obtain ⟨b49, x49, z49⟩ := box_new (cs := [.pointer q0, .pointer q1, .pointer q2, .pointer q3]) h49
      have E48 := (E42.trans e45).trans e48
      have hlt : 0 < w42.heap.size := by have := e42.size; have := own.base w0.heap.size (by simp [ownF]); omega
      exact ⟨E48.trans x49, _, q0, q1, q2, q3, rfl, rfl, (d9.trans E48).trans x49, b49, (m0.ext e42).ext0 ((e45.trans e48).trans x49), (m1.ext e42).ext0 ((e45.trans e48).trans x49), (m2 0 hlt).emp.ext0 (e48.trans x49), (m3 0 (by have := e45.size; omega)).emp.ext0 x49⟩
    refine ⟨fun w' => Ext [] w10 w', Ext.refl _ _, _, fun w' e => cadd (bd.ext0 e) rfl, _, fun w' e => cadd (bd.ext0 e) rfl, _, fun w' e => cadd (bd.ext0 e) rfl, _, _, _, fun w' e => cadd (bd.ext0 e) rfl, _, fun w' e => cadd (bd.ext0 e) rfl, ?_, ?_, trivial⟩
    · refine Live_e vd fun w23 q0 e23 m0 => ⟨_, rfl, e23, ?_, ?_, trivial⟩
      · refine With_e (vd.ext0 e23) _ _ fun w26 q1 e26 m1 => ⟨_, rfl, e23.trans e26, fun w27 h27 => ?_⟩
        obtain ⟨own27, x27, z27⟩ := own_empty h27
        have E26 := e23.trans e26
        have z26 := e26.size
        have z23 := e23.size
        have hp0 : 0 < w10.heap.size := by have := bd.lt; omega
        exact ⟨E26.trans x27, tl E26 (by have := d9.size; omega) own27 x27 (((m0 0 hp0).emp.new (G := w26.heap.size) (by omega)).ext0 (e26.trans x27)) (((m1 0 (by omega)).emp.new (G := w26.heap.size) (Nat.le_refl _)).ext0 x27)⟩
      · intro w37 h37
        obtain ⟨own37, x37, z37⟩ := own_empty h37
        have E37 := e23.trans x37
        have z23 := e23.size
        have hp0 : 0 < w10.heap.size := by have := bd.lt; omega
        exact ⟨E37, With_e (vd.ext0 E37) _ _ fun w40 q1 e40 m1 => ⟨_, rfl, E37.trans e40, tl e23 (by have := d9.size; omega) (OwnL.ext0 own37 e40) (x37.trans e40) (((m0 0 hp0).emp.new (G := w23.heap.size) (Nat.le_refl _)).ext0 (x37.trans e40)) (m1 _ (by omega))⟩⟩
    · intro w50 h50
      obtain ⟨own50, x50, z50⟩ := own_empty h50
      exact ⟨x50, Live_e (vd.ext0 x50) fun w53 q0 e53 m0 => ⟨_, rfl, x50.trans e53, With_e ((vd.ext0 x50).ext0 e53) _ _ fun w56 q1 e56 m1 => ⟨_, rfl, (x50.trans e53).trans e56, tl (Ext.refl _ _) (by have := d9.size; omega) ((OwnL.ext0 own50 e53).ext0 e56) ((x50.trans e53).trans e56) ((m0 _ (by omega)).ext0 e56) (m1 _ (by have := e53.size; omega))⟩⟩⟩
  · rintro A l c _ w68 ⟨b, q0, q1, q2, q3, rfl, rfl, e68, b68, m0, m1, m2, m3⟩
    refine ⟨fun t w' => ∃ i : Nat, t = i ∧ i ≤ 4 ∧ Ext [] w68 w', fun t _ => 4 - t.toNat, ⟨0, rfl, by omega, Ext.refl _ _⟩, ?_⟩
    rintro _ _ w73 ⟨i, rfl, hi, e73⟩
    refine sel_dec (fun hlt => ?_) (fun hge => ?_)
    · have hb73 := b68.ext0 e73
      have go : ∀ q, Emp w68 q → [(Value.pointer q0), .pointer q1, .pointer q2, .pointer q3][i]? = some (.pointer q) → ∃ p75, World.cell? w73 (Addr.add ⟨b, 0, none⟩ ((Int.toNat (i : Int)) * 1)) = some (Value.pointer p75) ∧
          Calls Tryz.prog 46 #[(Value.pointer p75)] w73 fun e77 w78 =>
          ∃ n76, e77 = Ending.returned (Value.int .i64 n76) ∧
          V.sel (n76 != 0)
          (R (Ending.returned (Value.bool false)) w78)
          ((∃ j : Nat, IntKind.wrap .i64 ((i : Int) + 1) = j ∧ j ≤ 4 ∧ Ext [] w68 w78) ∧ 4 - (IntKind.wrap .i64 ((i : Int) + 1)).toNat < 4 - ((i : Int)).toNat) := fun q hq hi2 => by
        refine ⟨q, by rw [Int.toNat_natCast, Nat.mul_one]; exact cadd hb73 hi2, (hq.ext0 e73).count ⟨_, rfl, sel_false rfl ?_⟩⟩
        rw [up64 i (by omega)]
        exact ⟨⟨i + 1, rfl, by omega, e73⟩, by simp only [Int.toNat_natCast]; omega⟩
      refine when_dec ⟨by omega, by omega⟩ (ptr_in ?_)
      rcases (by omega : i = 0 ∨ i = 1 ∨ i = 2 ∨ i = 3) with rfl | rfl | rfl | rfl
      · exact go q0 m0 rfl
      · exact go q1 m1 rfl
      · exact go q2 m2 rfl
      · exact go q3 m3 rfl
    · have E73 := e68.trans e73
      have b73 := b9.ext0 E73
      refine ⟨_, cadd b73 rfl, _, cadd b73 rfl, CountP_c ((hv.ext0 x9).ext0 E73) _ _ fun T oT hT _ => ⟨_, rfl, ?_⟩⟩
      have h0 : T.count = 0 := (count0 oT).2 fun i => by
        cases hm : T.mem i with
        | false => rfl
        | true => obtain ⟨l, h1, _⟩ := (hT i).1 hm; rw [nlab hv] at h1; cases h1
      rw [h0]
      exact k w73 (x9.trans E73)
end Go.Proofs.YtpipenkaaodlgaaGreatDoor
namespace Go.Proofs.YtpipenkaaodlgaaGreatDoor
open Go Go.V Go.B

theorem strict_eq {a b : List ByteArray} (ha : Strict a) (hb : Strict b) (h : ∀ k, k ∈ a ↔ k ∈ b) : a = b := by
  have nd : ∀ {l : List ByteArray}, Strict l → l.Nodup := fun hs => hs.imp fun h e => by rw [e] at h; exact List.lt_irrefl _ h
  have hp : a.Perm b := (List.perm_ext_iff_of_nodup (nd ha) (nd hb)).2 h
  exact List.Perm.eq_of_pairwise (le := fun a b : ByteArray => bs a < bs b) (fun a b _ _ h1 h2 => absurd (List.lt_trans h1 h2) (List.lt_irrefl _)) ha hb hp
theorem SdAt.mi {w : World} {u : Sd} (h : SdAt w u) {S : SetV} (hs : S.Ok) {p : DRow → Bool} {q : List Lab → Prop} (hm : ∀ i : Nat, S.mem i = true ↔ ∃ l, u.x.lab (i : Int) = some l ∧ q l) (hp : ∀ r ∈ u.d.rows, p r = true ↔ q r.l) : S.mi = slotsP u.d.rows p :=
  same_slots hs h.ok.ris (fun r hr => by obtain ⟨j, h1, _⟩ := h.ok.in_ r hr; exact ⟨j, h1⟩) fun i => by
    rw [hm, h.lab]
    constructor
    · rintro ⟨l, h1, h2⟩
      obtain ⟨r, hr, e1, e2⟩ := (labD_some h.ok.ris).1 h1
      exact ⟨r, hr, (hp r hr).2 (by rw [e2]; exact h2), e1⟩
    · rintro ⟨r, hr, hpr, e1⟩
      exact ⟨r.l, (labD_some h.ok.ris).2 ⟨r, hr, e1, rfl⟩, (hp r hr).1 hpr⟩
theorem inP_iff {r : DRow} (h : OkL r.l) {key : ByteArray} {vs : List ByteArray} : inP key vs r = true ↔ ∃ v ∈ vs, (key, v) ∈ r.l := by
  unfold inP
  rw [Bool.and_eq_true, hitP_iff]
  constructor
  · rintro ⟨h1, h2⟩
    exact ⟨_, h2, (getS_val h).1 ⟨h1, rfl⟩⟩
  · rintro ⟨v, h1, h2⟩
    obtain ⟨h3, h4⟩ := (getS_val h).2 h2
    exact ⟨h3, by rw [h4]; exact h1⟩
theorem sets_eq (S : SetV) {ys : List Int} (h : S.mi = ys) : S.count = ys.length := by rw [← h, mi_length]
set_option maxRecDepth 8000 in
set_option maxHeartbeats 2000000 in
theorem asking_c {W w : World} {gb : Nat} {s : Nat → Sd} (h : PairAt W w gb s) {o : POp} (ho : o.In w) {R : Ending → World → Prop}
    (k : ∀ w', Ext [] w w' → R (.returned (.bool true)) w') : Calls Tryz.prog 50 #[.pointer (some ⟨gb, 0, none⟩), opVal o] w R := by
  apply berthlaw07_Pair_asking_nf
  intro w9 h9
  obtain ⟨b9, x9, z9⟩ := op_new h9
  have ha := sideOf_lt o.x
  generalize hsa : sideOf o.x = a at ha
  have wa : (0 : Int) ≤ ((a : Nat) : Int) ∧ ((a : Nat) : Int) < 2 := by omega
  have d9 : Ext [] w9 w9.drew := (Ext.refl _ _).drew
  have zd9 : w9.drew.heap.size = w9.heap.size := rfl
  have bd := b9.ext0 d9
  have Ed := x9.trans d9
  generalize w9.drew = w10 at d9 bd Ed zd9 ⊢
  have h10 := h.ext0 Ed
  have hrd : ∀ {w' : World}, Ext [] w10 w' → _ := fun {w'} e => h10.rd ha e (G := []) (by simp)
  refine ⟨fun w' => Ext [] w10 w', Ext.refl _ _, _, fun w' e => cadd (bd.ext0 e) rfl, ?_⟩
  simp only [side_wrap, hsa]
  refine ptr_in (when_dec wa ⟨_, fun w' e => (hrd e).1, _, fun w' e => cadd (bd.ext0 e) rfl, ?_⟩)
  simp only [side_wrap, hsa]
  refine ptr_in (when_dec wa ⟨_, _, _, _, fun i v hv w' e => (hrd e).2.1 i v hv, fun w19 h19 => ?_⟩)
  obtain ⟨b19, x19, z19⟩ := box_new (cs := [.int .i64 0, .slice none 0 0]) h19
  obtain ⟨w20, hr20, b20, x20⟩ := doc_store b19 rfl ((s a).d.N : Int) (s a).d.A (s a).d.l (s a).d.c
  refine ⟨x19, w20, hr20, ?_⟩
  have E20 : Ext [] w10 w20 := x19.trans' x20 (fun b hb => by simp at hb; subst hb; exact .inr (Nat.le_refl _))
  have h20 := h10.ext0 E20
  have b20o := bd.ext0 E20
  have ho20 := (ho.ext0 Ed).ext0 E20
  have EW := Ed.trans E20
  have hlo : w.heap.size < w10.heap.size := bd.lt
  generalize hbq : w10.heap.size = bq at b20 hlo ⊢
  have hu := h20.sd a ha
  have dr : Ext [] w20 w20.drew := (Ext.refl _ _).drew
  have b20d := b20o.ext0 dr
  have q20d := b20.ext0 dr
  have hud := hu.ext0 dr
  have hod := ho20.ext0 dr
  have h20d := h20.ext0 dr
  have EWd := EW.trans dr
  have Nn := hu.N
  refine ⟨_, cadd b20o rfl, ?_⟩
  refine sel_intro (fun _ => ?_) (fun _ => sel_intro (fun _ => ?_) (fun _ => sel_intro (fun _ => ?_) (fun _ => sel_intro (fun _ => ?_) (fun _ => sel_intro (fun _ => ?_) (fun _ => sel_intro (fun _ => ?_) (fun _ => sel_intro (fun _ => ?_) (fun _ => ?_)))))))
  · -- Live
    generalize w20.drew = w21 at b20d q20d hud hod h20d EWd ⊢
    refine ⟨fun w' => Ext [] w21 w', Ext.refl _ _, _, fun w' e => cadd (q20d.ext0 e) rfl, _, _, _, _, cellsC_all (fun w' e => q20d.ext0 e), ?_⟩
    refine Live_c hud.v fun p bw w29 S e29 _ _ hs hN hm => ⟨_, rfl, e29, DLive_c (hud.ext0 e29).doc hu.ok fun w32 A n c e32 hA hn => ⟨_, _, _, rfl, e29.trans e32, is_c (hs.ext0 e32) hA hn (by rw [hN, Nn]) (hu.mi hs.ok (q := fun _ => True) (fun i => by rw [hm]; cases hx : (s a).x.lab (i : Int) <;> simp) (fun r hr => by simp)) fun w35 e35 => ⟨_, rfl, (e29.trans e32).trans e35, k _ (EWd.trans ((e29.trans e32).trans e35))⟩⟩⟩
  · -- Of
    refine ⟨_, cadd b20o rfl, Of_c hu.v o.n fun A n c w40 e40 own => ⟨_, _, _, _, rfl, _, _, _, _, fun i v hv => cadd0 (b20.ext0 e40) i v hv, _, cadd (b20o.ext0 e40) rfl, DOf_c (hu.ext0 e40).doc hu.ok o.n fun w47 A' n' c' e47 hA hn => ⟨_, _, _, _, rfl, ?_⟩⟩⟩
    have el : (s a).x.lab o.n = labD (s a).d.rows o.n := by rw [hu.lab]
    rw [el] at own ⊢
    have h2 : ((labD (s a).d.rows o.n).getD []).length ≤ 32 := by
      cases hx : labD (s a).d.rows o.n with
      | none => simp
      | some l =>
        obtain ⟨r, hr, _, e2⟩ := (labD_some hu.ok.ris).1 hx
        rw [Option.getD_some, ← e2]
        exact (hu.ok.lab r hr).len
    have hb : n < 4611686018427387904 := by have h1 := own.len; omega
    refine sel_true (by simp) (SameLabels_c (own.cells.ext0 e47) own.len hA hn hb fun w50 e50 => ⟨_, rfl, ?_⟩)
    rw [decide_eq_true rfl]
    exact k _ (((EW.trans e40).trans e47).trans e50)
  · -- With
    refine ⟨_, _, _, _, fun i v hv => cadd0 b20 i v hv, _, cadd b20o rfl, _, cadd b20o rfl, fun w55 h55 => ?_⟩
    obtain ⟨b55, x55, z55⟩ := box_new (cs := [.string o.value]) h55
    refine DIn_c (hu.ext0 x55).doc hu.ok o.key (vs := [o.value]) (m := 1) (Cells.of_blk b55.blk) rfl (by omega) fun w58 A n c e58 hA hn => ⟨_, _, _, rfl, ?_⟩
    have E58 := x55.trans e58
    have d58 : Ext [] w58 w58.drew := (Ext.refl _ _).drew
    have bo := (b20o.ext0 E58).ext0 d58
    have bq' := (b20.ext0 E58).ext0 d58
    have hu' := (hu.ext0 E58).ext0 d58
    have hA' := hA.ext0 d58
    have EE := (EW.trans E58).trans d58
    generalize w58.drew = w59 at d58 bo bq' hu' hA' EE ⊢
    have hp : ∀ r ∈ (s a).d.rows, inP o.key [o.value] r = true ↔ (o.key, o.value) ∈ r.l := fun r hr => by rw [inP_iff (hu.ok.lab r hr)]; simp
    refine ⟨fun w' => Ext [] w59 w', Ext.refl _ _, _, fun w' e => cadd (bo.ext0 e) rfl, _, fun w' e => cadd (bo.ext0 e) rfl, _, fun w' e => cadd (bq'.ext0 e) rfl, ?_⟩
    refine With_c hu'.v o.key o.value fun p bw w66 S e66 _ _ hs hN hm => ⟨_, rfl, e66, is_c hs (hA'.ext0 e66) hn (by rw [hN, Nn]) (hu.mi hs.ok hm hp) fun w69 e69 => ⟨_, rfl, e66.trans e69, sel_true rfl ?_⟩⟩
    have E69 := e66.trans e69
    refine ⟨_, fun w' e => cadd (bo.ext0 e) rfl, _, fun w' e => cadd (bo.ext0 e) rfl, CountP_c (hu'.ext0 E69).v o.key o.value fun T oT hT _ => ⟨_, rfl, E69, ?_⟩⟩
    rw [sets_eq T (hu.mi oT hT hp), hn, show (((n : Nat) : Int) == ((n : Nat) : Int)) = true by simp]
    exact k _ (EE.trans E69)
  · -- In
    generalize w20.drew = w21 at b20d q20d hud hod h20d EWd ⊢
    refine ⟨fun w' => Ext [] w21 w', Ext.refl _ _, _, fun w' e => cadd (b20d.ext0 e) rfl, _, _, _, fun w' e => cadd (b20d.ext0 e) rfl, _, fun w' e => cadd (q20d.ext0 e) rfl, _, _, _, _, cellsC_all (fun w' e => q20d.ext0 e), _, fun w' e => cadd (b20d.ext0 e) rfl, _, _, _, fun w' e => cadd (b20d.ext0 e) rfl, fun w84 h84 => ?_⟩
    obtain ⟨own84, x84, z84⟩ := own_empty h84
    obtain ⟨A', c', w86, hr86, own86, e86⟩ := copy_texts (w' := w84) (c := o.c2) own84 x84.size (hod.vs.ext0 x84)
    have E86 : Ext [] w21 w86 := x84.trans' e86 (fun b hb => by simp at hb; exact .inr (by omega))
    have hb2 : o.m2 < 4611686018427387904 := by have := ho.vs.big; omega
    refine ⟨x84, _, _, _, w86, hr86, E86, In_c (hud.ext0 E86).v o.key (vs := o.vs) (fun j u hj => ?_) own86.len hb2 (fun b hb => (own86.base b hb).2) fun p bw w89 S e89 _ _ hs hN hm => ⟨_, rfl, E86.trans e89, DIn_c ((hud.ext0 E86).ext0 e89).doc hu.ok o.key ((hod.vs.ext0 E86).ext0 e89).c ho.vs.len hb2 fun w92 A n c e92 hA hn => ⟨_, _, _, rfl, (E86.trans e89).trans e92, is_c (hs.ext0 e92) hA hn (by rw [hN, Nn]) (hu.mi hs.ok hm (fun r hr => inP_iff (hu.ok.lab r hr))) fun w95 e95 => ⟨_, rfl, ((E86.trans e89).trans e92).trans e95, k _ (EWd.trans (((E86.trans e89).trans e92).trans e95))⟩⟩⟩⟩
    have hjl := (List.getElem?_eq_some_iff.1 hj).1
    obtain ⟨u', ad', h1, h2, h3⟩ := text_at own86.cells own86.len (a := j) (by have := own86.len; omega)
    rw [hj] at h1
    cases h1
    exact ⟨ad', h2, by rw [Int.toNat_natCast, Nat.mul_one] at h3; exact h3⟩
  · -- Has
    generalize w20.drew = w21 at b20d q20d hud hod h20d EWd ⊢
    refine ⟨fun w' => Ext [] w21 w', Ext.refl _ _, _, fun w' e => cadd (b20d.ext0 e) rfl, _, fun w' e => cadd (q20d.ext0 e) rfl, _, _, _, _, cellsC_all (fun w' e => q20d.ext0 e), _, fun w' e => cadd (b20d.ext0 e) rfl, ?_⟩
    refine HasP_c hud.v o.key fun p bw w105 S e105 _ _ hs hN hm => ⟨_, rfl, e105, DHas_c (hud.ext0 e105).doc hu.ok o.key fun w108 A n c e108 hA hn => ⟨_, _, _, rfl, e105.trans e108, is_c (hs.ext0 e108) hA hn (by rw [hN, Nn]) (hu.mi hs.ok hm (fun r hr => getS_iff' (hu.ok.lab r hr) o.key)) fun w111 e111 => ⟨_, rfl, (e105.trans e108).trans e111, k _ (EWd.trans ((e105.trans e108).trans e111))⟩⟩⟩
  · -- Keys
    generalize w20.drew = w21 at b20d q20d hud hod h20d EWd ⊢
    refine ⟨fun w' => Ext [] w21 w', Ext.refl _ _, _, _, _, _, cellsC_all (fun w' e => q20d.ext0 e), ?_⟩
    refine Keys_c hud.v fun A n c xs w118 e118 own kp hn => ⟨_, _, _, rfl, e118, DKeys_c (hud.ext0 e118).doc hu.ok fun w121 A' n' c' ys e121 hA hn' hst hmem _ => ⟨_, _, _, rfl, e118.trans e121, SameTexts_c (own.cells.ext0 e121) own.len hA hn' (by omega) fun w124 e124 => ⟨_, rfl, (e118.trans e121).trans e124, ?_⟩⟩⟩
    have e : xs = ys := strict_eq kp.strict hst fun v => by
      rw [kp.mem, hmem, hu.lab]
      constructor
      · rintro ⟨i, l, u, h1, h2⟩
        obtain ⟨r, hr, e1, e2⟩ := (labD_some hu.ok.ris).1 h1
        exact ⟨r, hr, by rw [e2]; exact List.mem_map.2 ⟨_, h2, rfl⟩⟩
      · rintro ⟨r, hr, h2⟩
        obtain ⟨⟨v', u⟩, h3, h4⟩ := List.mem_map.1 h2
        cases h4
        exact ⟨r.s, r.l, u, (labD_some hu.ok.ris).2 ⟨r, hr, rfl, rfl⟩, h3⟩
    rw [decide_eq_true e]
    exact k _ (EWd.trans ((e118.trans e121).trans e124))
  · -- Values
    generalize w20.drew = w21 at b20d q20d hud hod h20d EWd ⊢
    refine ⟨fun w' => Ext [] w21 w', Ext.refl _ _, _, fun w' e => cadd (b20d.ext0 e) rfl, _, _, _, _, cellsC_all (fun w' e => q20d.ext0 e), _, fun w' e => cadd (b20d.ext0 e) rfl, ?_⟩
    refine Values_c hud.v o.key fun A n c xs w133 e133 own vp hn => ⟨_, _, _, rfl, e133, DValues_c (hud.ext0 e133).doc hu.ok o.key fun w136 A' n' c' ys e136 hA hn' hst hmem _ => ⟨_, _, _, rfl, e133.trans e136, SameTexts_c (own.cells.ext0 e136) own.len hA hn' (by omega) fun w139 e139 => ⟨_, rfl, (e133.trans e136).trans e139, ?_⟩⟩⟩
    have e : xs = ys := strict_eq vp.strict hst fun v => by
      rw [vp.mem, hmem, hu.lab]
      constructor
      · rintro ⟨i, l, h1, h2⟩
        obtain ⟨r, hr, e1, e2⟩ := (labD_some hu.ok.ris).1 h1
        exact ⟨r, hr, by rw [e2]; exact h2⟩
      · rintro ⟨r, hr, h2⟩
        exact ⟨r.s, r.l, (labD_some hu.ok.ris).2 ⟨r, hr, rfl, rfl⟩, h2⟩
    rw [decide_eq_true e]
    exact k _ (EWd.trans ((e133.trans e136).trans e139))
  · -- Same
    generalize w20.drew = w21 at b20d q20d hud hod h20d EWd ⊢
    have hu0 := h20d.sd 0 (by omega)
    have hu1 := h20d.sd 1 (by omega)
    have hrd' : ∀ {w' : World} (i : Nat), i < 2 → Ext [] w21 w' → _ := fun {w'} i hi e => h20d.rd hi e (G := []) (by simp)
    refine ⟨fun w' => Ext [] w21 w', Ext.refl _ _, ptr_in ⟨_, _, _, _, fun i v hv w' e => (hrd' 0 (by omega) e).2.1 i v hv, ptr_in ⟨_, _, _, _, fun i v hv w' e => (hrd' 1 (by omega) e).2.1 i v hv, ?_⟩⟩⟩
    refine DSame_c hu0.doc hu0.ok hu1.doc hu1.ok fun w150 e150 => ⟨_, rfl, e150, ?_⟩
    have d150 : Ext [] w150 w150.drew := (Ext.refl _ _).drew
    have E := e150.trans d150
    generalize w150.drew = w151 at d150 E ⊢
    have hsame : (decide ((s 0).d.rows.map DRow.pr = (s 1).d.rows.map DRow.pr)) = true ↔ ∀ i, (s 0).x.lab i = (s 1).x.lab i := by
      rw [decide_eq_true_eq, rows_same hu0.ok.ris hu1.ok.ris, hu0.lab, hu1.lab, funext_iff]
    generalize decide ((s 0).d.rows.map DRow.pr = (s 1).d.rows.map DRow.pr) = b at hsame ⊢
    refine ⟨fun w' => Ext [] w151 w', Ext.refl _ _, ptr_in ⟨_, fun w' e => (hrd' 0 (by omega) (E.trans e)).1, ptr_in ⟨_, fun w' e => (hrd' 1 (by omega) (E.trans e)).1, ?_⟩⟩⟩
    refine Same_c (hu0.ext0 E).v (hu1.ext0 E).v fun t w159 e159 ht => ⟨_, rfl, e159, ?_⟩
    have et : t = b := Bool.eq_iff_iff.2 (ht.trans hsame.symm)
    refine sel_true (by rw [et]; simp) (ptr_in ⟨_, fun w' e => (hrd' 1 (by omega) (E.trans e)).1, ptr_in ⟨_, fun w' e => (hrd' 0 (by omega) (E.trans e)).1, ?_⟩⟩)
    refine Same_c ((hu1.ext0 E).ext0 e159).v ((hu0.ext0 E).ext0 e159).v fun t' w166 e166 ht' => ⟨_, rfl, e159.trans e166, ?_⟩
    have et' : t' = b := Bool.eq_iff_iff.2 (ht'.trans (Iff.trans ⟨fun h i => (h i).symm, fun h i => (h i).symm⟩ hsame.symm))
    refine sel_true (by rw [et']; simp) ?_
    have hux := ((hud.ext0 E).ext0 e159).ext0 e166
    refine Same_c hux.v hux.v fun t2 w169 e169 ht2 => ⟨_, rfl, (e159.trans e166).trans e169, ?_⟩
    obtain rfl : t2 = true := ht2.2 fun i => rfl
    exact k _ (EWd.trans (E.trans ((e159.trans e166).trans e169)))
end Go.Proofs.YtpipenkaaodlgaaGreatDoor
namespace Go.Proofs.YtpipenkaaodlgaaGreatDoor
open Go Go.V Go.B

def newD (N : Nat) : PDoc := ⟨N, none, 0, 0, []⟩
theorem newD_blk {N b : Nat} : b ∉ dblk (newD N) := fun h => by
  rcases mem_dblk.1 h with h | ⟨r, hr, _⟩
  · simp [newD, ownF] at h
  · cases hr
def nilS : Sd := ⟨none, nilX, newD 0, true, []⟩
theorem nilS_at (w : World) : SdAt w nilS := ⟨nilX_v w, rfl, by funext i; rfl, newDoc_at w 0, newDoc_ok (by omega), .inl ⟨rfl, rfl, rfl⟩⟩
theorem newS_at {w : World} {F : List Nat} {x : Px} (h : PxAt w F x) (ok : PxOk x) {N : Nat} (hN : x.N = N) (hs : N ≤ 65536) (hl : ∀ i, x.lab i = none) : SdAt w ⟨some ⟨x.q, 0, none⟩, x, newD N, false, F⟩ :=
  ⟨⟨.inr ⟨F, rfl, h⟩, ok⟩, hN, by funext i; rw [hl]; rfl, newDoc_at w N, newDoc_ok hs, .inr ⟨rfl, rfl, h⟩⟩
set_option maxRecDepth 8000 in
set_option maxHeartbeats 2000000 in
theorem step_c {W w : World} {gb : Nat} {s : Nat → Sd} (h : PairAt W w gb s) {o : POp} (ho : o.In W) {R : Ending → World → Prop}
    (k : ∀ w' s', PairAt W w' gb s' → R (.returned (.bool true)) w') : Calls Tryz.prog 22 #[.pointer (some ⟨gb, 0, none⟩), opVal o] w R := by
  apply berthlaw07_Pair_step_nf
  intro w9 h9
  obtain ⟨b9, x9, z9⟩ := op_new h9
  have h9' := h.ext0 x9
  have hgl := h.blk.lt
  refine ⟨_, cadd b9 rfl, ?_⟩
  have ha := sideOf_lt o.x
  refine lt_eq (side_wrap o.x) ?_
  generalize hsa : sideOf o.x = a at ha
  have wa : (0 : Int) ≤ ((a : Nat) : Int) ∧ ((a : Nat) : Int) < 2 := by omega
  refine ⟨_, cadd b9 rfl, ?_⟩
  refine sel_intro (fun _ => ?_) (fun _ => ⟨_, cadd b9 rfl, sel_intro (fun _ => ?_) (fun _ => ?_)⟩)
  · -- New
    have tail : ∀ {w17 w23 : World} {p : Option Addr} {e N : Int} , Ext [] w9 w17 → Ext [] w17 w23 →
        (∀ w25, Ext [] w23 w25 → BlkT w25 w23.heap.size [.int .i64 N, .slice none 0 0] 37 → ((e == 0) = true ∧ ∃ t : Sd, t.p = p ∧ t.nl = false ∧ t.d = newD t.d.N ∧ ((t.d.N : Nat) : Int) = N ∧ (∀ b ∈ t.F, w.heap.size ≤ b ∧ b < w23.heap.size) ∧ SdAt w25 t) ∨ ((e == 0) = false ∧ p = none ∧ (e != 0) = true)) →
        ∀ w24, w24 = World.alloc w23 (.cells #[.int .i64 0, .slice none 0 0] 37) →
          ∃ w25, Sem.run Tryz.prog (Instr.storeAt 37 (.pointer (some ⟨w23.heap.size, 0, none⟩)) (.agg #[.int .i64 N, .slice none 0 0])) w24 = .ok () w25 ∧
          ∃ J26 : Bool → World → Prop, (∃ J27 : Bool → World → Prop, (Calls Tryz.prog 11 #[.int .i64 e] w25 fun e29 w30 => ∃ n28, e29 = Ending.returned (.int .i64 n28) ∧ V.sel (n28 != e) (J27 true w30) (J27 (!((Option.isNone p) == (e != 0))) w30)) ∧
            ∀ t39 (j32 : Nat → Value) (w33 : World), J27 t39 w33 → V.sel t39 (R (.returned (.bool false)) w33) (J26 false w33)) ∧
          ∀ t4 (j35 : Nat → Value) (w36 : World), J26 t4 w36 → V.sel (e == 0)
            (∃ S37 : World → Prop, S37 (World.drew w36) ∧
            ∃ n39, ∃ A40, ∃ A40l, ∃ A40c, V.cellsC (fun a_ x_ => ∀ w38, S37 w38 → World.cell? w38 a_ = some x_) ⟨w23.heap.size, 0, none⟩ [(Value.int .i64 n39), (Value.slice A40 A40l A40c)] ∧
            V.ptr (some ⟨gb, 0, none⟩) fun a41 => V.when (decide ((0 : Int) ≤ (a : Int) ∧ ((a : Int) : Int) < 2)) (V.ptr (some ⟨gb, 0, none⟩) fun a42 => V.ptr (some ⟨gb, 0, none⟩) fun a43 =>
            ∃ w44, Sem.run Tryz.prog (Instr.storeAt 27 (Value.pointer (some (Addr.add (Addr.add a41 0) ((Int.toNat (a : Int)) * 1)))) (Value.pointer p)) (World.drew w36) = .ok () w44 ∧ S37 w44 ∧
            V.when (decide ((0 : Int) ≤ (a : Int) ∧ ((a : Int) : Int) < 2)) (∃ w45, Sem.run Tryz.prog (Instr.storeAt 37 (Value.pointer (some (Addr.add (Addr.add a42 2) ((Int.toNat (a : Int)) * 2)))) (Value.agg #[(Value.int .i64 n39), (Value.slice A40 A40l A40c)])) w44 = .ok () w45 ∧ S37 w45 ∧
            V.when (decide ((0 : Int) ≤ (a : Int) ∧ ((a : Int) : Int) < 2)) (∃ w46, Sem.run Tryz.prog (Instr.storeAt 4 (Value.pointer (some (Addr.add (Addr.add a43 6) ((Int.toNat (a : Int)) * 1)))) (Value.bool false)) w45 = .ok () w46 ∧ S37 w46 ∧
            R (Ending.returned (Value.bool true)) w46))))
            (R (Ending.returned (Value.bool true)) w36) := by
      intro w17 w23 p e N e17 e23 hc w24 h24
      obtain ⟨b24, x24, z24⟩ := doc_box h24
      obtain ⟨w25, hr25, b25, x25⟩ := doc_store b24 rfl N none 0 0
      have e25 : Ext [] w23 w25 := x24.trans' x25 (fun b hb => by simp at hb; subst hb; exact .inr (Nat.le_refl _))
      have E25 := ((x9.trans e17).trans e23).trans e25
      have hz : w.heap.size < w23.heap.size := by have := e17.size; have := e23.size; have := b9.lt; omega
      refine ⟨w25, hr25, ?_⟩
      rcases hc w25 e25 b25 with ⟨h0, t, tp, tn, td, tN, tF, ts⟩ | ⟨h0, hp, hne⟩
      · have hpn : Option.isNone p = false := by
          rcases ts.nil with ⟨h1, _⟩ | ⟨_, h2, _⟩
          · rw [tn] at h1; cases h1
          · rw [← tp, h2]; rfl
        have he : (e != 0) = false := by simp at h0 ⊢; exact h0
        refine ⟨fun t w' => t = false ∧ w' = w25, ⟨fun t w' => t = false ∧ w' = w25, num_c _ ⟨_, rfl, sel_false (by simp) ⟨by rw [hpn, he]; rfl, rfl⟩⟩, ?_⟩, ?_⟩
        · rintro _ _ _ ⟨rfl, rfl⟩
          exact sel_false rfl ⟨rfl, rfl⟩
        · rintro _ _ w36 ⟨rfl, e36⟩
          rw [e36]
          refine sel_true h0 ?_
          have d25 : Ext [] w25 w25.drew := (Ext.refl _ _).drew
          have bq := b25.ext0 d25
          have gbk := (h.blk.ext0 E25).ext0 d25
          have ts' := ts.ext0 d25
          have E26 := E25.trans d25
          generalize w25.drew = w26 at d25 bq gbk ts' E26 ⊢
          obtain ⟨w44, r44, x44, w45, r45, x45, w46, r46, x46, b46⟩ := set_all gbk ha t
          rw [tp] at r44
          have tdA : t.d.A = none ∧ t.d.l = 0 ∧ t.d.c = 0 := by rw [td]; exact ⟨rfl, rfl, rfl⟩
          rw [tdA.1, tdA.2.1, tdA.2.2, tN] at r45
          rw [tn] at r46
          have hgF : gb ∉ t.F := fun hm => by have := tF gb hm; omega
          refine ⟨fun w' => Ext [gb] w26 w', Ext.refl _ _, _, _, _, _, cellsC_all (fun w' e' => bq.ext e' (by simp; omega)), ptr_in (when_dec wa (ptr_in (ptr_in ⟨w44, r44, x44, when_dec wa ⟨w45, r45, x45, when_dec wa ⟨w46, r46, x46, k w46 (updS s a t) (h.upd ha (E26.up.trans' x46 (fun b hb => by simp at hb; subst hb; exact .inl (by simp))) b46 (ts'.ext x46 (fun b hb hm => by simp at hm; subst hm; exact hgF hb) (fun b hb => by rw [td] at hb; exact absurd hb newD_blk)) (fun b hb => .inr (tF b hb).1) (fun b hb => by rw [td] at hb; exact absurd hb newD_blk) (fun b hb hm => by rw [td] at hm; exact absurd hm newD_blk))⟩⟩⟩)))⟩
      · refine ⟨fun t w' => t = false ∧ w' = w25, ⟨fun t w' => t = false ∧ w' = w25, num_c _ ⟨_, rfl, sel_false (by simp) ⟨by rw [hp, hne]; rfl, rfl⟩⟩, ?_⟩, ?_⟩
        · rintro _ _ _ ⟨rfl, rfl⟩
          exact sel_false rfl ⟨rfl, rfl⟩
        · rintro _ _ w36 ⟨rfl, e36⟩
          rw [e36]
          exact sel_false h0 (k _ s (h.ext0 E25))
    refine ⟨_, cadd b9 rfl, ?_⟩
    rcases Decidable.em (o.n < 0 ∨ 65536 < o.n) with hn | hn
    · refine New_no hn ⟨_, _, rfl, _, cadd b9 rfl, DNew_no hn fun w23 e23 => ⟨_, _, _, _, _, rfl, ?_⟩⟩
      exact tail (Ext.refl _ _) e23 fun w25 e25 b25 => .inr ⟨by decide, rfl, by decide⟩
    · obtain ⟨N, hN⟩ : ∃ N : Nat, o.n = (N : Int) := ⟨o.n.toNat, by omega⟩
      rw [hN]
      have hNs : N ≤ 65536 := by omega
      refine New_c hNs fun w17 F x e17 hF hx okx hxN hxl => ⟨_, _, rfl, _, by rw [← hN]; exact cadd (b9.ext0 e17) rfl, DNew_ok hNs fun w23 e23 => ⟨_, _, _, _, _, rfl, ?_⟩⟩
      refine tail e17 e23 fun w25 e25 b25 => .inl ⟨by decide, ⟨some ⟨x.q, 0, none⟩, x, newD N, false, F⟩, rfl, rfl, rfl, rfl, fun b hb => ⟨by have := hF b hb; have := b9.lt; omega, by have := hx.lt b hb; have := e23.size; omega⟩, newS_at ((hx.ext0 e23).ext0 e25) okx hxN hNs hxl⟩
  · -- Nil
    have d9 : Ext [] w9 w9.drew := (Ext.refl _ _).drew
    have gbk := h9'.blk.ext0 d9
    have E := x9.trans d9
    generalize w9.drew = w10 at d9 gbk E ⊢
    obtain ⟨w44, r44, x44, w45, r45, x45, w46, r46, x46, b46⟩ := set_all gbk ha nilS
    refine ⟨fun w' => Ext [gb] w10 w', Ext.refl _ _, ptr_in (when_dec wa (ptr_in (ptr_in ⟨w44, r44, x44, when_dec wa ⟨w45, r45, x45, when_dec wa ⟨w46, r46, x46, k w46 (updS s a nilS) (h.upd ha (E.up.trans' x46 (fun b hb => by simp at hb; subst hb; exact .inl (by simp))) b46 (nilS_at _) (fun b hb => by cases hb) (fun b hb => absurd hb newD_blk) (fun b hb => by cases hb))⟩⟩⟩)))⟩
  · -- the others
    have cells9 : V.cellsC (fun a_ x_ => World.cell? w9 a_ = some x_) ⟨w.heap.size, 0, none⟩ o.cells := cadd0 b9
    refine ⟨fun t w' => w' = w9, ⟨_, cadd b9 rfl, sel_intro (fun _ => ⟨_, cadd b9 rfl, rfl⟩) (fun _ => rfl)⟩, ?_⟩
    rintro t _ w61 e61
    rw [e61]
    cases t with
    | true => exact sel_true rfl ⟨_, _, _, _, _, _, _, _, _, _, _, cells9, changing_c h9' ho fun w' s' h' => ⟨_, rfl, k w' s' h'⟩⟩
    | false =>
      refine sel_false rfl ⟨fun t w' => w' = w9, ⟨_, cadd b9 rfl, sel_intro (fun _ => ⟨_, cadd b9 rfl, rfl⟩) (fun _ => rfl)⟩, ?_⟩
      rintro t _ w77 e77
      rw [e77]
      cases t with
      | false => exact sel_false rfl (k _ s h9')
      | true =>
        refine sel_true rfl ⟨fun t w' => w' = w9 ∧ (t = true → (s a).nl = true), ptr_in (when_dec wa ⟨_, (h9'.rd ha (Ext.refl [] _) (by simp)).2.2, sel_intro (fun hn => ⟨_, cadd b9 rfl, sel_intro (fun _ => ⟨_, cadd b9 rfl, sel_intro (fun _ => ⟨_, cadd b9 rfl, sel_intro (fun _ => ⟨_, cadd b9 rfl, rfl, fun _ => hn⟩) (fun _ => ⟨rfl, fun h => by cases h⟩)⟩) (fun _ => ⟨rfl, fun h => by cases h⟩)⟩) (fun _ => ⟨rfl, fun h => by cases h⟩)⟩) (fun _ => ⟨rfl, fun h => by cases h⟩)⟩), ?_⟩
        rintro t _ w87 ⟨e87, hn⟩
        rw [e87]
        have ho9 := ho.ext0 h9'.ex
        cases t with
        | true => exact sel_true rfl ⟨_, _, _, _, _, _, _, _, _, _, _, cells9, pnone_c h9' ho9 (by rw [hsa]; exact hn rfl) fun w' e => ⟨_, rfl, k w' s (h9'.ext0 e)⟩⟩
        | false => exact sel_false rfl ⟨_, _, _, _, _, _, _, _, _, _, _, cells9, asking_c h9' ho9 fun w' e => ⟨_, rfl, k w' s (h9'.ext0 e)⟩⟩
end Go.Proofs.YtpipenkaaodlgaaGreatDoor
namespace Go.Proofs.YtpipenkaaodlgaaGreatDoor
open Go Go.V Go.B

theorem postingPlays_c {w : World} {A : Option Addr} {n c : Nat} {ops : List POp} (ho : OpsAt w A n ops) {R : Ending → World → Prop} (k : ∀ w', Ext [] w w' → R (.returned (.bool true)) w') :
    Calls Tryz.prog 4 #[.slice A n c] w R := by
  apply berthlaw07_PostingPlays_nf
  refine awake_c fun w4 e4 => ⟨_, rfl, sel_false rfl fun w5 h5 => ?_⟩
  obtain ⟨b5, x5, z5⟩ := box_new (cs := pcells fun _ => nilS) h5
  have E5 := e4.trans x5
  have hsz := ho.sz
  have hp : PairAt w w5 w4.heap.size (fun _ => nilS) := ⟨E5, e4.size, b5, fun i _ => nilS_at w5, fun i _ b hb => (by cases hb), fun i _ => ⟨fun hb => (by cases hb), newD_blk⟩, fun i j _ _ _ b hb => (by cases hb), fun i j _ _ b hb => (by cases hb), fun i _ b hb => absurd hb newD_blk⟩
  refine ⟨fun t w' => ∃ a : Nat, t = a ∧ a ≤ n ∧ ∃ s, PairAt w w' w4.heap.size s, fun t _ => n - t.toNat, ⟨0, rfl, by omega, _, hp⟩, ?_⟩
  rintro _ _ w10 ⟨a, rfl, ha, s, h10⟩
  refine sel_dec (fun hlt => ?_) (fun hge => k w10 h10.ex)
  obtain ⟨o, ad, hoa, rfl, rd⟩ := (ho.ext0 h10.ex).read (a := a) (by omega)
  refine when_dec ⟨by omega, by omega⟩ (ptr_in ⟨_, _, _, _, _, _, _, _, _, _, _, rd, step_c h10 (ho.in_ o (List.mem_of_getElem? hoa)) fun w' s' h' => ⟨_, rfl, sel_false rfl ?_⟩⟩)
  rw [up64 a (by omega)]
  exact ⟨⟨a + 1, rfl, by omega, s', h'⟩, by simp only [Int.toNat_natCast]; omega⟩
end Go.Proofs.YtpipenkaaodlgaaGreatDoor
