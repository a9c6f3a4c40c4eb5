/- OrderedWalk: what stays while an index is changed in the midst of a walk. OrderedWalk: a row of the first walk, with changes in its midst. OrderedWalk: a row of the second walk, with a walk in its midst. OrderedWalk: the rounds, and the last walk. -/
import Derived.Test.YtjlkdadafddodaaE9
set_option linter.unusedVariables false
set_option linter.unusedSimpArgs false
namespace Go.Proofs.Ytjlkdadafddodaa
open Go Go.V Go.B

/-- The blocks of the world of four. -/
def foot (es : Nat → En) (g b : Nat) : Prop := b = g ∨ ∃ j, j < 4 ∧ (b ∈ (es j).F ∨ b ∈ ownF (es j).d.A)
theorem WAt.foot_lt {w : World} {base g cap : Nat} {es : Nat → En} (h : WAt w base g cap es) {b : Nat} (hb : foot es g b) : b < w.heap.size := by
  rcases hb with rfl | ⟨j, hj, hb | hb⟩
  · exact h.blk.lt
  · exact (h.en j hj).lt b hb
  · exact (h.en j hj).dlt b hb
theorem WAt.new {w : World} {base g cap : Nat} {es : Nat → En} (h : WAt w base g cap es) {b : Nat} (hb : w.heap.size ≤ b) : ¬ foot es g b := fun hf => by have := h.foot_lt hf; omega
theorem WAt.ext_foot {G : List Nat} {w w' : World} {base g cap : Nat} {es : Nat → En} (h : WAt w base g cap es) (x : Ext G w w') (hG : ∀ b ∈ G, ¬ foot es g b) : WAt w' base g cap es :=
  h.ext x (fun hm => hG _ hm (.inl rfl)) (fun i hi b hb hm => hG b hm (.inr ⟨i, hi, .inl hb⟩)) (fun i hi b hb hm => hG b hm (.inr ⟨i, hi, .inr hb⟩))
theorem WChg.foot {w w' : World} {base g cap : Nat} {es es' : Nat → En} {i : Nat} (hi : i < 4) (h : WChg w w' base g cap es es' i) {b : Nat} (hb : foot es' g b) : Go.Proofs.Ytjlkdadafddodaa.foot es g b ∨ w.heap.size ≤ b := by
  rcases hb with rfl | ⟨j, hj, hb⟩
  · exact .inl (.inl rfl)
  · by_cases e : j = i
    · subst e
      rcases hb with hb | hb
      · rcases h.grow b hb with h1 | h1
        · exact .inl (.inr ⟨j, hj, .inl h1⟩)
        · exact .inr h1
      · rcases h.growD b hb with h1 | h1
        · exact .inl (.inr ⟨j, hj, .inr h1⟩)
        · exact .inr h1
    · rw [h.oth j hj e] at hb
      exact .inl (.inr ⟨j, hj, hb⟩)
/-- All blocks of a world but some. -/
def Out (w0 : World) (L : List Nat) : List Nat := (List.range w0.heap.size).filter fun b => decide (b ∉ L)
theorem out_not {w0 : World} {L : List Nat} {b : Nat} (h : b ∈ L) : b ∉ Out w0 L := by
  unfold Out; simp; intro _; exact h
theorem Keep.then {w0 w1 w2 : World} {L G : List Nat} (k : Ext (Out w0 L) w0 w1) (x : Ext G w1 w2) (hG : ∀ b ∈ L, b ∉ G) : Ext (Out w0 L) w0 w2 :=
  k.trans' x fun b hb => by
    by_cases hl : b < w0.heap.size
    · left
      unfold Out
      rw [List.mem_filter, List.mem_range]
      exact ⟨hl, decide_eq_true fun hm => hG b hm hb⟩
    · right; omega
/-- The walk's own things. -/
structure WK where
  W : World
  base : Nat
  g : Nat
  n1 : Nat
  A2 : Option Addr
  n2 : Nat
  c2 : Nat
  ops : List Op
  key : ByteArray
  early : Int
  bA : Nat
  bW : Nat
  bR : Nat
  kb : Nat
  eb : Nat
  bT : Nat
  bN : Nat
  wb : Nat
  bAt : Nat
  dt : Doc
  nB : Option Addr
  nm : Nat
  nc : Nat
  nums : List Int
  b0 : Nat
  RA : Option Addr
  rc : Nat
  rs : List Rw
def WK.F (K : WK) : List Nat := [K.bA, K.bW, K.bR, K.kb, K.eb, K.bT, K.bN, K.wb] ++ (ownF K.nB ++ (ownF K.dt.A ++ rowsF K.b0 K.RA K.rs))
def walkV (b0 : Nat) : Value := .func (.func 53) #[] #[.pointer (some ⟨b0, 0, none⟩)]
structure Fx (K : WK) (w : World) : Prop where
  a : BlkT w K.bA [.slice K.A2 K.n2 K.c2] 22
  wp : BlkT w K.bW [.pointer (some ⟨K.g, 0, none⟩)] 52
  r : BlkT w K.bR [.bool false] 4
  k : BlkT w K.kb [.string K.key] 9
  e : BlkT w K.eb [.int .i64 K.early] 3
  t : BlkT w K.bT K.dt.cells 58
  n : BlkT w K.bN [.slice K.nB K.nm K.nc] 37
  f : BlkT w K.wb [walkV K.b0] 46
  c : Cells w K.nB (IL.flat K.nums)
  d : DocR w K.dt
  rows : RowsK w K.b0 K.RA K.rc K.rs
theorem Fx.ext {K : WK} {G : List Nat} {w w' : World} (h : Fx K w) (x : Ext G w w') (hG : ∀ b ∈ K.F, b ∉ G) : Fx K w' := by
  unfold WK.F at hG
  exact ⟨h.a.ext x (hG _ (by simp)), h.wp.ext x (hG _ (by simp)), h.r.ext x (hG _ (by simp)), h.k.ext x (hG _ (by simp)), h.e.ext x (hG _ (by simp)), h.t.ext x (hG _ (by simp)), h.n.ext x (hG _ (by simp)), h.f.ext x (hG _ (by simp)), h.c.ext x (fun b hb => hG _ (by simp [hb])), h.d.ext x (fun b hb => hG _ (by simp [hb])), h.rows.ext x (fun b hb => hG _ (by simp [hb]))⟩
/-- What holds of them for good. -/
structure PK (K : WK) : Prop where
  ops : OpsAt K.W K.A2 K.n2 K.ops
  low : K.W.heap.size ≤ K.base
  gl : K.base ≤ K.g
  few : K.n1 + K.n2 ≤ 3400000000000
  nums : K.rs.map (·.n) = K.nums
  nm : K.nums.length = K.nm
  nms : K.nm ≤ 8000000000000
  dl : K.dt.l ≤ 4000000000000
  set : ∀ y ∈ K.rs, y.S.Ok → ∀ ys, RiseL ys → (∀ z, z ∈ ys ↔ ∃ r ∈ K.dt.rows, (r.key = K.key ∧ y.n ≤ r.n ∧ r.n ≤ y.n) ∧ r.slot = z) → y.S.mi = ys ∧ y.S.N = 200
  kf : ∀ b ∈ K.F, b < K.bAt
  wl : K.W.heap.size ≤ K.bAt
  rl : K.W.heap.size ≤ K.bR
/-- What holds on the way: L are the walk's other blocks, those of L0 are as in w0. -/
structure Dy (K : WK) (w0 : World) (L0 L : List Nat) (w : World) (es : Nat → En) (a c : Nat) : Prop where
  ext : Ext [] K.W w
  at_ : WAt w K.base K.g c es
  fx : Fx K w
  cnt : BlkT w K.bAt [.int .i64 (a : Int)] 3
  ha : a ≤ K.n2
  hc : c ≤ K.n1 + a
  kf : ∀ b ∈ K.F, b ∉ (es 2).F ∧ b ≠ K.g
  sat : ¬ foot es K.g K.bAt
  sep : ∀ b ∈ L, K.bAt < b ∧ ¬ foot es K.g b ∧ b < w.heap.size
  keep : Ext (Out w0 L0) w0 w
  sub : ∀ b ∈ L0, b ∈ L
section
variable {K : WK} {w0 w w' : World} {L0 L : List Nat} {es : Nat → En} {a c : Nat}
/-- A block that stays. -/
theorem Dy.blk (h : Dy K w0 L0 L w es a c) {b : Nat} {cs : List Value} {T : TypeId} (hb : BlkT w0 b cs T) (hL : b ∈ L0) : BlkT w b cs T := hb.ext h.keep (out_not hL)
theorem Dy.mrk (h : Dy K w0 L0 L w es a c) {b : Nat} (hb : Mrk w0 b) (hL : b ∈ L0) : Mrk w b := hb.ext h.keep (out_not hL)
theorem Dy.loopSt (h : Dy K w0 L0 L w es a c) {b : Nat} {Rc : Loop} {s : LoopState} {p : Option Code} (hb : LoopSt w0 b Rc s p) (hL : b ∈ L0) : LoopSt w b Rc s p := LoopSt.ext hb h.keep (out_not hL)
/-- Other blocks of the walk are written. -/
theorem Dy.touch {G : List Nat} (h : Dy K w0 L0 L w es a c) (pk : PK K) (x : Ext G w w') (hG : ∀ b ∈ G, (b ∈ L ∧ b ∉ L0) ∨ w.heap.size ≤ b) : Dy K w0 L0 L w' es a c := by
  have hn : ∀ b ∈ G, ¬ foot es K.g b ∧ K.bAt < b := fun b hb => by
    rcases hG b hb with h1 | h1
    · exact ⟨(h.sep b h1.1).2.1, (h.sep b h1.1).1⟩
    · exact ⟨h.at_.new h1, by have := h.cnt.lt; omega⟩
  have z := x.size
  refine ⟨h.ext.trans' x fun b hb => .inr (by have := (hn b hb).2; have := pk.wl; omega), h.at_.ext_foot x fun b hb => (hn b hb).1, h.fx.ext x fun b hb hm => by have := (hn b hm).2; have := pk.kf b hb; omega, h.cnt.ext x fun hm => by have := (hn _ hm).2; omega, h.ha, h.hc, h.kf, h.sat, fun b hb => ?_, Keep.then h.keep x fun b hb hm => ?_, h.sub⟩
  · obtain ⟨h1, h2, h3⟩ := h.sep b hb
    exact ⟨h1, h2, by omega⟩
  · rcases hG b hm with h1 | h1
    · exact h1.2 hb
    · have := (h.sep b (h.sub b hb)).2.2; omega
theorem Dy.ext0 (h : Dy K w0 L0 L w es a c) (pk : PK K) (x : Ext [] w w') : Dy K w0 L0 L w' es a c := h.touch pk x (by simp)
/-- New blocks. -/
theorem Dy.more {L' : List Nat} (h : Dy K w0 L0 L w es a c) (pk : PK K) (x : Ext [] w w') (hL : ∀ b ∈ L', b ∈ L ∨ (w.heap.size ≤ b ∧ b < w'.heap.size)) (hs : ∀ b ∈ L0, b ∈ L') : Dy K w0 L0 L' w' es a c := by
  have h' := h.ext0 pk x
  refine ⟨h'.ext, h'.at_, h'.fx, h'.cnt, h'.ha, h'.hc, h'.kf, h'.sat, fun b hb => ?_, h'.keep, hs⟩
  rcases hL b hb with h1 | h1
  · exact h'.sep b h1
  · exact ⟨by have := h.cnt.lt; omega, h.at_.new h1.1, h1.2⟩
/-- From here on. -/
theorem Dy.rebase {L0' : List Nat} (h : Dy K w0 L0 L w es a c) (hs : ∀ b ∈ L0', b ∈ L) : Dy K w L0' L w es a c := ⟨h.ext, h.at_, h.fx, h.cnt, h.ha, h.hc, h.kf, h.sat, h.sep, Ext.refl _ _, hs⟩
theorem Dy.fewer {L' : List Nat} (h : Dy K w0 L0 L w es a c) (hs : ∀ b ∈ L', b ∈ L) (hs0 : ∀ b ∈ L0, b ∈ L') : Dy K w0 L0 L' w es a c := ⟨h.ext, h.at_, h.fx, h.cnt, h.ha, h.hc, h.kf, h.sat, fun b hb => h.sep b (hs b hb), h.keep, hs0⟩
/-- What stayed since an earlier base stays. -/
theorem Dy.back {wb : World} {Lb : List Nat} (hb : Ext (Out wb Lb) wb w0) (h : Dy K w0 L0 L w es a c) (hs : ∀ b ∈ Lb, b ∈ L0) : Dy K wb Lb L w es a c :=
  ⟨h.ext, h.at_, h.fx, h.cnt, h.ha, h.hc, h.kf, h.sat, h.sep, Keep.then hb h.keep fun b hb => out_not (hs b hb), fun b hb => h.sub b (hs b hb)⟩
/-- One step more is counted. -/
theorem Dy.bump (h : Dy K w0 L0 L w es a c) (pk : PK K) (ha : a < K.n2) : ∃ w', (Instr.storeAt 3 (.pointer (some ⟨K.bAt, 0, none⟩)) (.int .i64 ((a + 1 : Nat) : Int))).run Try.prog w = .ok () w' ∧ Dy K w0 L0 L w' es (a + 1) c ∧ Ext [K.bAt] w w' := by
  obtain ⟨w', hr, b', x'⟩ := store1 (P := Try.prog) (v := .int .i64 ((a + 1 : Nat) : Int)) i3s' h.cnt (i := 0) (by simp) rfl rfl
  have b' : BlkT w' K.bAt [.int .i64 ((a + 1 : Nat) : Int)] 3 := by simpa using b'
  have z := x'.size
  refine ⟨w', hr, ⟨h.ext.trans' x' fun b hb => .inr (by simp at hb; have := pk.wl; omega), h.at_.ext_foot x' fun b hb => by simp at hb; rw [hb]; exact h.sat, h.fx.ext x' fun b hb hm => by simp at hm; have := pk.kf b hb; omega, b', by omega, by have := h.hc; omega, h.kf, h.sat, fun b hb => ?_, Keep.then h.keep x' fun b hb hm => ?_, h.sub⟩, x'⟩
  · obtain ⟨h1, h2, h3⟩ := h.sep b hb
    exact ⟨h1, h2, by omega⟩
  · simp at hm
    have := (h.sep b (h.sub b hb)).1
    omega
/-- The index is changed. -/
theorem Dy.change {es' : Nat → En} (h : Dy K w0 L0 L w es a c) (pk : PK K) (ch : WChg w w' K.base K.g (c + 1) es es' 2) (hc : c + 1 ≤ K.n1 + a) : Dy K w0 L0 L w' es' a (c + 1) := by
  have hG : ∀ b ∈ K.g :: (es 2).F, foot es K.g b := fun b hb => by
    rcases List.mem_cons.1 hb with rfl | hb
    · exact .inl rfl
    · exact .inr ⟨2, by omega, .inl hb⟩
  have z := ch.ext.size
  have nf : ∀ b, ¬ foot es K.g b → b < w.heap.size → ¬ foot es' K.g b := fun b h1 h2 hf => by
    rcases ch.foot (by omega) hf with h3 | h3
    · exact h1 h3
    · omega
  refine ⟨h.ext.trans' ch.ext fun b hb => .inr ?_, ch.at_, h.fx.ext ch.ext fun b hb hm => ?_, h.cnt.ext ch.ext fun hm => h.sat (hG _ hm), h.ha, hc, fun b hb => ⟨fun hm => ?_, (h.kf b hb).2⟩, nf _ h.sat h.cnt.lt, fun b hb => ?_, Keep.then h.keep ch.ext fun b hb hm => (h.sep b (h.sub b hb)).2.1 (hG b hm), h.sub⟩
  · have h1 := pk.low
    have h2 := pk.gl
    rcases List.mem_cons.1 hb with rfl | hb
    · omega
    · have := h.at_.low 2 (by omega) b hb; omega
  · rcases List.mem_cons.1 hm with e | hm
    · exact (h.kf b hb).2 e
    · exact (h.kf b hb).1 hm
  · rcases ch.grow b hm with h1 | h1
    · exact (h.kf b hb).1 h1
    · have := pk.kf b hb
      have := h.cnt.lt
      omega
  · obtain ⟨h1, h2, h3⟩ := h.sep b hb
    exact ⟨h1, nf b h2 h3, by omega⟩
end
end Go.Proofs.Ytjlkdadafddodaa
namespace Go.Proofs.Ytjlkdadafddodaa
open Go Go.V Go.B

theorem num_at {rs ps rest : List Rw} {y : Rw} {nums : List Int} (h : rs.map (·.n) = nums) (hsp : rs = ps ++ y :: rest) : nums[ps.length]? = some y.n := by
  rw [← h, List.getElem?_map, hsp]; simp
set_option maxRecDepth 8000 in
set_option maxHeartbeats 4000000 in
theorem body1 {K : WK} (pk : PK K) {w0 w1 Wy : World} {L0 L : List Nat} {es : Nat → En} {a c rb bk l r p bw : Nat} {Rc : Loop} {ps rest : List Rw} {y : Rw} (hsp : K.rs = ps ++ y :: rest) (d : Dy K w0 L0 L w1 es a c)
    (hrb : BlkT w1 rb [.int .i64 (r : Int)] 3) (rbL : rb ∈ L0) (hbk : BlkT w1 bk [.int .i64 (ps.length : Int)] 3) (bkL : bk ∈ L ∧ bk ∉ L0) (lL : l ∈ L ∧ l ∉ L0) (lbk : l ≠ bk) (hWy : Ext [] w1 Wy) (hp : w1.heap.size ≤ p) (hbw : w1.heap.size ≤ bw) (sy : SetAt Wy p bw y.S) (hS : LoopSt Wy l Rc .ready none)
    (hbase : BlkT w0 rb [.int .i64 (r : Int)] 3)
    {R' : Ending → World → Prop}
    (k1 : ∀ G w2 es' a' c', LoopSt w2 l Rc .busy none → (∀ b ∈ G, b < w1.heap.size ∨ b = p ∨ b = bw) → Ext G Wy w2 → Dy K w0 L0 L w2 es' a' c' → BlkT w2 bk [.int .i64 ((ps.length + 1 : Nat) : Int)] 3 → (r = 1 → ((ps.length + 1 : Nat) : Int) < K.early) → R' (.returned (.bool true)) (setLoop w2 l Rc .ready none))
    (k2 : ∀ G w2 es' a' c', LoopSt w2 l Rc .busy none → (∀ b ∈ G, b < w1.heap.size ∨ b = p ∨ b = bw) → Ext G Wy w2 → Dy K w0 L0 L w2 es' a' c' → BlkT w2 bk [.int .i64 ((ps.length + 1 : Nat) : Int)] 3 → r = 1 → K.early ≤ ((ps.length + 1 : Nat) : Int) → R' (.returned (.bool false)) (setLoop w2 l Rc .done (some (Code.exit 4)))) :
    (V.LoopSt Wy l Rc .ready none ∧
  ∃ J140 : World → Prop, (∃ J141 : Bool → World → Prop, (∃ n142, World.cell? (V.setLoop Wy l Rc .busy none) ⟨bk, 0, none⟩ = some (Value.int .i64 n142) ∧
  ∃ A143, ∃ A143l, ∃ A143c, World.cell? (V.setLoop Wy l Rc .busy none) ⟨K.bN, 0, none⟩ = some (Value.slice A143 A143l A143c) ∧
  V.sel (decide (n142 ≥ ((A143l : Nat) : Int)))
  (J141 true (V.setLoop Wy l Rc .busy none))
  (∃ A144, ∃ A144l, ∃ A144c, World.cell? (V.setLoop Wy l Rc .busy none) ⟨K.bN, 0, none⟩ = some (Value.slice A144 A144l A144c) ∧
  ∃ n145, World.cell? (V.setLoop Wy l Rc .busy none) ⟨bk, 0, none⟩ = some (Value.int .i64 n145) ∧
  V.when (decide ((0 : Int) ≤ n145 ∧ (n145 : Int) < ((A144l : Nat) : Int))) (V.ptr A144 fun a146 =>
  ∃ n147, World.cell? (V.setLoop Wy l Rc .busy none) (Addr.add a146 ((Int.toNat n145) * 1)) = some (Value.int .i64 n147) ∧
  V.sel (y.n != n147)
  (J141 true (V.setLoop Wy l Rc .busy none))
  (∃ n148, ∃ A149, ∃ A149l, ∃ A149c, V.cellsC (fun a_ x_ => World.cell? (V.setLoop Wy l Rc .busy none) a_ = some x_) ⟨K.bT, 0, none⟩ [(Value.int .i64 n148), (Value.slice A149 A149l A149c)] ∧
  V.ptr (some (⟨K.kb, 0, none⟩ : Addr)) fun a150 =>
  ∃ s151, World.cell? (V.setLoop Wy l Rc .busy none) a150 = some (Value.string s151) ∧
  Calls Try.prog 29 #[(Value.agg #[(Value.int .i64 n148), (Value.slice A149 A149l A149c)]), (Value.string s151), (Value.int .i64 y.n), (Value.int .i64 y.n)] (V.setLoop Wy l Rc .busy none) fun e153 w154 =>
  ∃ A152, ∃ A152l, ∃ A152c, e153 = Ending.returned (Value.slice A152 A152l A152c) ∧
  Calls Try.prog 28 #[(Value.pointer (some (⟨p, 0, none⟩ : Addr))), (Value.int .i64 200), (Value.slice A152 A152l A152c)] w154 fun e156 w157 =>
  ∃ b155, e156 = Ending.returned (Value.bool b155) ∧
  J141 (!b155) w157)))) ∧
  ∀ t108_158 (j159 : Nat → Value) (w160 : World), J141 t108_158 w160 →
  V.sel t108_158
  (∃ w161, Sem.run Try.prog (Instr.storeAt 4 (Value.pointer (some ⟨K.bR, 0, none⟩)) (Value.bool false)) w160 = .ok () w161 ∧
  V.LoopSt w161 l Rc .busy none ∧ R' (Ending.returned (Value.bool false)) (V.setLoop w161 l Rc .done (some Code.ret)))
  (J140  w160)) ∧
  ∀ (j162 : Nat → Value) (w163 : World), J140  w163 →
  ∃ n164, World.cell? w163 ⟨bk, 0, none⟩ = some (Value.int .i64 n164) ∧
  Calls Try.prog 30 #[(Value.pointer (some (⟨p, 0, none⟩ : Addr))), (Value.int .i64 n164)] w163 fun e166 w167 =>
  ∃ b165, e166 = Ending.returned (Value.bool b165) ∧
  Calls Try.prog 32 #[(Value.pointer (some (⟨p, 0, none⟩ : Addr)))] w167 fun e169 w170 =>
  ∃ p168, e169 = Ending.returned (Value.pointer p168) ∧
  Calls Try.prog 31 #[(Value.pointer (some (⟨p, 0, none⟩ : Addr))), (Value.pointer p168)] w170 fun e171 w172 =>
  e171 = Ending.returned undef ∧
  ∃ n173, World.cell? w172 ⟨bk, 0, none⟩ = some (Value.int .i64 n173) ∧
  ∃ w174, Sem.run Try.prog (Instr.storeAt 3 (Value.pointer (some ⟨bk, 0, none⟩)) (Value.int .i64 (IntKind.wrap .i64 (n173 + 1)))) w172 = .ok () w174 ∧
  ∃ J175 : World → Prop, (∃ I176 : Int → World → Prop, ∃ μ177 : Int → World → Nat, I176 0 w174 ∧
  ∀ j_178 (j179 : Nat → Value) (w180 : World), I176 j_178 w180 →
  (∃ J181 : World → Prop, (V.sel (decide (j_178 < 2))
  (∃ n182, World.cell? w180 ⟨K.bAt, 0, none⟩ = some (Value.int .i64 n182) ∧
  ∃ A183, ∃ A183l, ∃ A183c, World.cell? w180 ⟨K.bA, 0, none⟩ = some (Value.slice A183 A183l A183c) ∧
  V.sel (decide (n182 < ((A183l : Nat) : Int)))
  (J181  w180)
  (J175  w180))
  (J175  w180)) ∧
  ∀ (j184 : Nat → Value) (w185 : World), J181  w185 →
  ∃ A186, ∃ A186l, ∃ A186c, World.cell? w185 ⟨K.bA, 0, none⟩ = some (Value.slice A186 A186l A186c) ∧
  ∃ n187, World.cell? w185 ⟨K.bAt, 0, none⟩ = some (Value.int .i64 n187) ∧
  V.when (decide ((0 : Int) ≤ n187 ∧ (n187 : Int) < ((A186l : Nat) : Int))) (V.ptr A186 fun a188 =>
  ∃ n189, ∃ n190, ∃ n191, ∃ s192, ∃ n193, ∃ n194, ∃ n195, ∃ A196, ∃ A196l, ∃ A196c, V.cellsC (fun a_ x_ => World.cell? w185 a_ = some x_) (Addr.add a188 ((Int.toNat n187) * 8)) [(Value.int .i64 n189), (Value.int .i64 n190), (Value.int .i64 n191), (Value.string s192), (Value.int .i64 n193), (Value.int .i64 n194), (Value.int .i64 n195), (Value.slice A196 A196l A196c)] ∧
  ∀ w197, w197 = (World.alloc w185 (.cells #[(Value.int .i64 0), (Value.int .i64 0), (Value.int .i64 0), (Value.string ByteArray.empty), (Value.int .i64 0), (Value.int .i64 0), (Value.int .i64 0), (Value.slice none 0 0)] 50)) →
  ∃ w198, Sem.run Try.prog (Instr.storeAt 50 (Value.pointer (some ⟨Array.size (World.heap w185), 0, none⟩)) (Value.agg #[(Value.int .i64 n189), (Value.int .i64 n190), (Value.int .i64 n191), (Value.string s192), (Value.int .i64 n193), (Value.int .i64 n194), (Value.int .i64 n195), (Value.slice A196 A196l A196c)])) w197 = .ok () w198 ∧
  ∃ n199, World.cell? w198 ⟨K.bAt, 0, none⟩ = some (Value.int .i64 n199) ∧
  ∃ w200, Sem.run Try.prog (Instr.storeAt 3 (Value.pointer (some ⟨K.bAt, 0, none⟩)) (Value.int .i64 (IntKind.wrap .i64 (n199 + 1)))) w198 = .ok () w200 ∧
  ∃ J201 : Bool → World → Prop, (∃ n202, World.cell? w200 (Addr.add ⟨Array.size (World.heap w185), 0, none⟩ 0) = some (Value.int .i64 n202) ∧
  V.sel (decide (n202 ≤ 3))
  (∃ n203, World.cell? w200 (Addr.add ⟨Array.size (World.heap w185), 0, none⟩ 0) = some (Value.int .i64 n203) ∧
  V.sel (n203 != 1)
  (∃ p204, World.cell? w200 ⟨K.bW, 0, none⟩ = some (Value.pointer p204) ∧
  ∃ n205, ∃ n206, ∃ n207, ∃ s208, ∃ n209, ∃ n210, ∃ n211, ∃ A212, ∃ A212l, ∃ A212c, V.cellsC (fun a_ x_ => World.cell? w200 a_ = some x_) ⟨Array.size (World.heap w185), 0, none⟩ [(Value.int .i64 n205), (Value.int .i64 n206), (Value.int .i64 n207), (Value.string s208), (Value.int .i64 n209), (Value.int .i64 n210), (Value.int .i64 n211), (Value.slice A212 A212l A212c)] ∧
  Calls Try.prog 26 #[(Value.pointer p204), (Value.agg #[(Value.int .i64 n205), (Value.int .i64 n206), (Value.int .i64 n207), (Value.string s208), (Value.int .i64 n209), (Value.int .i64 n210), (Value.int .i64 n211), (Value.slice A212 A212l A212c)]), (Value.int .i64 2)] w200 fun e214 w215 =>
  ∃ b213, e214 = Ending.returned (Value.bool b213) ∧
  J201 (!b213) w215)
  (J201 false w200))
  (J201 false w200)) ∧
  ∀ t147_216 (j217 : Nat → Value) (w218 : World), J201 t147_216 w218 →
  V.sel t147_216
  (∃ w219, Sem.run Try.prog (Instr.storeAt 4 (Value.pointer (some ⟨K.bR, 0, none⟩)) (Value.bool false)) w218 = .ok () w219 ∧
  V.LoopSt w219 l Rc .busy none ∧ R' (Ending.returned (Value.bool false)) (V.setLoop w219 l Rc .done (some Code.ret)))
  (I176 (IntKind.wrap .i64 (j_178 + 1)) w218 ∧ μ177 (IntKind.wrap .i64 (j_178 + 1)) w218 < μ177 j_178 w180)))) ∧
  ∀ (j220 : Nat → Value) (w221 : World), J175  w221 →
  V.ptr (some (⟨rb, 0, none⟩ : Addr)) fun a222 =>
  ∃ n223, World.cell? w221 a222 = some (Value.int .i64 n223) ∧
  V.sel (n223 == 1)
  (∃ n224, World.cell? w221 ⟨bk, 0, none⟩ = some (Value.int .i64 n224) ∧
  V.ptr (some (⟨K.eb, 0, none⟩ : Addr)) fun a225 =>
  ∃ n226, World.cell? w221 a225 = some (Value.int .i64 n226) ∧
  V.sel (decide (n224 ≥ n226))
  (V.LoopSt w221 l Rc .busy none ∧ R' (Ending.returned (Value.bool false)) (V.setLoop w221 l Rc .done (some (Code.exit 4))))
  (V.LoopSt w221 l Rc .busy none ∧ R' (Ending.returned (Value.bool true)) (V.setLoop w221 l Rc .ready none)))
  (V.LoopSt w221 l Rc .busy none ∧ R' (Ending.returned (Value.bool true)) (V.setLoop w221 l Rc .ready none))) := by
  have hyr : y ∈ K.rs := by rw [hsp]; simp
  have hnu := num_at pk.nums hsp
  have hps : ps.length < K.nm := by have := (List.getElem?_eq_some_iff.1 hnu).1; rw [pk.nm] at this; exact this
  have nms := pk.nms
  have ll := (d.sep l lL.1).2.2
  have bkl := (d.sep bk bkL.1).2.2
  have zy := hWy.size
  -- two blocks more: the row's set
  have d1 : Dy K w0 L0 (p :: bw :: L) Wy es a c := d.more pk hWy (fun b hb => by
    simp only [List.mem_cons] at hb
    rcases hb with rfl | rfl | hb
    · exact .inr ⟨hp, sy.hdr.lt⟩
    · exact .inr ⟨hbw, sy.wrd.lt⟩
    · exact .inl hb) (fun b hb => by simp [d.sub b hb])
  have p0 : p ∉ L0 := fun hm => by have := (d.sep p (d.sub p hm)).2.2; omega
  have bw0 : bw ∉ L0 := fun hm => by have := (d.sep bw (d.sub bw hm)).2.2; omega
  have exb := setLoop_ext Wy l Rc .busy none
  have hbusy : LoopSt (setLoop Wy l Rc .busy none) l Rc .busy none := setLoop_st _ _ (LoopSt.lt hS)
  have dW := d1.touch pk exb (fun b hb => by simp at hb; subst hb; exact .inl ⟨by simp [lL.1], lL.2⟩)
  have kW := (hbk.ext0 hWy).ext exb (by simp; omega)
  have sW := sy.ext exb (by simp; omega) (by simp; omega)
  have zW : (setLoop Wy l Rc .busy none).heap.size = Wy.heap.size := setLoop_size _ _ _ _ _
  generalize setLoop Wy l Rc .busy none = Wb at hbusy dW kW sW zW exb ⊢
  obtain ⟨ad, hB, hcell⟩ := il_cell dW.fx.c hnu
  have hpl := sy.hdr.lt
  have hbl := sy.wrd.lt
  refine ⟨hS, fun w' => Ext [] Wb w', ⟨fun t w' => t = false ∧ Ext [] Wb w', ⟨_, kW.cell (i := 0) rfl, _, _, _, dW.fx.n.cell (i := 0) rfl, sel_dec (fun hge => by omega) (fun _ => ⟨_, _, _, dW.fx.n.cell (i := 0) rfl, _, kW.cell (i := 0) rfl, when_dec ⟨by omega, by omega⟩ ?_⟩)⟩, ?_⟩, ?_⟩
  · rw [hB]
    refine ptr_in ⟨y.n, hcell, sel_false (by simp) ⟨_, _, _, _, cadd0 dW.fx.t, ptr_in ⟨_, dW.fx.k.cell (i := 0) rfl, ?_⟩⟩⟩
    refine DocBetween_c dW.fx.d pk.dl K.key y.n y.n fun B2 n2 c2 ys w154 e154 own154 hr154 hm154 => ⟨_, _, _, rfl, ?_⟩
    have hmi := pk.set y hyr sW.ok ys hr154 hm154
    exact isSet_c (sW.ext0 e154) hmi.2 hmi.1 (il_ints own154.cells own154.len) fun w157 e157 => ⟨_, rfl, rfl, e154.trans e157⟩
  · rintro t _ w160 ⟨rfl, e160⟩
    exact sel_false rfl e160
  rintro _ w163 e163
  have d163 := dW.ext0 pk e163
  have k163 := kW.ext0 e163
  have z163 := e163.size
  refine ⟨_, k163.cell (i := 0) rfl, Add_c (sW.ext0 e163) _ fun w167 T t x167 s167 _ _ _ => ⟨_, rfl, Clone_c s167.ref fun p2 bw2 w170 e170 hp2 hbw2 s170 => ⟨_, rfl, ?_⟩⟩⟩
  have z167 := x167.size
  have z170 := e170.size
  refine AndNotWith_c (s167.ext0 e170) s170.ok (Rd.other s170.ref (by simp; omega)) fun w172 C x172 s172 _ _ => ⟨rfl, ?_⟩
  have inP : ∀ b ∈ [bw], (b ∈ p :: bw :: L ∧ b ∉ L0) ∨ (w163.heap.size ≤ b) := fun b hb => by simp at hb; subst hb; exact .inl ⟨by simp, bw0⟩
  have d172 := ((d163.touch pk x167 inP).ext0 pk e170).touch pk x172 (fun b hb => by simp at hb; subst hb; exact .inl ⟨by simp, bw0⟩)
  have nbk : bk ∉ [bw] := by simp; omega
  have k172 := ((k163.ext x167 nbk).ext0 e170).ext x172 nbk
  have z172 := x172.size
  obtain ⟨w174, hr174, b174, x174⟩ := store1 (P := Try.prog) (v := .int .i64 ((ps.length + 1 : Nat) : Int)) i3s' k172 (i := 0) (by simp) rfl rfl
  have b174 : BlkT w174 bk [.int .i64 ((ps.length + 1 : Nat) : Int)] 3 := by simpa using b174
  have d174 := d172.touch pk x174 (fun b hb => by simp at hb; subst hb; exact .inl ⟨by simp [bkL.1], bkL.2⟩)
  have hup : IntKind.wrap .i64 ((ps.length : Int) + 1) = ((ps.length + 1 : Nat) : Int) := up64 ps.length (by omega)
  refine ⟨_, k172.cell (i := 0) rfl, w174, by rw [hup]; exact hr174, ?_⟩
  -- the frame of the whole row
  obtain ⟨G0, hG0⟩ : ∃ G0, G0 = p :: bw :: bk :: l :: K.bAt :: K.g :: (es 2).F := ⟨_, rfl⟩
  have hGlt : ∀ b ∈ G0, b < w1.heap.size ∨ b = p ∨ b = bw := fun b hb => by
    rw [hG0] at hb
    simp only [List.mem_cons] at hb
    rcases hb with rfl | rfl | rfl | rfl | rfl | rfl | hb
    · exact .inr (.inl rfl)
    · exact .inr (.inr rfl)
    · exact .inl bkl
    · exact .inl ll
    · exact .inl d.cnt.lt
    · exact .inl d.at_.blk.lt
    · exact .inl ((d.at_.en 2 (by omega)).lt b hb)
  have X174 : Ext G0 Wy w174 := by
    have hin : ∀ {F : List Nat} {b : Nat}, F ⊆ G0 → b ∈ F → b ∈ G0 ∨ Wy.heap.size ≤ b := fun hs hb => .inl (hs hb)
    have e1 : Ext G0 Wy Wb := exb.weaken fun b hb => .inl (by simp at hb; subst hb; rw [hG0]; simp)
    have e2 := (e1.then e163).trans' x167 fun b hb => .inl (by simp at hb; subst hb; rw [hG0]; simp)
    have e3 := (e2.then e170).trans' x172 fun b hb => .inl (by simp at hb; subst hb; rw [hG0]; simp)
    exact e3.trans' x174 fun b hb => .inl (by simp at hb; subst hb; rw [hG0]; simp)
  have l174 : LoopSt w174 l Rc .busy none := LoopSt.ext (LoopSt.ext (LoopSt.ext (LoopSt.ext (LoopSt.ext hbusy e163 (by simp)) x167 (by simp; omega)) e170 (by simp)) x172 (by simp; omega)) x174 (by simp; exact lbk)
  refine ⟨fun w' => ∃ es' a' c', Dy K w0 L0 (p :: bw :: L) w' es' a' c' ∧ BlkT w' bk [.int .i64 ((ps.length + 1 : Nat) : Int)] 3 ∧ LoopSt w' l Rc .busy none ∧ Ext G0 Wy w' ∧ (∀ b ∈ (es' 2).F, b ∈ (es 2).F ∨ Wy.heap.size ≤ b), ?_, ?_⟩
  · refine ⟨fun t w' => ∃ j : Nat, t = j ∧ j ≤ 2 ∧ ∃ es' a' c', Dy K w0 L0 (p :: bw :: L) w' es' a' c' ∧ BlkT w' bk [.int .i64 ((ps.length + 1 : Nat) : Int)] 3 ∧ LoopSt w' l Rc .busy none ∧ Ext G0 Wy w' ∧ (∀ b ∈ (es' 2).F, b ∈ (es 2).F ∨ Wy.heap.size ≤ b), fun t _ => 2 - t.toNat, ⟨0, rfl, by omega, es, a, c, d174, b174, l174, X174, fun b hb => .inl hb⟩, ?_⟩
    rintro _ _ w180 ⟨j, rfl, hj, es', a', c', d180, b180, l180, X180, f180⟩
    have out : ∃ es' a' c', Dy K w0 L0 (p :: bw :: L) w180 es' a' c' ∧ BlkT w180 bk [.int .i64 ((ps.length + 1 : Nat) : Int)] 3 ∧ LoopSt w180 l Rc .busy none ∧ Ext G0 Wy w180 ∧ (∀ b ∈ (es' 2).F, b ∈ (es 2).F ∨ Wy.heap.size ≤ b) := ⟨es', a', c', d180, b180, l180, X180, f180⟩
    have hz := X180.size
    refine ⟨fun w' => w' = w180 ∧ j < 2 ∧ a' < K.n2, sel_dec (fun hlt => ⟨_, d180.cnt.cell (i := 0) rfl, _, _, _, d180.fx.a.cell (i := 0) rfl, sel_dec (fun h2 => ⟨rfl, by omega, by omega⟩) (fun _ => out)⟩) (fun _ => out), ?_⟩
    rintro _ w185 ⟨rfl, hj2, ha2⟩
    obtain ⟨o, od, hoa, hA, rd⟩ := (pk.ops.ext0 d180.ext).read ha2
    have hin := (pk.ops.ext0 d180.ext).in_ o (List.mem_of_getElem? hoa)
    have hn2 : K.n2 ≤ 4611686018427387904 := by have := pk.ops.sz; omega
    refine ⟨_, _, _, d180.fx.a.cell (i := 0) rfl, _, d180.cnt.cell (i := 0) rfl, when_dec ⟨by omega, by omega⟩ ?_⟩
    rw [hA]
    refine ptr_in ⟨_, _, _, _, _, _, _, _, _, _, rd, fun w197 h197 => ?_⟩
    obtain ⟨w198, hr198, b198, x198⟩ := op_box (o := o) h197
    have d198 := d180.ext0 pk x198
    have b180' := b180.ext0 x198
    have l198 := LoopSt.ext l180 x198 (by simp)
    have X198 := X180.then x198
    have bkA : bk ∉ [K.bAt] := by simp; have := (d180.sep bk (by simp [bkL.1])).1; omega
    have lA : l ∉ [K.bAt] := by simp; have := (d180.sep l (by simp [lL.1])).1; omega
    obtain ⟨w200, hr200, d200, x200⟩ := d198.bump pk ha2
    have ub : IntKind.wrap .i64 ((a' : Int) + 1) = ((a' + 1 : Nat) : Int) := up64 a' (by omega)
    have b200 := b180'.ext x200 bkA
    have l200 := LoopSt.ext l198 x200 lA
    have X200 : Ext G0 Wy w200 := X198.trans' x200 fun b hb => .inl (by simp at hb; subst hb; rw [hG0]; simp)
    have ob : BlkT w200 w185.heap.size o.cells 50 := b198.ext x200 (by simp; have := d180.cnt.lt; omega)
    have hup2 : IntKind.wrap .i64 ((j : Int) + 1) = ((j + 1 : Nat) : Int) := up64 j (by omega)
    refine ⟨w198, hr198, _, d198.cnt.cell (i := 0) rfl, w200, by rw [ub]; exact hr200, fun t w' => t = false ∧ ∃ es' a' c', Dy K w0 L0 (p :: bw :: L) w' es' a' c' ∧ BlkT w' bk [.int .i64 ((ps.length + 1 : Nat) : Int)] 3 ∧ LoopSt w' l Rc .busy none ∧ Ext G0 Wy w' ∧ (∀ b ∈ (es' 2).F, b ∈ (es 2).F ∨ Wy.heap.size ≤ b), ⟨_, cadd ob rfl, sel_dec (fun h3 => ⟨_, cadd ob rfl, sel_intro (fun hk => ?_) (fun _ => ⟨rfl, es', _, _, d200, b200, l200, X200, f180⟩)⟩) (fun _ => ⟨rfl, es', _, _, d200, b200, l200, X200, f180⟩)⟩, ?_⟩
    · refine ⟨_, d200.fx.wp.cell (i := 0) rfl, _, _, _, _, _, _, _, _, _, _, cadd0 ob, ?_⟩
      have hcs : c' ≤ 3500000000000 := by have := d180.hc; have := d180.ha; have := pk.few; omega
      have hbs : K.base ≤ w200.heap.size := by have := d200.at_.gb; have := d200.at_.blk.lt; omega
      refine changes_c d200.at_ hcs hbs (i := 2) (by omega) (o := o) hin fun es2 w215 ch _ => ⟨_, rfl, rfl, es2, _, _, d200.change pk ch (by have := d180.hc; omega), ?_, ?_, ?_, fun b hb => ?_⟩
      · refine b200.ext ch.ext fun hm => (d200.sep bk (by simp [bkL.1])).2.1 ?_
        rcases List.mem_cons.1 hm with e | hm
        · exact .inl e
        · exact .inr ⟨2, by omega, .inl hm⟩
      · refine LoopSt.ext l200 ch.ext fun hm => (d200.sep l (by simp [lL.1])).2.1 ?_
        rcases List.mem_cons.1 hm with e | hm
        · exact .inl e
        · exact .inr ⟨2, by omega, .inl hm⟩
      · refine X200.trans' ch.ext fun b hb => ?_
        rcases List.mem_cons.1 hb with rfl | hb
        · exact .inl (by rw [hG0]; simp)
        · rcases f180 b hb with h1 | h1
          · exact .inl (by rw [hG0]; simp [h1])
          · exact .inr h1
      · rcases ch.grow b hb with h1 | h1
        · exact f180 b h1
        · exact .inr (by have := X200.size; omega)
    · rintro t _ w218 ⟨rfl, h218⟩
      refine sel_false rfl ?_
      rw [hup2]
      exact ⟨⟨j + 1, rfl, by omega, h218⟩, by simp only [Int.toNat_natCast]; omega⟩
  rintro _ w221 ⟨es', a', c', d221, b221, l221, X221, f221⟩
  have r221 := d221.blk hbase rbL
  have dd : Dy K w0 L0 L w221 es' a' c' := d221.fewer (fun b hb => by simp [hb]) d.sub
  refine ptr_in ⟨_, r221.cell (i := 0) rfl, sel_intro (fun h1 => ?_) (fun h1 => ?_)⟩
  · have h1 : r = 1 := by
      have : (r : Int) = 1 := eq_of_beq h1
      omega
    refine ⟨_, b221.cell (i := 0) rfl, ptr_in ⟨_, d221.fx.e.cell (i := 0) rfl, sel_dec (fun hge => ⟨l221, k2 G0 w221 es' a' c' l221 hGlt X221 dd b221 h1 hge⟩) (fun hlt => ⟨l221, k1 G0 w221 es' a' c' l221 hGlt X221 dd b221 fun _ => by omega⟩)⟩⟩
  · exact ⟨l221, k1 G0 w221 es' a' c' l221 hGlt X221 dd b221 fun h => by subst h; simp at h1⟩
end Go.Proofs.Ytjlkdadafddodaa
namespace Go.Proofs.Ytjlkdadafddodaa
open Go Go.V Go.B

set_option maxRecDepth 8000 in
set_option maxHeartbeats 4000000 in
theorem body2 {K : WK} (pk : PK K) {wz w1 Wy : World} {bk l p bw : Nat} {Rc : Loop} {ps rest : List Rw} {y : Rw} (hsp : K.rs = ps ++ y :: rest) (fx : Fx K wz) (hF : ∀ b ∈ K.F, b < wz.heap.size) (nF : bk ∉ K.F ∧ l ∉ K.F) (lbk : l ≠ bk) (g1 : Ext [bk, l] wz w1) (hbk : BlkT w1 bk [.int .i64 (ps.length : Int)] 3) (ll : l < wz.heap.size)
    (hWy : Ext [] w1 Wy) (hp : w1.heap.size ≤ p) (hbw : w1.heap.size ≤ bw) (sy : SetAt Wy p bw y.S) (hS : LoopSt Wy l Rc .ready none) {R' : Ending → World → Prop}
    (k1 : ∀ G w2, LoopSt w2 l Rc .busy none → (∀ b ∈ G, b < w1.heap.size ∨ b = p ∨ b = bw) → Ext G Wy w2 → Ext [bk, l] wz w2 → BlkT w2 bk [.int .i64 ((ps.length + 1 : Nat) : Int)] 3 → R' (.returned (.bool true)) (setLoop w2 l Rc .ready none)) :
    (∀ w301, w301 = (World.alloc Wy (.cells #[(Value.int .i64 0)] 3)) →
  ∃ w302, Sem.run Try.prog (Instr.storeAt 3 (Value.pointer (some ⟨Array.size (World.heap Wy), 0, none⟩)) (Value.int .i64 y.n)) w301 = .ok () w302 ∧
  V.LoopSt w302 l Rc .ready none ∧
  ∃ J303 : World → Prop, (∃ J304 : Bool → World → Prop, (∃ n305, World.cell? (V.setLoop w302 l Rc .busy none) ⟨bk, 0, none⟩ = some (Value.int .i64 n305) ∧
  ∃ A306, ∃ A306l, ∃ A306c, World.cell? (V.setLoop w302 l Rc .busy none) ⟨K.bN, 0, none⟩ = some (Value.slice A306 A306l A306c) ∧
  V.sel (decide (n305 ≥ ((A306l : Nat) : Int)))
  (J304 true (World.drew (V.setLoop w302 l Rc .busy none)))
  (∃ n307, World.cell? (V.setLoop w302 l Rc .busy none) ⟨Array.size (World.heap Wy), 0, none⟩ = some (Value.int .i64 n307) ∧
  ∃ A308, ∃ A308l, ∃ A308c, World.cell? (V.setLoop w302 l Rc .busy none) ⟨K.bN, 0, none⟩ = some (Value.slice A308 A308l A308c) ∧
  ∃ n309, World.cell? (V.setLoop w302 l Rc .busy none) ⟨bk, 0, none⟩ = some (Value.int .i64 n309) ∧
  V.when (decide ((0 : Int) ≤ n309 ∧ (n309 : Int) < ((A308l : Nat) : Int))) (V.ptr A308 fun a310 =>
  ∃ n311, World.cell? (V.setLoop w302 l Rc .busy none) (Addr.add a310 ((Int.toNat n309) * 1)) = some (Value.int .i64 n311) ∧
  J304 (n307 != n311) (World.drew (V.setLoop w302 l Rc .busy none))))) ∧
  ∀ t191_312 (j313 : Nat → Value) (w314 : World), J304 t191_312 w314 →
  V.sel t191_312
  (∃ w315, Sem.run Try.prog (Instr.storeAt 4 (Value.pointer (some ⟨K.bR, 0, none⟩)) (Value.bool false)) w314 = .ok () w315 ∧
  V.LoopSt w315 l Rc .busy none ∧ R' (Ending.returned (Value.bool false)) (V.setLoop w315 l Rc .done (some Code.ret)))
  (J303  w314)) ∧
  ∀ (j316 : Nat → Value) (w317 : World), J303  w317 →
  ∀ w318, w318 = (World.alloc w317 (.cells #[(Value.int .i64 0)] 3)) →
  ∃ w319, Sem.run Try.prog (Instr.storeAt 3 (Value.pointer (some ⟨Array.size (World.heap w317), 0, none⟩)) (Value.int .i64 0)) w318 = .ok () w319 ∧
  V.ptr (some (⟨K.wb, 0, none⟩ : Addr)) fun a320 =>
  ∃ f321, ∃ f321a, ∃ f321c, World.cell? w319 a320 = some (Value.func (.func f321) f321a f321c) ∧
  V.when (V.hasB Try.prog f321 && true) ((∃ r0, (World.heap w319)[l]? = some (.loop r0)) ∧
  ∀ (Rc322 : Loop) (l323 : Nat) (w324 : World), l323 = Array.size (World.heap w319) → w324 = World.alloc w319 (.loop { Rc322 with state := .ready, pending := none }) →
  (∀ y193_327 y194_328 (W325 : World) (R326 : Ending → World → Prop), V.LoopSt W325 l323 Rc322 .ready none →
  (V.LoopSt W325 l323 Rc322 .ready none ∧
  ∃ J329 : World → Prop, (∃ J330 : Bool → World → Prop, (∃ n331, World.cell? (V.setLoop W325 l323 Rc322 .busy none) ⟨Array.size (World.heap w317), 0, none⟩ = some (Value.int .i64 n331) ∧
  ∃ A332, ∃ A332l, ∃ A332c, World.cell? (V.setLoop W325 l323 Rc322 .busy none) ⟨K.bN, 0, none⟩ = some (Value.slice A332 A332l A332c) ∧
  V.sel (decide (n331 ≥ ((A332l : Nat) : Int)))
  (J330 true (V.setLoop W325 l323 Rc322 .busy none))
  (∃ A333, ∃ A333l, ∃ A333c, World.cell? (V.setLoop W325 l323 Rc322 .busy none) ⟨K.bN, 0, none⟩ = some (Value.slice A333 A333l A333c) ∧
  ∃ n334, World.cell? (V.setLoop W325 l323 Rc322 .busy none) ⟨Array.size (World.heap w317), 0, none⟩ = some (Value.int .i64 n334) ∧
  V.when (decide ((0 : Int) ≤ n334 ∧ (n334 : Int) < ((A333l : Nat) : Int))) (V.ptr A333 fun a335 =>
  ∃ n336, World.cell? (V.setLoop W325 l323 Rc322 .busy none) (Addr.add a335 ((Int.toNat n334) * 1)) = some (Value.int .i64 n336) ∧
  J330 (y193_327 != n336) (V.setLoop W325 l323 Rc322 .busy none)))) ∧
  ∀ t206_337 (j338 : Nat → Value) (w339 : World), J330 t206_337 w339 →
  V.sel t206_337
  (∃ w340, Sem.run Try.prog (Instr.storeAt 4 (Value.pointer (some ⟨K.bR, 0, none⟩)) (Value.bool false)) w339 = .ok () w340 ∧
  V.LoopSt w340 l323 Rc322 .busy none ∧ R326 (Ending.returned (Value.bool false)) (V.setLoop w340 l323 Rc322 .done (some Code.ret)))
  (J329  w339)) ∧
  ∀ (j341 : Nat → Value) (w342 : World), J329  w342 →
  ∃ J343 : World → Prop, (∃ J344 : Bool → World → Prop, (∃ n345, World.cell? w342 ⟨Array.size (World.heap w317), 0, none⟩ = some (Value.int .i64 n345) ∧
  ∃ n346, World.cell? w342 ⟨bk, 0, none⟩ = some (Value.int .i64 n346) ∧
  V.sel (n345 == n346)
  (∃ n347, ∃ A348, ∃ A348l, ∃ A348c, V.cellsC (fun a_ x_ => World.cell? w342 a_ = some x_) ⟨K.bT, 0, none⟩ [(Value.int .i64 n347), (Value.slice A348 A348l A348c)] ∧
  V.ptr (some (⟨K.kb, 0, none⟩ : Addr)) fun a349 =>
  ∃ s350, World.cell? w342 a349 = some (Value.string s350) ∧
  ∃ n351, World.cell? w342 ⟨Array.size (World.heap Wy), 0, none⟩ = some (Value.int .i64 n351) ∧
  ∃ n352, World.cell? w342 ⟨Array.size (World.heap Wy), 0, none⟩ = some (Value.int .i64 n352) ∧
  Calls Try.prog 29 #[(Value.agg #[(Value.int .i64 n347), (Value.slice A348 A348l A348c)]), (Value.string s350), (Value.int .i64 n351), (Value.int .i64 n352)] w342 fun e354 w355 =>
  ∃ A353, ∃ A353l, ∃ A353c, e354 = Ending.returned (Value.slice A353 A353l A353c) ∧
  Calls Try.prog 28 #[(Value.pointer y194_328), (Value.int .i64 200), (Value.slice A353 A353l A353c)] w355 fun e357 w358 =>
  ∃ b356, e357 = Ending.returned (Value.bool b356) ∧
  J344 (!b356) w358)
  (J344 false w342)) ∧
  ∀ t219_359 (j360 : Nat → Value) (w361 : World), J344 t219_359 w361 →
  V.sel t219_359
  (∃ w362, Sem.run Try.prog (Instr.storeAt 4 (Value.pointer (some ⟨K.bR, 0, none⟩)) (Value.bool false)) w361 = .ok () w362 ∧
  V.LoopSt w362 l323 Rc322 .busy none ∧ R326 (Ending.returned (Value.bool false)) (V.setLoop w362 l323 Rc322 .done (some Code.ret)))
  (J343  w361)) ∧
  ∀ (j363 : Nat → Value) (w364 : World), J343  w364 →
  Calls Try.prog 32 #[(Value.pointer y194_328)] w364 fun e366 w367 =>
  ∃ p365, e366 = Ending.returned (Value.pointer p365) ∧
  Calls Try.prog 31 #[(Value.pointer y194_328), (Value.pointer p365)] w367 fun e368 w369 =>
  e368 = Ending.returned undef ∧
  ∃ n370, World.cell? w369 ⟨Array.size (World.heap w317), 0, none⟩ = some (Value.int .i64 n370) ∧
  ∃ w371, Sem.run Try.prog (Instr.storeAt 3 (Value.pointer (some ⟨Array.size (World.heap w317), 0, none⟩)) (Value.int .i64 (IntKind.wrap .i64 (n370 + 1)))) w369 = .ok () w371 ∧
  ∃ n372, World.cell? w371 ⟨Array.size (World.heap w317), 0, none⟩ = some (Value.int .i64 n372) ∧
  ∃ n373, World.cell? w371 ⟨bk, 0, none⟩ = some (Value.int .i64 n373) ∧
  V.sel (decide (n372 > n373))
  (V.LoopSt w371 l323 Rc322 .busy none ∧ R326 (Ending.returned (Value.bool false)) (V.setLoop w371 l323 Rc322 .done (some (Code.exit 10))))
  (V.LoopSt w371 l323 Rc322 .busy none ∧ R326 (Ending.returned (Value.bool true)) (V.setLoop w371 l323 Rc322 .ready none))) →
  V.Yield Try.prog l323 [(Value.int .i64 y193_327), (Value.pointer y194_328)] W325 R326) →
  Calls Try.prog f321 ⟨Array.toList f321a ++ [(Value.func (.yield l323) #[] #[])] ++ Array.toList f321c⟩ w324 fun e374 w376 => (∃ v375, e374 = Ending.returned v375) ∧
  ((V.LoopSt w376 l323 Rc322 .ready none ∧
  ∃ n377, ∃ A378, ∃ A378l, ∃ A378c, V.cellsC (fun a_ x_ => World.cell? (V.setLoop w376 l323 Rc322 .exhausted none) a_ = some x_) ⟨K.bT, 0, none⟩ [(Value.int .i64 n377), (Value.slice A378 A378l A378c)] ∧
  V.ptr (some (⟨K.kb, 0, none⟩ : Addr)) fun a379 =>
  ∃ s380, World.cell? (V.setLoop w376 l323 Rc322 .exhausted none) a379 = some (Value.string s380) ∧
  ∃ n381, World.cell? (V.setLoop w376 l323 Rc322 .exhausted none) ⟨Array.size (World.heap Wy), 0, none⟩ = some (Value.int .i64 n381) ∧
  ∃ n382, World.cell? (V.setLoop w376 l323 Rc322 .exhausted none) ⟨Array.size (World.heap Wy), 0, none⟩ = some (Value.int .i64 n382) ∧
  Calls Try.prog 29 #[(Value.agg #[(Value.int .i64 n377), (Value.slice A378 A378l A378c)]), (Value.string s380), (Value.int .i64 n381), (Value.int .i64 n382)] (V.setLoop w376 l323 Rc322 .exhausted none) fun e384 w385 =>
  ∃ A383, ∃ A383l, ∃ A383c, e384 = Ending.returned (Value.slice A383 A383l A383c) ∧
  Calls Try.prog 28 #[(Value.pointer (some (⟨p, 0, none⟩ : Addr))), (Value.int .i64 200), (Value.slice A383 A383l A383c)] w385 fun e387 w388 =>
  ∃ b386, e387 = Ending.returned (Value.bool b386) ∧
  V.sel (!b386)
  (∃ w389, Sem.run Try.prog (Instr.storeAt 4 (Value.pointer (some ⟨K.bR, 0, none⟩)) (Value.bool false)) w388 = .ok () w389 ∧
  V.LoopSt w389 l Rc .busy none ∧ R' (Ending.returned (Value.bool false)) (V.setLoop w389 l Rc .done (some Code.ret)))
  (∃ n390, World.cell? w388 ⟨bk, 0, none⟩ = some (Value.int .i64 n390) ∧
  ∃ w391, Sem.run Try.prog (Instr.storeAt 3 (Value.pointer (some ⟨bk, 0, none⟩)) (Value.int .i64 (IntKind.wrap .i64 (n390 + 1)))) w388 = .ok () w391 ∧
  V.LoopSt w391 l Rc .busy none ∧ R' (Ending.returned (Value.bool true)) (V.setLoop w391 l Rc .ready none))) ∨
  (V.LoopSt w376 l323 Rc322 .done (some Code.ret) ∧
  V.LoopSt (V.setLoop w376 l323 Rc322 .exhausted (some Code.ret)) l Rc .busy none ∧ R' (Ending.returned (Value.bool false)) (V.setLoop (V.setLoop w376 l323 Rc322 .exhausted (some Code.ret)) l Rc .done (some Code.ret))) ∨
  (V.LoopSt w376 l323 Rc322 .done (some (Code.exit 10)) ∧
  ∃ n392, ∃ A393, ∃ A393l, ∃ A393c, V.cellsC (fun a_ x_ => World.cell? (V.setLoop w376 l323 Rc322 .exhausted (some (Code.exit 10))) a_ = some x_) ⟨K.bT, 0, none⟩ [(Value.int .i64 n392), (Value.slice A393 A393l A393c)] ∧
  V.ptr (some (⟨K.kb, 0, none⟩ : Addr)) fun a394 =>
  ∃ s395, World.cell? (V.setLoop w376 l323 Rc322 .exhausted (some (Code.exit 10))) a394 = some (Value.string s395) ∧
  ∃ n396, World.cell? (V.setLoop w376 l323 Rc322 .exhausted (some (Code.exit 10))) ⟨Array.size (World.heap Wy), 0, none⟩ = some (Value.int .i64 n396) ∧
  ∃ n397, World.cell? (V.setLoop w376 l323 Rc322 .exhausted (some (Code.exit 10))) ⟨Array.size (World.heap Wy), 0, none⟩ = some (Value.int .i64 n397) ∧
  Calls Try.prog 29 #[(Value.agg #[(Value.int .i64 n392), (Value.slice A393 A393l A393c)]), (Value.string s395), (Value.int .i64 n396), (Value.int .i64 n397)] (V.setLoop w376 l323 Rc322 .exhausted (some (Code.exit 10))) fun e399 w400 =>
  ∃ A398, ∃ A398l, ∃ A398c, e399 = Ending.returned (Value.slice A398 A398l A398c) ∧
  Calls Try.prog 28 #[(Value.pointer (some (⟨p, 0, none⟩ : Addr))), (Value.int .i64 200), (Value.slice A398 A398l A398c)] w400 fun e402 w403 =>
  ∃ b401, e402 = Ending.returned (Value.bool b401) ∧
  V.sel (!b401)
  (∃ w404, Sem.run Try.prog (Instr.storeAt 4 (Value.pointer (some ⟨K.bR, 0, none⟩)) (Value.bool false)) w403 = .ok () w404 ∧
  V.LoopSt w404 l Rc .busy none ∧ R' (Ending.returned (Value.bool false)) (V.setLoop w404 l Rc .done (some Code.ret)))
  (∃ n405, World.cell? w403 ⟨bk, 0, none⟩ = some (Value.int .i64 n405) ∧
  ∃ w406, Sem.run Try.prog (Instr.storeAt 3 (Value.pointer (some ⟨bk, 0, none⟩)) (Value.int .i64 (IntKind.wrap .i64 (n405 + 1)))) w403 = .ok () w406 ∧
  V.LoopSt w406 l Rc .busy none ∧ R' (Ending.returned (Value.bool true)) (V.setLoop w406 l Rc .ready none))) ∨
  False))) := by
  have hyr : y ∈ K.rs := by rw [hsp]; simp
  have hnu := num_at pk.nums hsp
  have hps : ps.length < K.nm := by have := (List.getElem?_eq_some_iff.1 hnu).1; rw [pk.nm] at this; exact this
  have nms := pk.nms
  have bkl := hbk.lt
  have zy := hWy.size
  have z1 := g1.size
  have hpl := sy.hdr.lt
  have hbl := sy.wrd.lt
  intro w301 h301
  obtain ⟨b301, x301, z301⟩ := box_new (cs := [.int .i64 0]) h301
  obtain ⟨w302, hr302, b302, x302⟩ := store1 (P := Try.prog) (v := .int .i64 y.n) i3s' b301 (i := 0) (by simp) rfl rfl
  have b302 : BlkT w302 Wy.heap.size [.int .i64 y.n] 3 := by simpa using b302
  have e302 : Ext [] Wy w302 := x301.trans' x302 (fun b hb => .inr (by simp at hb; omega))
  have z302 := x302.size
  have l302 := LoopSt.ext hS e302 (by simp)
  refine ⟨w302, hr302, l302, ?_⟩
  have exb := setLoop_ext w302 l Rc .busy none
  have hbusy : LoopSt (setLoop w302 l Rc .busy none) l Rc .busy none := setLoop_st _ _ (LoopSt.lt l302)
  have gW : Ext [bk, l] wz (setLoop w302 l Rc .busy none) := ((g1.then hWy).then e302).trans' exb (fun b hb => .inl (by simp at hb; simp [hb]))
  have kW := ((hbk.ext0 hWy).ext0 e302).ext exb (by simp; omega)
  have nW := b302.ext exb (by simp; omega)
  have sW := (sy.ext0 e302).ext exb (by simp; omega) (by simp; omega)
  have zW : (setLoop w302 l Rc .busy none).heap.size = w302.heap.size := setLoop_size _ _ _ _ _
  generalize setLoop w302 l Rc .busy none = Wb at hbusy gW kW nW sW zW exb ⊢
  have fxE : ∀ w', Ext [bk, l] wz w' → Fx K w' := fun w' e => fx.ext e fun b hb hm => by
    simp at hm
    rcases hm with rfl | rfl
    · exact nF.1 hb
    · exact nF.2 hb
  have fW := fxE Wb gW
  obtain ⟨ad, hB, hcell⟩ := il_cell fW.c hnu
  refine ⟨fun w' => Ext [] Wb w', ⟨fun t w' => t = false ∧ Ext [] Wb w', ⟨_, kW.cell (i := 0) rfl, _, _, _, fW.n.cell (i := 0) rfl, sel_dec (fun hge => by omega) (fun _ => ⟨_, nW.cell (i := 0) rfl, _, _, _, fW.n.cell (i := 0) rfl, _, kW.cell (i := 0) rfl, when_dec ⟨by omega, by omega⟩ ?_⟩)⟩, ?_⟩, ?_⟩
  · rw [hB]
    exact ptr_in ⟨y.n, hcell, by simp, (Ext.refl _ _).drew⟩
  · rintro t _ w314 ⟨rfl, e314⟩
    exact sel_false rfl e314
  rintro _ w317 e317 w318 h318
  obtain ⟨b318, x318, z318⟩ := box_new (cs := [.int .i64 0]) h318
  obtain ⟨w319, hr319, b319, x319⟩ := store1 (P := Try.prog) (v := .int .i64 0) i3s' b318 (i := 0) (by simp) rfl rfl
  have b319 : BlkT w319 w317.heap.size [.int .i64 0] 3 := by simpa using b319
  have e319 : Ext [] Wb w319 := (e317.trans x318).trans' x319 (fun b hb => .inr (by have := e317.size; simp at hb; omega))
  have z317 := e317.size
  have z319 := x319.size
  have l319 := LoopSt.ext hbusy e319 (by simp)
  have g319 := gW.then e319
  refine ⟨w319, hr319, ptr_in ⟨_, _, _, (fxE w319 g319).f.cell (i := 0) rfl, V.when_intro (by kernel_rfl) ⟨⟨_, l319⟩, fun Rc2 l2 w324 hl2 h324 hy => ?_⟩⟩⟩
  obtain ⟨l0, x324, z324⟩ := inner_new hl2 h324
  obtain ⟨ib, hib⟩ : ∃ ib, w317.heap.size = ib := ⟨_, rfl⟩
  rw [hib] at b319 hy
  have g324 := g319.then x324
  have e324 := e319.trans x324
  have b324 := b319.ext0 x324
  have k324 := kW.ext0 e324
  have n324 := nW.ext0 e324
  have s324 := sW.ext0 e324
  have f324 := fxE w324 g324
  have lb324 := LoopSt.ext l319 x324 (by simp)
  have bk319 : bk < Wb.heap.size := kW.lt
  have lW : l < Wb.heap.size := LoopSt.lt hbusy
  have nib : ∀ b, b < Wb.heap.size → b ∉ [ib, l2] := fun b hb => by simp; omega
  have fF : ∀ b ∈ K.F, b < Wb.heap.size := fun b hb => by have := hF b hb; have := gW.size; omega
  have fI : ∀ w', Ext [ib, l2] w324 w' → Fx K w' := fun w' e => f324.ext e fun b hb => nib b (fF b hb)
  have hrl : K.rs.length = K.nm := by rw [← pk.nm, ← pk.nums, List.length_map]
  have nbl : Wy.heap.size < Wb.heap.size := nW.lt
  have tail : ∀ We, Ext [ib, l2] w324 We → (∃ n377, ∃ A378, ∃ A378l, ∃ A378c, V.cellsC (fun a_ x_ => World.cell? (We) a_ = some x_) ⟨K.bT, 0, none⟩ [(Value.int .i64 n377), (Value.slice A378 A378l A378c)] ∧
  V.ptr (some (⟨K.kb, 0, none⟩ : Addr)) fun a379 =>
  ∃ s380, World.cell? (We) a379 = some (Value.string s380) ∧
  ∃ n381, World.cell? (We) ⟨Array.size (World.heap Wy), 0, none⟩ = some (Value.int .i64 n381) ∧
  ∃ n382, World.cell? (We) ⟨Array.size (World.heap Wy), 0, none⟩ = some (Value.int .i64 n382) ∧
  Calls Try.prog 29 #[(Value.agg #[(Value.int .i64 n377), (Value.slice A378 A378l A378c)]), (Value.string s380), (Value.int .i64 n381), (Value.int .i64 n382)] (We) fun e384 w385 =>
  ∃ A383, ∃ A383l, ∃ A383c, e384 = Ending.returned (Value.slice A383 A383l A383c) ∧
  Calls Try.prog 28 #[(Value.pointer (some (⟨p, 0, none⟩ : Addr))), (Value.int .i64 200), (Value.slice A383 A383l A383c)] w385 fun e387 w388 =>
  ∃ b386, e387 = Ending.returned (Value.bool b386) ∧
  V.sel (!b386)
  (∃ w389, Sem.run Try.prog (Instr.storeAt 4 (Value.pointer (some ⟨K.bR, 0, none⟩)) (Value.bool false)) w388 = .ok () w389 ∧
  V.LoopSt w389 l Rc .busy none ∧ R' (Ending.returned (Value.bool false)) (V.setLoop w389 l Rc .done (some Code.ret)))
  (∃ n390, World.cell? w388 ⟨bk, 0, none⟩ = some (Value.int .i64 n390) ∧
  ∃ w391, Sem.run Try.prog (Instr.storeAt 3 (Value.pointer (some ⟨bk, 0, none⟩)) (Value.int .i64 (IntKind.wrap .i64 (n390 + 1)))) w388 = .ok () w391 ∧
  V.LoopSt w391 l Rc .busy none ∧ R' (Ending.returned (Value.bool true)) (V.setLoop w391 l Rc .ready none))) := by
    intro We gE
    have fE := fI We gE
    have nE := n324.ext gE (nib _ nbl)
    have sE := s324.ext gE (nib _ (by omega)) (nib _ (by omega))
    have kE := k324.ext gE (nib _ bk319)
    have zE := gE.size
    refine ⟨_, _, _, _, cadd0 fE.t, ptr_in ⟨_, fE.k.cell (i := 0) rfl, _, nE.cell (i := 0) rfl, _, nE.cell (i := 0) rfl, DocBetween_c fE.d pk.dl K.key y.n y.n fun B2 n2 c2 ys w385 e385 own hr hm => ⟨_, _, _, rfl, ?_⟩⟩⟩
    have hmi := pk.set y hyr sE.ok ys hr hm
    refine isSet_c (sE.ext0 e385) hmi.2 hmi.1 (il_ints own.cells own.len) fun w388 e388 => ⟨_, rfl, sel_false rfl ?_⟩
    have e8 := e385.trans e388
    have k388 := kE.ext0 e8
    obtain ⟨w391, hr391, b391, x391⟩ := store1 (P := Try.prog) (v := .int .i64 ((ps.length + 1 : Nat) : Int)) i3s' k388 (i := 0) (by simp) rfl rfl
    have b391 : BlkT w391 bk [.int .i64 ((ps.length + 1 : Nat) : Int)] 3 := by simpa using b391
    have hup : IntKind.wrap .i64 ((ps.length : Int) + 1) = ((ps.length + 1 : Nat) : Int) := up64 ps.length (by omega)
    have l391 : LoopSt w391 l Rc .busy none := LoopSt.ext (LoopSt.ext (LoopSt.ext lb324 gE (nib _ lW)) e8 (by simp)) x391 (by simp; exact lbk)
    have gIn : ∀ {B : Nat} (_ : B ≤ Wb.heap.size) (b : Nat), b ∈ [ib, l2] → B ≤ b := fun hB b hb => by simp at hb; rcases hb with rfl | rfl <;> omega
    have X : Ext [bk, l] Wy w391 := by
      have e1 : Ext [bk, l] Wy Wb := e302.up.trans' exb (fun b hb => .inl (by simp at hb; simp [hb]))
      have e2 := (e1.then e324).trans' gE (fun b hb => .inr (gIn (by omega) b hb))
      exact (e2.then e8).trans' x391 (fun b hb => .inl (by simp at hb; simp [hb]))
    have g391 : Ext [bk, l] wz w391 := by
      have e2 := g324.trans' gE (fun b hb => .inr (gIn (by have := gW.size; omega) b hb))
      exact (e2.then e8).trans' x391 (fun b hb => .inl (by simp at hb; simp [hb]))
    refine ⟨_, k388.cell (i := 0) rfl, w391, by rw [hup]; exact hr391, l391, k1 [bk, l] w391 l391 (fun b hb => ?_) X g391 b391⟩
    simp at hb
    rcases hb with rfl | rfl
    · exact .inl bkl
    · exact .inl (by omega)
  refine (Rows_iter (b0 := K.b0) (A := K.RA) (c := K.rc) (rs := K.rs) (by omega)).range (I := fun qs w' => Ext [ib, l2] w324 w' ∧ BlkT w' ib [.int .i64 (qs.length : Int)] 3 ∧ qs.length ≤ ps.length) (Q := fun p' w' => p' = .exit 10 ∧ Ext [ib, l2] w324 w')
    (fun nn p W' R' g1 g2 => hy nn p W' R' g1 g2) l0 ⟨Ext.refl _ _, b324, by simp⟩ ?_ ?_ ?_ ?_ ?_ ?_
  · rintro qs v1 v2 e ⟨q1, q2, q3⟩
    exact ⟨q1.trans' e (fun b hb => .inl (by simp at hb; simp [hb])), q2.ext e (by simp; omega), q3⟩
  · rintro q v1 v2 e ⟨q0, q1⟩
    exact ⟨q0, q1.trans' e (fun b hb => .inl (by simp at hb; simp [hb]))⟩
  · rintro qs v1 ⟨q1, _, _⟩
    exact (fI v1 q1).rows
  · rintro qs y2 rest2 v1 Vy p2 bw2 R2 hsp2 ⟨q1, q2, q3⟩ hl1 hVy hp2 hbw2 sy2 hS2 j1 j2
    have hnu2 := num_at pk.nums hsp2
    have ex2 := setLoop_ext Vy l2 Rc2 .busy none
    have hbusy2 : LoopSt (setLoop Vy l2 Rc2 .busy none) l2 Rc2 .busy none := setLoop_st _ _ (LoopSt.lt hS2)
    have gV : Ext [ib, l2] w324 (setLoop Vy l2 Rc2 .busy none) := (q1.then hVy).trans' ex2 (fun b hb => .inl (by simp at hb; simp [hb]))
    have iV := (q2.ext0 hVy).ext ex2 (by simp; omega)
    have sV := sy2.ext ex2 (by have := q1.size; simp; omega) (by have := q1.size; simp; omega)
    have zV : (setLoop Vy l2 Rc2 .busy none).heap.size = Vy.heap.size := setLoop_size _ _ _ _ _
    generalize setLoop Vy l2 Rc2 .busy none = Vb at hbusy2 gV iV sV zV ex2 ⊢
    have fV := fI Vb gV
    have kV := k324.ext gV (nib _ bk319)
    have nV := n324.ext gV (nib _ nbl)
    have zv1 := q1.size
    have zvy := hVy.size
    have pl2 := sy2.hdr.lt
    have bl2 := sy2.wrd.lt
    have ibl := q2.lt
    have l2l : l2 < v1.heap.size := hl1
    obtain ⟨ad2, hB2, hcell2⟩ := il_cell fV.c hnu2
    have hnm2 : qs.length < K.nm := by have := (List.getElem?_eq_some_iff.1 hnu2).1; rw [pk.nm] at this; exact this
    refine ⟨hS2, fun w' => Ext [] Vb w', ⟨fun t w' => t = false ∧ Ext [] Vb w', ⟨_, iV.cell (i := 0) rfl, _, _, _, fV.n.cell (i := 0) rfl, sel_dec (fun hge => by omega) (fun _ => ⟨_, _, _, fV.n.cell (i := 0) rfl, _, iV.cell (i := 0) rfl, when_dec ⟨by omega, by omega⟩ ?_⟩)⟩, ?_⟩, ?_⟩
    · rw [hB2]
      exact ptr_in ⟨y2.n, hcell2, by simp, Ext.refl _ _⟩
    · rintro t _ w339 ⟨rfl, e339⟩
      exact sel_false rfl e339
    rintro _ w342 e342
    have fV2 := fV.ext e342 (by simp)
    refine ⟨fun w' => Ext [] Vb w', ⟨fun t w' => t = false ∧ Ext [] Vb w', ⟨_, (iV.ext0 e342).cell (i := 0) rfl, _, (kV.ext0 e342).cell (i := 0) rfl, sel_intro (fun heq => ?_) (fun _ => ⟨rfl, e342⟩)⟩, ?_⟩, ?_⟩
    · have heq : qs.length = ps.length := by
        have : (qs.length : Int) = (ps.length : Int) := eq_of_beq heq
        omega
      have ey : y2 = y := by
        have h1 : K.rs[ps.length]? = some y := by rw [hsp]; simp
        have h2 : K.rs[qs.length]? = some y2 := by rw [hsp2]; simp
        rw [heq, h1] at h2
        exact (Option.some.inj h2).symm
      refine ⟨_, _, _, _, cadd0 fV2.t, ptr_in ⟨_, fV2.k.cell (i := 0) rfl, _, (nV.ext0 e342).cell (i := 0) rfl, _, (nV.ext0 e342).cell (i := 0) rfl, DocBetween_c fV2.d pk.dl K.key y.n y.n fun B2 n2 c2 ys w355 e355 own hr hm => ⟨_, _, _, rfl, ?_⟩⟩⟩
      have hmi := pk.set y hyr (by rw [← ey]; exact sV.ok) ys hr hm
      rw [← ey] at hmi
      exact isSet_c ((sV.ext0 e342).ext0 e355) hmi.2 hmi.1 (il_ints own.cells own.len) fun w358 e358 => ⟨_, rfl, rfl, (e342.trans e355).trans e358⟩
    · rintro t _ w361 ⟨rfl, e361⟩
      exact sel_false rfl e361
    rintro _ w364 e364
    have z364 := e364.size
    refine Clone_c (sV.ext0 e364).ref fun p3 bw3 w367 e367 hp3 hbw3 s367 => ⟨_, rfl, AndNotWith_c ((sV.ext0 e364).ext0 e367) s367.ok (Rd.other s367.ref (by simp; omega)) fun w369 C x369 s369 _ _ => ⟨rfl, ?_⟩⟩
    have z367 := e367.size
    have e7 := e364.trans e367
    have nbw : ∀ b, b < v1.heap.size → b ∉ [bw2] := fun b hb => by simp; omega
    have i369 := (iV.ext0 e7).ext x369 (nbw _ ibl)
    have k369 := (kV.ext0 e7).ext x369 (nbw _ (by omega))
    obtain ⟨w371, hr371, b371, x371⟩ := store1 (P := Try.prog) (v := .int .i64 ((qs.length + 1 : Nat) : Int)) i3s' i369 (i := 0) (by simp) rfl rfl
    have b371 : BlkT w371 ib [.int .i64 ((qs.length + 1 : Nat) : Int)] 3 := by simpa using b371
    have hup : IntKind.wrap .i64 ((qs.length : Int) + 1) = ((qs.length + 1 : Nat) : Int) := up64 qs.length (by omega)
    have k371 := k369.ext x371 (by simp; omega)
    have l371 : LoopSt w371 l2 Rc2 .busy none := LoopSt.ext (LoopSt.ext (LoopSt.ext hbusy2 e7 (by simp)) x369 (nbw _ l2l)) x371 (by simp; omega)
    have gOut : Ext [ib, l2] w324 w371 := ((gV.then e7).trans' x369 (fun b hb => .inr (by simp at hb; omega))).trans' x371 (fun b hb => .inl (by simp at hb; simp [hb]))
    have X2 : Ext [ib, l2, bw2] Vy w371 := ((((ex2.weaken (G := [ib, l2, bw2]) (fun b hb => .inl (by simp at hb; simp [hb]))).then e7).trans' x369 (fun b hb => .inl (by simp at hb; simp [hb]))).trans' x371 (fun b hb => .inl (by simp at hb; simp [hb])))
    have hG : ∀ b ∈ [ib, l2, bw2], b < v1.heap.size ∨ b = p2 ∨ b = bw2 := fun b hb => by
      simp at hb
      rcases hb with rfl | rfl | rfl
      · exact .inl ibl
      · exact .inl l2l
      · exact .inr (.inr rfl)
    refine ⟨_, i369.cell (i := 0) rfl, w371, by rw [hup]; exact hr371, _, b371.cell (i := 0) rfl, _, k371.cell (i := 0) rfl, sel_dec (fun hgt => ⟨l371, j2 _ w371 _ l371 hG X2 ⟨rfl, gOut⟩⟩) (fun hle => ⟨l371, j1 _ w371 l371 hG X2 ⟨gOut, by rw [List.length_append]; exact b371, by rw [List.length_append]; simp; omega⟩⟩)⟩
  · rintro w376 hl376 ⟨q1, q2, q3⟩
    have xe := setLoop_ext w376 l2 Rc2 .exhausted none
    exact .inl ⟨hl376, tail _ (q1.trans' xe (fun b hb => .inl (by simp at hb; simp [hb])))⟩
  · rintro w376 q hl376 ⟨rfl, q1⟩
    have xe := setLoop_ext w376 l2 Rc2 .exhausted (some (Code.exit 10))
    exact .inr (.inr (.inl ⟨hl376, tail _ (q1.trans' xe (fun b hb => .inl (by simp at hb; simp [hb])))⟩))
end Go.Proofs.Ytjlkdadafddodaa
namespace Go.Proofs.Ytjlkdadafddodaa
open Go Go.V Go.B

theorem Dy.fxlt {K : WK} {w0 w : World} {L0 L : List Nat} {es : Nat → En} {a c : Nat} (d : Dy K w0 L0 L w es a c) (pk : PK K) : ∀ b ∈ K.F, b < w.heap.size := fun b hb => by have := pk.kf b hb; have := d.cnt.lt; omega
set_option maxRecDepth 8000 in
set_option maxHeartbeats 4000000 in
theorem last_c {K : WK} (pk : PK K) {w126 : World} {rb : Nat} {ds125 : List Nat} {es : Nat → En} {a c : Nat} (d : Dy K w126 [] (rb :: ds125) w126 es a c) (mk : ∀ x ∈ ds125, Mrk w126 x) (nd : ds125.Nodup) {R : Ending → World → Prop} (k : ∀ w', Ext [] K.W w' → R (.returned (.bool true)) w') :
    (∀ w290, w290 = (World.alloc w126 (.cells #[(Value.int .i64 0)] 3)) →
  ∃ w291, Sem.run Try.prog (Instr.storeAt 3 (Value.pointer (some ⟨Array.size (World.heap w126), 0, none⟩)) (Value.int .i64 0)) w290 = .ok () w291 ∧
  V.ptr (some (⟨K.wb, 0, none⟩ : Addr)) fun a292 =>
  ∃ f293, ∃ f293a, ∃ f293c, World.cell? w291 a292 = some (Value.func (.func f293) f293a f293c) ∧
  V.when (V.hasB Try.prog f293 && true) (∀ (Rc294 : Loop) (l295 : Nat) (w296 : World), l295 = Array.size (World.heap w291) + 1 → w296 = World.alloc (World.alloc w291 (.deferred (some []))) (.loop { Rc294 with state := .ready, pending := none }) →
  (∀ y178_299 y179_300 (W297 : World) (R298 : Ending → World → Prop), V.LoopSt W297 l295 Rc294 .ready none →
  (∀ w301, w301 = (World.alloc W297 (.cells #[(Value.int .i64 0)] 3)) →
  ∃ w302, Sem.run Try.prog (Instr.storeAt 3 (Value.pointer (some ⟨Array.size (World.heap W297), 0, none⟩)) (Value.int .i64 y178_299)) w301 = .ok () w302 ∧
  V.LoopSt w302 l295 Rc294 .ready none ∧
  ∃ J303 : World → Prop, (∃ J304 : Bool → World → Prop, (∃ n305, World.cell? (V.setLoop w302 l295 Rc294 .busy none) ⟨Array.size (World.heap w126), 0, none⟩ = some (Value.int .i64 n305) ∧
  ∃ A306, ∃ A306l, ∃ A306c, World.cell? (V.setLoop w302 l295 Rc294 .busy none) ⟨K.bN, 0, none⟩ = some (Value.slice A306 A306l A306c) ∧
  V.sel (decide (n305 ≥ ((A306l : Nat) : Int)))
  (J304 true (World.drew (V.setLoop w302 l295 Rc294 .busy none)))
  (∃ n307, World.cell? (V.setLoop w302 l295 Rc294 .busy none) ⟨Array.size (World.heap W297), 0, none⟩ = some (Value.int .i64 n307) ∧
  ∃ A308, ∃ A308l, ∃ A308c, World.cell? (V.setLoop w302 l295 Rc294 .busy none) ⟨K.bN, 0, none⟩ = some (Value.slice A308 A308l A308c) ∧
  ∃ n309, World.cell? (V.setLoop w302 l295 Rc294 .busy none) ⟨Array.size (World.heap w126), 0, none⟩ = some (Value.int .i64 n309) ∧
  V.when (decide ((0 : Int) ≤ n309 ∧ (n309 : Int) < ((A308l : Nat) : Int))) (V.ptr A308 fun a310 =>
  ∃ n311, World.cell? (V.setLoop w302 l295 Rc294 .busy none) (Addr.add a310 ((Int.toNat n309) * 1)) = some (Value.int .i64 n311) ∧
  J304 (n307 != n311) (World.drew (V.setLoop w302 l295 Rc294 .busy none))))) ∧
  ∀ t191_312 (j313 : Nat → Value) (w314 : World), J304 t191_312 w314 →
  V.sel t191_312
  (∃ w315, Sem.run Try.prog (Instr.storeAt 4 (Value.pointer (some ⟨K.bR, 0, none⟩)) (Value.bool false)) w314 = .ok () w315 ∧
  V.LoopSt w315 l295 Rc294 .busy none ∧ R298 (Ending.returned (Value.bool false)) (V.setLoop w315 l295 Rc294 .done (some Code.ret)))
  (J303  w314)) ∧
  ∀ (j316 : Nat → Value) (w317 : World), J303  w317 →
  ∀ w318, w318 = (World.alloc w317 (.cells #[(Value.int .i64 0)] 3)) →
  ∃ w319, Sem.run Try.prog (Instr.storeAt 3 (Value.pointer (some ⟨Array.size (World.heap w317), 0, none⟩)) (Value.int .i64 0)) w318 = .ok () w319 ∧
  V.ptr (some (⟨K.wb, 0, none⟩ : Addr)) fun a320 =>
  ∃ f321, ∃ f321a, ∃ f321c, World.cell? w319 a320 = some (Value.func (.func f321) f321a f321c) ∧
  V.when (V.hasB Try.prog f321 && true) ((∃ r0, (World.heap w319)[l295]? = some (.loop r0)) ∧
  ∀ (Rc322 : Loop) (l323 : Nat) (w324 : World), l323 = Array.size (World.heap w319) → w324 = World.alloc w319 (.loop { Rc322 with state := .ready, pending := none }) →
  (∀ y193_327 y194_328 (W325 : World) (R326 : Ending → World → Prop), V.LoopSt W325 l323 Rc322 .ready none →
  (V.LoopSt W325 l323 Rc322 .ready none ∧
  ∃ J329 : World → Prop, (∃ J330 : Bool → World → Prop, (∃ n331, World.cell? (V.setLoop W325 l323 Rc322 .busy none) ⟨Array.size (World.heap w317), 0, none⟩ = some (Value.int .i64 n331) ∧
  ∃ A332, ∃ A332l, ∃ A332c, World.cell? (V.setLoop W325 l323 Rc322 .busy none) ⟨K.bN, 0, none⟩ = some (Value.slice A332 A332l A332c) ∧
  V.sel (decide (n331 ≥ ((A332l : Nat) : Int)))
  (J330 true (V.setLoop W325 l323 Rc322 .busy none))
  (∃ A333, ∃ A333l, ∃ A333c, World.cell? (V.setLoop W325 l323 Rc322 .busy none) ⟨K.bN, 0, none⟩ = some (Value.slice A333 A333l A333c) ∧
  ∃ n334, World.cell? (V.setLoop W325 l323 Rc322 .busy none) ⟨Array.size (World.heap w317), 0, none⟩ = some (Value.int .i64 n334) ∧
  V.when (decide ((0 : Int) ≤ n334 ∧ (n334 : Int) < ((A333l : Nat) : Int))) (V.ptr A333 fun a335 =>
  ∃ n336, World.cell? (V.setLoop W325 l323 Rc322 .busy none) (Addr.add a335 ((Int.toNat n334) * 1)) = some (Value.int .i64 n336) ∧
  J330 (y193_327 != n336) (V.setLoop W325 l323 Rc322 .busy none)))) ∧
  ∀ t206_337 (j338 : Nat → Value) (w339 : World), J330 t206_337 w339 →
  V.sel t206_337
  (∃ w340, Sem.run Try.prog (Instr.storeAt 4 (Value.pointer (some ⟨K.bR, 0, none⟩)) (Value.bool false)) w339 = .ok () w340 ∧
  V.LoopSt w340 l323 Rc322 .busy none ∧ R326 (Ending.returned (Value.bool false)) (V.setLoop w340 l323 Rc322 .done (some Code.ret)))
  (J329  w339)) ∧
  ∀ (j341 : Nat → Value) (w342 : World), J329  w342 →
  ∃ J343 : World → Prop, (∃ J344 : Bool → World → Prop, (∃ n345, World.cell? w342 ⟨Array.size (World.heap w317), 0, none⟩ = some (Value.int .i64 n345) ∧
  ∃ n346, World.cell? w342 ⟨Array.size (World.heap w126), 0, none⟩ = some (Value.int .i64 n346) ∧
  V.sel (n345 == n346)
  (∃ n347, ∃ A348, ∃ A348l, ∃ A348c, V.cellsC (fun a_ x_ => World.cell? w342 a_ = some x_) ⟨K.bT, 0, none⟩ [(Value.int .i64 n347), (Value.slice A348 A348l A348c)] ∧
  V.ptr (some (⟨K.kb, 0, none⟩ : Addr)) fun a349 =>
  ∃ s350, World.cell? w342 a349 = some (Value.string s350) ∧
  ∃ n351, World.cell? w342 ⟨Array.size (World.heap W297), 0, none⟩ = some (Value.int .i64 n351) ∧
  ∃ n352, World.cell? w342 ⟨Array.size (World.heap W297), 0, none⟩ = some (Value.int .i64 n352) ∧
  Calls Try.prog 29 #[(Value.agg #[(Value.int .i64 n347), (Value.slice A348 A348l A348c)]), (Value.string s350), (Value.int .i64 n351), (Value.int .i64 n352)] w342 fun e354 w355 =>
  ∃ A353, ∃ A353l, ∃ A353c, e354 = Ending.returned (Value.slice A353 A353l A353c) ∧
  Calls Try.prog 28 #[(Value.pointer y194_328), (Value.int .i64 200), (Value.slice A353 A353l A353c)] w355 fun e357 w358 =>
  ∃ b356, e357 = Ending.returned (Value.bool b356) ∧
  J344 (!b356) w358)
  (J344 false w342)) ∧
  ∀ t219_359 (j360 : Nat → Value) (w361 : World), J344 t219_359 w361 →
  V.sel t219_359
  (∃ w362, Sem.run Try.prog (Instr.storeAt 4 (Value.pointer (some ⟨K.bR, 0, none⟩)) (Value.bool false)) w361 = .ok () w362 ∧
  V.LoopSt w362 l323 Rc322 .busy none ∧ R326 (Ending.returned (Value.bool false)) (V.setLoop w362 l323 Rc322 .done (some Code.ret)))
  (J343  w361)) ∧
  ∀ (j363 : Nat → Value) (w364 : World), J343  w364 →
  Calls Try.prog 32 #[(Value.pointer y194_328)] w364 fun e366 w367 =>
  ∃ p365, e366 = Ending.returned (Value.pointer p365) ∧
  Calls Try.prog 31 #[(Value.pointer y194_328), (Value.pointer p365)] w367 fun e368 w369 =>
  e368 = Ending.returned undef ∧
  ∃ n370, World.cell? w369 ⟨Array.size (World.heap w317), 0, none⟩ = some (Value.int .i64 n370) ∧
  ∃ w371, Sem.run Try.prog (Instr.storeAt 3 (Value.pointer (some ⟨Array.size (World.heap w317), 0, none⟩)) (Value.int .i64 (IntKind.wrap .i64 (n370 + 1)))) w369 = .ok () w371 ∧
  ∃ n372, World.cell? w371 ⟨Array.size (World.heap w317), 0, none⟩ = some (Value.int .i64 n372) ∧
  ∃ n373, World.cell? w371 ⟨Array.size (World.heap w126), 0, none⟩ = some (Value.int .i64 n373) ∧
  V.sel (decide (n372 > n373))
  (V.LoopSt w371 l323 Rc322 .busy none ∧ R326 (Ending.returned (Value.bool false)) (V.setLoop w371 l323 Rc322 .done (some (Code.exit 10))))
  (V.LoopSt w371 l323 Rc322 .busy none ∧ R326 (Ending.returned (Value.bool true)) (V.setLoop w371 l323 Rc322 .ready none))) →
  V.Yield Try.prog l323 [(Value.int .i64 y193_327), (Value.pointer y194_328)] W325 R326) →
  Calls Try.prog f321 ⟨Array.toList f321a ++ [(Value.func (.yield l323) #[] #[])] ++ Array.toList f321c⟩ w324 fun e374 w376 => (∃ v375, e374 = Ending.returned v375) ∧
  ((V.LoopSt w376 l323 Rc322 .ready none ∧
  ∃ n377, ∃ A378, ∃ A378l, ∃ A378c, V.cellsC (fun a_ x_ => World.cell? (V.setLoop w376 l323 Rc322 .exhausted none) a_ = some x_) ⟨K.bT, 0, none⟩ [(Value.int .i64 n377), (Value.slice A378 A378l A378c)] ∧
  V.ptr (some (⟨K.kb, 0, none⟩ : Addr)) fun a379 =>
  ∃ s380, World.cell? (V.setLoop w376 l323 Rc322 .exhausted none) a379 = some (Value.string s380) ∧
  ∃ n381, World.cell? (V.setLoop w376 l323 Rc322 .exhausted none) ⟨Array.size (World.heap W297), 0, none⟩ = some (Value.int .i64 n381) ∧
  ∃ n382, World.cell? (V.setLoop w376 l323 Rc322 .exhausted none) ⟨Array.size (World.heap W297), 0, none⟩ = some (Value.int .i64 n382) ∧
  Calls Try.prog 29 #[(Value.agg #[(Value.int .i64 n377), (Value.slice A378 A378l A378c)]), (Value.string s380), (Value.int .i64 n381), (Value.int .i64 n382)] (V.setLoop w376 l323 Rc322 .exhausted none) fun e384 w385 =>
  ∃ A383, ∃ A383l, ∃ A383c, e384 = Ending.returned (Value.slice A383 A383l A383c) ∧
  Calls Try.prog 28 #[(Value.pointer y179_300), (Value.int .i64 200), (Value.slice A383 A383l A383c)] w385 fun e387 w388 =>
  ∃ b386, e387 = Ending.returned (Value.bool b386) ∧
  V.sel (!b386)
  (∃ w389, Sem.run Try.prog (Instr.storeAt 4 (Value.pointer (some ⟨K.bR, 0, none⟩)) (Value.bool false)) w388 = .ok () w389 ∧
  V.LoopSt w389 l295 Rc294 .busy none ∧ R298 (Ending.returned (Value.bool false)) (V.setLoop w389 l295 Rc294 .done (some Code.ret)))
  (∃ n390, World.cell? w388 ⟨Array.size (World.heap w126), 0, none⟩ = some (Value.int .i64 n390) ∧
  ∃ w391, Sem.run Try.prog (Instr.storeAt 3 (Value.pointer (some ⟨Array.size (World.heap w126), 0, none⟩)) (Value.int .i64 (IntKind.wrap .i64 (n390 + 1)))) w388 = .ok () w391 ∧
  V.LoopSt w391 l295 Rc294 .busy none ∧ R298 (Ending.returned (Value.bool true)) (V.setLoop w391 l295 Rc294 .ready none))) ∨
  (V.LoopSt w376 l323 Rc322 .done (some Code.ret) ∧
  V.LoopSt (V.setLoop w376 l323 Rc322 .exhausted (some Code.ret)) l295 Rc294 .busy none ∧ R298 (Ending.returned (Value.bool false)) (V.setLoop (V.setLoop w376 l323 Rc322 .exhausted (some Code.ret)) l295 Rc294 .done (some Code.ret))) ∨
  (V.LoopSt w376 l323 Rc322 .done (some (Code.exit 10)) ∧
  ∃ n392, ∃ A393, ∃ A393l, ∃ A393c, V.cellsC (fun a_ x_ => World.cell? (V.setLoop w376 l323 Rc322 .exhausted (some (Code.exit 10))) a_ = some x_) ⟨K.bT, 0, none⟩ [(Value.int .i64 n392), (Value.slice A393 A393l A393c)] ∧
  V.ptr (some (⟨K.kb, 0, none⟩ : Addr)) fun a394 =>
  ∃ s395, World.cell? (V.setLoop w376 l323 Rc322 .exhausted (some (Code.exit 10))) a394 = some (Value.string s395) ∧
  ∃ n396, World.cell? (V.setLoop w376 l323 Rc322 .exhausted (some (Code.exit 10))) ⟨Array.size (World.heap W297), 0, none⟩ = some (Value.int .i64 n396) ∧
  ∃ n397, World.cell? (V.setLoop w376 l323 Rc322 .exhausted (some (Code.exit 10))) ⟨Array.size (World.heap W297), 0, none⟩ = some (Value.int .i64 n397) ∧
  Calls Try.prog 29 #[(Value.agg #[(Value.int .i64 n392), (Value.slice A393 A393l A393c)]), (Value.string s395), (Value.int .i64 n396), (Value.int .i64 n397)] (V.setLoop w376 l323 Rc322 .exhausted (some (Code.exit 10))) fun e399 w400 =>
  ∃ A398, ∃ A398l, ∃ A398c, e399 = Ending.returned (Value.slice A398 A398l A398c) ∧
  Calls Try.prog 28 #[(Value.pointer y179_300), (Value.int .i64 200), (Value.slice A398 A398l A398c)] w400 fun e402 w403 =>
  ∃ b401, e402 = Ending.returned (Value.bool b401) ∧
  V.sel (!b401)
  (∃ w404, Sem.run Try.prog (Instr.storeAt 4 (Value.pointer (some ⟨K.bR, 0, none⟩)) (Value.bool false)) w403 = .ok () w404 ∧
  V.LoopSt w404 l295 Rc294 .busy none ∧ R298 (Ending.returned (Value.bool false)) (V.setLoop w404 l295 Rc294 .done (some Code.ret)))
  (∃ n405, World.cell? w403 ⟨Array.size (World.heap w126), 0, none⟩ = some (Value.int .i64 n405) ∧
  ∃ w406, Sem.run Try.prog (Instr.storeAt 3 (Value.pointer (some ⟨Array.size (World.heap w126), 0, none⟩)) (Value.int .i64 (IntKind.wrap .i64 (n405 + 1)))) w403 = .ok () w406 ∧
  V.LoopSt w406 l295 Rc294 .busy none ∧ R298 (Ending.returned (Value.bool true)) (V.setLoop w406 l295 Rc294 .ready none))) ∨
  False))) →
  V.Yield Try.prog l295 [(Value.int .i64 y178_299), (Value.pointer y179_300)] W297 R298) →
  Calls Try.prog f293 ⟨Array.toList f293a ++ [(Value.func (.yield l295) #[] #[])] ++ Array.toList f293c⟩ w296 fun e407 w409 => (∃ v408, e407 = Ending.returned v408) ∧
  ((V.LoopSt w409 l295 Rc294 .ready none ∧
  ∃ n410, World.cell? (V.setLoop w409 l295 Rc294 .exhausted none) ⟨Array.size (World.heap w126), 0, none⟩ = some (Value.int .i64 n410) ∧
  ∃ A411, ∃ A411l, ∃ A411c, World.cell? (V.setLoop w409 l295 Rc294 .exhausted none) ⟨K.bN, 0, none⟩ = some (Value.slice A411 A411l A411c) ∧
  V.sel (n410 == ((A411l : Nat) : Int))
  (∃ p412, World.cell? (V.setLoop w409 l295 Rc294 .exhausted none) ⟨K.bW, 0, none⟩ = some (Value.pointer p412) ∧
  Calls Try.prog 33 #[(Value.pointer p412), (Value.int .i64 2)] (V.setLoop w409 l295 Rc294 .exhausted none) fun e414 w415 =>
  ∃ b413, e414 = Ending.returned (Value.bool b413) ∧
  ∃ w416, Sem.run Try.prog (Instr.storeAt 4 (Value.pointer (some ⟨K.bR, 0, none⟩)) (Value.bool b413)) w415 = .ok () w416 ∧
  V.closeR (Array.size (World.heap w291) :: ds125) w416 fun w417 =>
  ∃ b418, World.cell? w417 ⟨K.bR, 0, none⟩ = some (Value.bool b418) ∧
  R (Ending.returned (Value.bool b418)) w417)
  (∃ w419, Sem.run Try.prog (Instr.storeAt 4 (Value.pointer (some ⟨K.bR, 0, none⟩)) (Value.bool false)) (V.setLoop w409 l295 Rc294 .exhausted none) = .ok () w419 ∧
  V.closeR (Array.size (World.heap w291) :: ds125) w419 fun w420 =>
  ∃ b421, World.cell? w420 ⟨K.bR, 0, none⟩ = some (Value.bool b421) ∧
  R (Ending.returned (Value.bool b421)) w420)) ∨
  (V.LoopSt w409 l295 Rc294 .done (some Code.ret) ∧
  V.closeR (Array.size (World.heap w291) :: ds125) (V.setLoop w409 l295 Rc294 .exhausted (some Code.ret)) fun w422 =>
  ∃ b423, World.cell? w422 ⟨K.bR, 0, none⟩ = some (Value.bool b423) ∧
  R (Ending.returned (Value.bool b423)) w422) ∨
  False))) := by
  intro w290 h290
  obtain ⟨b290, x290, z290⟩ := box_new (cs := [.int .i64 0]) h290
  obtain ⟨w291, hr291, b291, x291⟩ := store1 (P := Try.prog) (v := .int .i64 0) i3s' b290 (i := 0) (by simp) rfl rfl
  have b291 : BlkT w291 w126.heap.size [.int .i64 0] 3 := by simpa using b291
  have e291 : Ext [] w126 w291 := x290.trans' x291 (fun b hb => .inr (by simp at hb; omega))
  have z291 := x291.size
  have d291 := d.ext0 pk e291
  refine ⟨w291, hr291, ptr_in ⟨_, _, _, d291.fx.f.cell (i := 0) rfl, V.when_intro (by kernel_rfl) fun Rc l w296 hl h296 hy => ?_⟩⟩
  obtain ⟨l0, m0, x296, z296⟩ := enter_new hl h296
  obtain ⟨bk, hbk⟩ : ∃ bk, w126.heap.size = bk := ⟨_, rfl⟩
  rw [hbk] at b291 hy
  have e296 := e291.trans x296
  have d296 : Dy K w126 [] (bk :: l :: w291.heap.size :: rb :: ds125) w296 es a c := d.more pk e296 (fun b hb => by
    simp only [List.mem_cons] at hb
    rcases hb with rfl | rfl | rfl | rfl | hb
    · exact .inr ⟨by omega, by omega⟩
    · exact .inr ⟨by omega, by omega⟩
    · exact .inr ⟨by omega, by omega⟩
    · exact .inl (by simp)
    · exact .inl (by simp [hb])) (by simp)
  have b296 := b291.ext0 x296
  have hF := d296.fxlt pk
  have hFk := d.fxlt pk
  have nF : bk ∉ K.F ∧ l ∉ K.F := ⟨fun hm => by have := hFk _ hm; omega, fun hm => by have := hFk _ hm; omega⟩
  have hrl : K.rs.length = K.nm := by rw [← pk.nm, ← pk.nums, List.length_map]
  have nms := pk.nms
  refine (Rows_iter (b0 := K.b0) (A := K.RA) (c := K.rc) (rs := K.rs) (by omega)).range (I := fun ps w' => Ext [bk, l] w296 w' ∧ BlkT w' bk [.int .i64 (ps.length : Int)] 3) (Q := fun _ _ => False)
    (fun nn p W' R' g1 g2 => hy nn p W' R' g1 g2) l0 ⟨Ext.refl _ _, b296⟩ ?_ (fun _ _ _ _ h => h.elim) ?_ ?_ ?_ (fun _ _ _ h => h.elim)
  · rintro ps w1 w2 e ⟨g1, g2⟩
    exact ⟨g1.trans' e (fun b hb => .inl (by simp at hb; simp [hb])), g2.ext e (by simp; omega)⟩
  · rintro ps w1 ⟨g1, _⟩
    refine d296.fx.rows.ext g1 fun b hb hm => ?_
    have hb : b ∈ K.F := by unfold WK.F; simp [hb]
    simp at hm
    rcases hm with rfl | rfl
    · exact nF.1 hb
    · exact nF.2 hb
  · rintro ps y rest w1 Wy p bw R' hsp ⟨g1, g2⟩ hl1 hWy hp hbw sy hS k1 k2
    have key := body2 pk hsp d296.fx hF nF (by omega) g1 g2 (LoopSt.lt l0) hWy hp hbw sy hS (R' := R') fun G w2 hl hG hx hg hb => k1 G w2 hl hG hx ⟨hg, by rw [List.length_append]; exact hb⟩
    exact key
  · rintro w409 hl409 ⟨g1, g2⟩
    have xe := setLoop_ext w409 l Rc .exhausted none
    have gE : Ext [bk, l] w296 (setLoop w409 l Rc .exhausted none) := g1.trans' xe (fun b hb => .inl (by simp at hb; simp [hb]))
    have kE := g2.ext xe (by simp; omega)
    refine .inl ⟨hl409, ?_⟩
    generalize setLoop w409 l Rc .exhausted none = We at gE kE ⊢
    rw [hbk]
    have dE := d296.touch pk gE (fun b hb => by
      simp at hb
      rcases hb with rfl | rfl
      · exact .inl ⟨by simp, by simp⟩
      · exact .inl ⟨by simp, by simp⟩)
    refine ⟨_, kE.cell (i := 0) rfl, _, _, _, dE.fx.n.cell (i := 0) rfl, sel_true (by rw [hrl]; simp) ⟨_, dE.fx.wp.cell (i := 0) rfl, ?_⟩⟩
    refine seen_c dE.at_ (by have := dE.hc; have := dE.ha; have := pk.few; omega) (i := 2) (by omega) fun w415 e415 => ⟨_, rfl, ?_⟩
    have d415 := dE.ext0 pk e415
    obtain ⟨w416, hr416, b416, x416⟩ := store1 (P := Try.prog) (v := .bool true) i4s d415.fx.r (i := 0) (by simp) rfl rfl
    have b416 : BlkT w416 K.bR [.bool true] 4 := by simpa using b416
    have hbR : K.bR < K.bAt := pk.kf _ (by unfold WK.F; simp)
    have sepd := fun b hb => (d415.sep b hb).1
    have mall : ∀ x ∈ w291.heap.size :: ds125, Mrk w416 x := fun x hx => by
      have hxL : x ∈ bk :: l :: w291.heap.size :: rb :: ds125 := by
        simp only [List.mem_cons] at hx ⊢
        rcases hx with rfl | hx
        · simp
        · simp [hx]
      have h1 : K.bAt < x := sepd x hxL
      have m1 : Mrk w296 x := by
        rcases List.mem_cons.1 hx with rfl | hx
        · exact m0
        · exact (mk x hx).ext e296 (by simp)
      have hlt : x ∉ [bk, l] := by
        simp
        rcases List.mem_cons.1 hx with rfl | hx
        · omega
        · have := (d.sep x (by simp [hx])).2.2; omega
      exact ((m1.ext gE hlt).ext e415 (by simp)).ext x416 (by simp; omega)
    refine ⟨w416, hr416, close_many mall (List.nodup_cons.2 ⟨fun hm => by have := (d.sep w291.heap.size (by simp [hm])).2.2; omega, nd⟩) fun w417 x417 => ?_⟩
    have nR : K.bR ∉ w291.heap.size :: ds125 := fun hm => by
      have : K.bR ∈ bk :: l :: w291.heap.size :: rb :: ds125 := by
        simp only [List.mem_cons] at hm ⊢
        rcases hm with h | h
        · simp [h]
        · simp [h]
      have := sepd _ this; omega
    refine ⟨_, (b416.ext x417 nR).cell (i := 0) rfl, k w417 ((d415.ext.trans' x416 fun b hb => .inr ?_).trans' x417 fun b hb => .inr ?_)⟩
    · simp at hb; subst hb
      have := pk.rl; exact this
    · have : b ∈ bk :: l :: w291.heap.size :: rb :: ds125 := by
        simp only [List.mem_cons] at hb ⊢
        rcases hb with h | h
        · simp [h]
        · simp [h]
      have := sepd _ this
      have := pk.wl; omega
/-- What a round begins with. -/
structure RdSt (K : WK) (w : World) (rb : Nat) (ds : List Nat) (r : Nat) : Prop where
  dy : ∃ es a c, Dy K w [] (rb :: ds) w es a c
  rbk : BlkT w rb [.int .i64 (r : Int)] 3
  mks : ∀ x ∈ ds, Mrk w x
  nd : ds.Nodup
  nr : rb ∉ ds
  small : r ≤ 3
set_option maxRecDepth 8000 in
set_option maxHeartbeats 4000000 in
theorem round_c {K : WK} (pk : PK K) {w126 : World} {rb : Nat} {ds125 : List Nat} {r : Nat} (hr3 : r < 3) (st : RdSt K w126 rb ds125 r) {R : Ending → World → Prop} {I121 : Option Addr → List Nat → World → Prop} {μ122 : Option Addr → World → Nat}
    (k : ∀ rb' ds' w', RdSt K w' rb' ds' (r + 1) → I121 (some ⟨rb', 0, none⟩) ds' w' ∧ μ122 (some ⟨rb', 0, none⟩) w' < μ122 (some ⟨rb, 0, none⟩) w126) :
    (∀ w129, w129 = (World.alloc w126 (.cells #[(Value.int .i64 0)] 3)) →
  ∃ w130, Sem.run Try.prog (Instr.storeAt 3 (Value.pointer (some ⟨Array.size (World.heap w126), 0, none⟩)) (Value.int .i64 0)) w129 = .ok () w130 ∧
  V.ptr (some (⟨K.wb, 0, none⟩ : Addr)) fun a131 =>
  ∃ f132, ∃ f132a, ∃ f132c, World.cell? w130 a131 = some (Value.func (.func f132) f132a f132c) ∧
  V.when (V.hasB Try.prog f132 && true) (∀ (Rc133 : Loop) (l134 : Nat) (w135 : World), l134 = Array.size (World.heap w130) + 1 → w135 = World.alloc (World.alloc w130 (.deferred (some []))) (.loop { Rc133 with state := .ready, pending := none }) →
  (∀ y85_138 y86_139 (W136 : World) (R137 : Ending → World → Prop), V.LoopSt W136 l134 Rc133 .ready none →
  (V.LoopSt W136 l134 Rc133 .ready none ∧
  ∃ J140 : World → Prop, (∃ J141 : Bool → World → Prop, (∃ n142, World.cell? (V.setLoop W136 l134 Rc133 .busy none) ⟨Array.size (World.heap w126), 0, none⟩ = some (Value.int .i64 n142) ∧
  ∃ A143, ∃ A143l, ∃ A143c, World.cell? (V.setLoop W136 l134 Rc133 .busy none) ⟨K.bN, 0, none⟩ = some (Value.slice A143 A143l A143c) ∧
  V.sel (decide (n142 ≥ ((A143l : Nat) : Int)))
  (J141 true (V.setLoop W136 l134 Rc133 .busy none))
  (∃ A144, ∃ A144l, ∃ A144c, World.cell? (V.setLoop W136 l134 Rc133 .busy none) ⟨K.bN, 0, none⟩ = some (Value.slice A144 A144l A144c) ∧
  ∃ n145, World.cell? (V.setLoop W136 l134 Rc133 .busy none) ⟨Array.size (World.heap w126), 0, none⟩ = some (Value.int .i64 n145) ∧
  V.when (decide ((0 : Int) ≤ n145 ∧ (n145 : Int) < ((A144l : Nat) : Int))) (V.ptr A144 fun a146 =>
  ∃ n147, World.cell? (V.setLoop W136 l134 Rc133 .busy none) (Addr.add a146 ((Int.toNat n145) * 1)) = some (Value.int .i64 n147) ∧
  V.sel (y85_138 != n147)
  (J141 true (V.setLoop W136 l134 Rc133 .busy none))
  (∃ n148, ∃ A149, ∃ A149l, ∃ A149c, V.cellsC (fun a_ x_ => World.cell? (V.setLoop W136 l134 Rc133 .busy none) a_ = some x_) ⟨K.bT, 0, none⟩ [(Value.int .i64 n148), (Value.slice A149 A149l A149c)] ∧
  V.ptr (some (⟨K.kb, 0, none⟩ : Addr)) fun a150 =>
  ∃ s151, World.cell? (V.setLoop W136 l134 Rc133 .busy none) a150 = some (Value.string s151) ∧
  Calls Try.prog 29 #[(Value.agg #[(Value.int .i64 n148), (Value.slice A149 A149l A149c)]), (Value.string s151), (Value.int .i64 y85_138), (Value.int .i64 y85_138)] (V.setLoop W136 l134 Rc133 .busy none) fun e153 w154 =>
  ∃ A152, ∃ A152l, ∃ A152c, e153 = Ending.returned (Value.slice A152 A152l A152c) ∧
  Calls Try.prog 28 #[(Value.pointer y86_139), (Value.int .i64 200), (Value.slice A152 A152l A152c)] w154 fun e156 w157 =>
  ∃ b155, e156 = Ending.returned (Value.bool b155) ∧
  J141 (!b155) w157)))) ∧
  ∀ t108_158 (j159 : Nat → Value) (w160 : World), J141 t108_158 w160 →
  V.sel t108_158
  (∃ w161, Sem.run Try.prog (Instr.storeAt 4 (Value.pointer (some ⟨K.bR, 0, none⟩)) (Value.bool false)) w160 = .ok () w161 ∧
  V.LoopSt w161 l134 Rc133 .busy none ∧ R137 (Ending.returned (Value.bool false)) (V.setLoop w161 l134 Rc133 .done (some Code.ret)))
  (J140  w160)) ∧
  ∀ (j162 : Nat → Value) (w163 : World), J140  w163 →
  ∃ n164, World.cell? w163 ⟨Array.size (World.heap w126), 0, none⟩ = some (Value.int .i64 n164) ∧
  Calls Try.prog 30 #[(Value.pointer y86_139), (Value.int .i64 n164)] w163 fun e166 w167 =>
  ∃ b165, e166 = Ending.returned (Value.bool b165) ∧
  Calls Try.prog 32 #[(Value.pointer y86_139)] w167 fun e169 w170 =>
  ∃ p168, e169 = Ending.returned (Value.pointer p168) ∧
  Calls Try.prog 31 #[(Value.pointer y86_139), (Value.pointer p168)] w170 fun e171 w172 =>
  e171 = Ending.returned undef ∧
  ∃ n173, World.cell? w172 ⟨Array.size (World.heap w126), 0, none⟩ = some (Value.int .i64 n173) ∧
  ∃ w174, Sem.run Try.prog (Instr.storeAt 3 (Value.pointer (some ⟨Array.size (World.heap w126), 0, none⟩)) (Value.int .i64 (IntKind.wrap .i64 (n173 + 1)))) w172 = .ok () w174 ∧
  ∃ J175 : World → Prop, (∃ I176 : Int → World → Prop, ∃ μ177 : Int → World → Nat, I176 0 w174 ∧
  ∀ j_178 (j179 : Nat → Value) (w180 : World), I176 j_178 w180 →
  (∃ J181 : World → Prop, (V.sel (decide (j_178 < 2))
  (∃ n182, World.cell? w180 ⟨K.bAt, 0, none⟩ = some (Value.int .i64 n182) ∧
  ∃ A183, ∃ A183l, ∃ A183c, World.cell? w180 ⟨K.bA, 0, none⟩ = some (Value.slice A183 A183l A183c) ∧
  V.sel (decide (n182 < ((A183l : Nat) : Int)))
  (J181  w180)
  (J175  w180))
  (J175  w180)) ∧
  ∀ (j184 : Nat → Value) (w185 : World), J181  w185 →
  ∃ A186, ∃ A186l, ∃ A186c, World.cell? w185 ⟨K.bA, 0, none⟩ = some (Value.slice A186 A186l A186c) ∧
  ∃ n187, World.cell? w185 ⟨K.bAt, 0, none⟩ = some (Value.int .i64 n187) ∧
  V.when (decide ((0 : Int) ≤ n187 ∧ (n187 : Int) < ((A186l : Nat) : Int))) (V.ptr A186 fun a188 =>
  ∃ n189, ∃ n190, ∃ n191, ∃ s192, ∃ n193, ∃ n194, ∃ n195, ∃ A196, ∃ A196l, ∃ A196c, V.cellsC (fun a_ x_ => World.cell? w185 a_ = some x_) (Addr.add a188 ((Int.toNat n187) * 8)) [(Value.int .i64 n189), (Value.int .i64 n190), (Value.int .i64 n191), (Value.string s192), (Value.int .i64 n193), (Value.int .i64 n194), (Value.int .i64 n195), (Value.slice A196 A196l A196c)] ∧
  ∀ w197, w197 = (World.alloc w185 (.cells #[(Value.int .i64 0), (Value.int .i64 0), (Value.int .i64 0), (Value.string ByteArray.empty), (Value.int .i64 0), (Value.int .i64 0), (Value.int .i64 0), (Value.slice none 0 0)] 50)) →
  ∃ w198, Sem.run Try.prog (Instr.storeAt 50 (Value.pointer (some ⟨Array.size (World.heap w185), 0, none⟩)) (Value.agg #[(Value.int .i64 n189), (Value.int .i64 n190), (Value.int .i64 n191), (Value.string s192), (Value.int .i64 n193), (Value.int .i64 n194), (Value.int .i64 n195), (Value.slice A196 A196l A196c)])) w197 = .ok () w198 ∧
  ∃ n199, World.cell? w198 ⟨K.bAt, 0, none⟩ = some (Value.int .i64 n199) ∧
  ∃ w200, Sem.run Try.prog (Instr.storeAt 3 (Value.pointer (some ⟨K.bAt, 0, none⟩)) (Value.int .i64 (IntKind.wrap .i64 (n199 + 1)))) w198 = .ok () w200 ∧
  ∃ J201 : Bool → World → Prop, (∃ n202, World.cell? w200 (Addr.add ⟨Array.size (World.heap w185), 0, none⟩ 0) = some (Value.int .i64 n202) ∧
  V.sel (decide (n202 ≤ 3))
  (∃ n203, World.cell? w200 (Addr.add ⟨Array.size (World.heap w185), 0, none⟩ 0) = some (Value.int .i64 n203) ∧
  V.sel (n203 != 1)
  (∃ p204, World.cell? w200 ⟨K.bW, 0, none⟩ = some (Value.pointer p204) ∧
  ∃ n205, ∃ n206, ∃ n207, ∃ s208, ∃ n209, ∃ n210, ∃ n211, ∃ A212, ∃ A212l, ∃ A212c, V.cellsC (fun a_ x_ => World.cell? w200 a_ = some x_) ⟨Array.size (World.heap w185), 0, none⟩ [(Value.int .i64 n205), (Value.int .i64 n206), (Value.int .i64 n207), (Value.string s208), (Value.int .i64 n209), (Value.int .i64 n210), (Value.int .i64 n211), (Value.slice A212 A212l A212c)] ∧
  Calls Try.prog 26 #[(Value.pointer p204), (Value.agg #[(Value.int .i64 n205), (Value.int .i64 n206), (Value.int .i64 n207), (Value.string s208), (Value.int .i64 n209), (Value.int .i64 n210), (Value.int .i64 n211), (Value.slice A212 A212l A212c)]), (Value.int .i64 2)] w200 fun e214 w215 =>
  ∃ b213, e214 = Ending.returned (Value.bool b213) ∧
  J201 (!b213) w215)
  (J201 false w200))
  (J201 false w200)) ∧
  ∀ t147_216 (j217 : Nat → Value) (w218 : World), J201 t147_216 w218 →
  V.sel t147_216
  (∃ w219, Sem.run Try.prog (Instr.storeAt 4 (Value.pointer (some ⟨K.bR, 0, none⟩)) (Value.bool false)) w218 = .ok () w219 ∧
  V.LoopSt w219 l134 Rc133 .busy none ∧ R137 (Ending.returned (Value.bool false)) (V.setLoop w219 l134 Rc133 .done (some Code.ret)))
  (I176 (IntKind.wrap .i64 (j_178 + 1)) w218 ∧ μ177 (IntKind.wrap .i64 (j_178 + 1)) w218 < μ177 j_178 w180)))) ∧
  ∀ (j220 : Nat → Value) (w221 : World), J175  w221 →
  V.ptr (some (⟨rb, 0, none⟩ : Addr)) fun a222 =>
  ∃ n223, World.cell? w221 a222 = some (Value.int .i64 n223) ∧
  V.sel (n223 == 1)
  (∃ n224, World.cell? w221 ⟨Array.size (World.heap w126), 0, none⟩ = some (Value.int .i64 n224) ∧
  V.ptr (some (⟨K.eb, 0, none⟩ : Addr)) fun a225 =>
  ∃ n226, World.cell? w221 a225 = some (Value.int .i64 n226) ∧
  V.sel (decide (n224 ≥ n226))
  (V.LoopSt w221 l134 Rc133 .busy none ∧ R137 (Ending.returned (Value.bool false)) (V.setLoop w221 l134 Rc133 .done (some (Code.exit 4))))
  (V.LoopSt w221 l134 Rc133 .busy none ∧ R137 (Ending.returned (Value.bool true)) (V.setLoop w221 l134 Rc133 .ready none)))
  (V.LoopSt w221 l134 Rc133 .busy none ∧ R137 (Ending.returned (Value.bool true)) (V.setLoop w221 l134 Rc133 .ready none))) →
  V.Yield Try.prog l134 [(Value.int .i64 y85_138), (Value.pointer y86_139)] W136 R137) →
  Calls Try.prog f132 ⟨Array.toList f132a ++ [(Value.func (.yield l134) #[] #[])] ++ Array.toList f132c⟩ w135 fun e227 w229 => (∃ v228, e227 = Ending.returned v228) ∧
  ((V.LoopSt w229 l134 Rc133 .ready none ∧
  ∃ J230 : Bool → World → Prop, (V.ptr (some (⟨rb, 0, none⟩ : Addr)) fun a231 =>
  ∃ n232, World.cell? (V.setLoop w229 l134 Rc133 .exhausted none) a231 = some (Value.int .i64 n232) ∧
  V.sel (n232 != 1)
  (∃ n233, World.cell? (V.setLoop w229 l134 Rc133 .exhausted none) ⟨Array.size (World.heap w126), 0, none⟩ = some (Value.int .i64 n233) ∧
  ∃ A234, ∃ A234l, ∃ A234c, World.cell? (V.setLoop w229 l134 Rc133 .exhausted none) ⟨K.bN, 0, none⟩ = some (Value.slice A234 A234l A234c) ∧
  V.sel (n233 != ((A234l : Nat) : Int))
  (J230 true (V.setLoop w229 l134 Rc133 .exhausted none))
  (V.ptr (some (⟨rb, 0, none⟩ : Addr)) fun a235 =>
  ∃ n236, World.cell? (V.setLoop w229 l134 Rc133 .exhausted none) a235 = some (Value.int .i64 n236) ∧
  V.sel (n236 == 1)
  (∃ n237, World.cell? (V.setLoop w229 l134 Rc133 .exhausted none) ⟨Array.size (World.heap w126), 0, none⟩ = some (Value.int .i64 n237) ∧
  ∃ A238, ∃ A238l, ∃ A238c, World.cell? (V.setLoop w229 l134 Rc133 .exhausted none) ⟨K.bN, 0, none⟩ = some (Value.slice A238 A238l A238c) ∧
  V.ptr (some (⟨K.eb, 0, none⟩ : Addr)) fun a239 =>
  ∃ n240, World.cell? (V.setLoop w229 l134 Rc133 .exhausted none) a239 = some (Value.int .i64 n240) ∧
  J230 (n237 != (if (if n240 > 1 then n240 else 1) < ((A238l : Nat) : Int) then (if n240 > 1 then n240 else 1) else ((A238l : Nat) : Int))) (V.setLoop w229 l134 Rc133 .exhausted none))
  (J230 false (V.setLoop w229 l134 Rc133 .exhausted none))))
  (V.ptr (some (⟨rb, 0, none⟩ : Addr)) fun a241 =>
  ∃ n242, World.cell? (V.setLoop w229 l134 Rc133 .exhausted none) a241 = some (Value.int .i64 n242) ∧
  V.sel (n242 == 1)
  (∃ n243, World.cell? (V.setLoop w229 l134 Rc133 .exhausted none) ⟨Array.size (World.heap w126), 0, none⟩ = some (Value.int .i64 n243) ∧
  ∃ A244, ∃ A244l, ∃ A244c, World.cell? (V.setLoop w229 l134 Rc133 .exhausted none) ⟨K.bN, 0, none⟩ = some (Value.slice A244 A244l A244c) ∧
  V.ptr (some (⟨K.eb, 0, none⟩ : Addr)) fun a245 =>
  ∃ n246, World.cell? (V.setLoop w229 l134 Rc133 .exhausted none) a245 = some (Value.int .i64 n246) ∧
  J230 (n243 != (if (if n246 > 1 then n246 else 1) < ((A244l : Nat) : Int) then (if n246 > 1 then n246 else 1) else ((A244l : Nat) : Int))) (V.setLoop w229 l134 Rc133 .exhausted none))
  (J230 false (V.setLoop w229 l134 Rc133 .exhausted none)))) ∧
  ∀ t175_247 (j248 : Nat → Value) (w249 : World), J230 t175_247 w249 →
  V.sel t175_247
  (∃ w250, Sem.run Try.prog (Instr.storeAt 4 (Value.pointer (some ⟨K.bR, 0, none⟩)) (Value.bool false)) w249 = .ok () w250 ∧
  V.closeR (Array.size (World.heap w130) :: ds125) w250 fun w251 =>
  ∃ b252, World.cell? w251 ⟨K.bR, 0, none⟩ = some (Value.bool b252) ∧
  R (Ending.returned (Value.bool b252)) w251)
  (V.ptr (some (⟨rb, 0, none⟩ : Addr)) fun a253 =>
  ∃ n254, World.cell? w249 a253 = some (Value.int .i64 n254) ∧
  ∀ w255, w255 = (World.alloc w249 (.cells #[(Value.int .i64 0)] 3)) →
  ∃ w256, Sem.run Try.prog (Instr.storeAt 3 (Value.pointer (some ⟨Array.size (World.heap w249), 0, none⟩)) (Value.int .i64 n254)) w255 = .ok () w256 ∧
  ∃ n257, World.cell? w256 ⟨Array.size (World.heap w249), 0, none⟩ = some (Value.int .i64 n257) ∧
  ∃ w258, Sem.run Try.prog (Instr.storeAt 3 (Value.pointer (some ⟨Array.size (World.heap w249), 0, none⟩)) (Value.int .i64 (IntKind.wrap .i64 (n257 + 1)))) w256 = .ok () w258 ∧
  I121 (some ⟨Array.size (World.heap w249), 0, none⟩) (Array.size (World.heap w130) :: ds125) w258 ∧ μ122 (some ⟨Array.size (World.heap w249), 0, none⟩) w258 < μ122 (some (⟨rb, 0, none⟩ : Addr)) w126)) ∨
  (V.LoopSt w229 l134 Rc133 .done (some Code.ret) ∧
  V.closeR (Array.size (World.heap w130) :: ds125) (V.setLoop w229 l134 Rc133 .exhausted (some Code.ret)) fun w259 =>
  ∃ b260, World.cell? w259 ⟨K.bR, 0, none⟩ = some (Value.bool b260) ∧
  R (Ending.returned (Value.bool b260)) w259) ∨
  (V.LoopSt w229 l134 Rc133 .done (some (Code.exit 4)) ∧
  ∃ J261 : Bool → World → Prop, (V.ptr (some (⟨rb, 0, none⟩ : Addr)) fun a262 =>
  ∃ n263, World.cell? (V.setLoop w229 l134 Rc133 .exhausted (some (Code.exit 4))) a262 = some (Value.int .i64 n263) ∧
  V.sel (n263 != 1)
  (∃ n264, World.cell? (V.setLoop w229 l134 Rc133 .exhausted (some (Code.exit 4))) ⟨Array.size (World.heap w126), 0, none⟩ = some (Value.int .i64 n264) ∧
  ∃ A265, ∃ A265l, ∃ A265c, World.cell? (V.setLoop w229 l134 Rc133 .exhausted (some (Code.exit 4))) ⟨K.bN, 0, none⟩ = some (Value.slice A265 A265l A265c) ∧
  V.sel (n264 != ((A265l : Nat) : Int))
  (J261 true (V.setLoop w229 l134 Rc133 .exhausted (some (Code.exit 4))))
  (V.ptr (some (⟨rb, 0, none⟩ : Addr)) fun a266 =>
  ∃ n267, World.cell? (V.setLoop w229 l134 Rc133 .exhausted (some (Code.exit 4))) a266 = some (Value.int .i64 n267) ∧
  V.sel (n267 == 1)
  (∃ n268, World.cell? (V.setLoop w229 l134 Rc133 .exhausted (some (Code.exit 4))) ⟨Array.size (World.heap w126), 0, none⟩ = some (Value.int .i64 n268) ∧
  ∃ A269, ∃ A269l, ∃ A269c, World.cell? (V.setLoop w229 l134 Rc133 .exhausted (some (Code.exit 4))) ⟨K.bN, 0, none⟩ = some (Value.slice A269 A269l A269c) ∧
  V.ptr (some (⟨K.eb, 0, none⟩ : Addr)) fun a270 =>
  ∃ n271, World.cell? (V.setLoop w229 l134 Rc133 .exhausted (some (Code.exit 4))) a270 = some (Value.int .i64 n271) ∧
  J261 (n268 != (if (if n271 > 1 then n271 else 1) < ((A269l : Nat) : Int) then (if n271 > 1 then n271 else 1) else ((A269l : Nat) : Int))) (V.setLoop w229 l134 Rc133 .exhausted (some (Code.exit 4))))
  (J261 false (V.setLoop w229 l134 Rc133 .exhausted (some (Code.exit 4))))))
  (V.ptr (some (⟨rb, 0, none⟩ : Addr)) fun a272 =>
  ∃ n273, World.cell? (V.setLoop w229 l134 Rc133 .exhausted (some (Code.exit 4))) a272 = some (Value.int .i64 n273) ∧
  V.sel (n273 == 1)
  (∃ n274, World.cell? (V.setLoop w229 l134 Rc133 .exhausted (some (Code.exit 4))) ⟨Array.size (World.heap w126), 0, none⟩ = some (Value.int .i64 n274) ∧
  ∃ A275, ∃ A275l, ∃ A275c, World.cell? (V.setLoop w229 l134 Rc133 .exhausted (some (Code.exit 4))) ⟨K.bN, 0, none⟩ = some (Value.slice A275 A275l A275c) ∧
  V.ptr (some (⟨K.eb, 0, none⟩ : Addr)) fun a276 =>
  ∃ n277, World.cell? (V.setLoop w229 l134 Rc133 .exhausted (some (Code.exit 4))) a276 = some (Value.int .i64 n277) ∧
  J261 (n274 != (if (if n277 > 1 then n277 else 1) < ((A275l : Nat) : Int) then (if n277 > 1 then n277 else 1) else ((A275l : Nat) : Int))) (V.setLoop w229 l134 Rc133 .exhausted (some (Code.exit 4))))
  (J261 false (V.setLoop w229 l134 Rc133 .exhausted (some (Code.exit 4)))))) ∧
  ∀ t175_278 (j279 : Nat → Value) (w280 : World), J261 t175_278 w280 →
  V.sel t175_278
  (∃ w281, Sem.run Try.prog (Instr.storeAt 4 (Value.pointer (some ⟨K.bR, 0, none⟩)) (Value.bool false)) w280 = .ok () w281 ∧
  V.closeR (Array.size (World.heap w130) :: ds125) w281 fun w282 =>
  ∃ b283, World.cell? w282 ⟨K.bR, 0, none⟩ = some (Value.bool b283) ∧
  R (Ending.returned (Value.bool b283)) w282)
  (V.ptr (some (⟨rb, 0, none⟩ : Addr)) fun a284 =>
  ∃ n285, World.cell? w280 a284 = some (Value.int .i64 n285) ∧
  ∀ w286, w286 = (World.alloc w280 (.cells #[(Value.int .i64 0)] 3)) →
  ∃ w287, Sem.run Try.prog (Instr.storeAt 3 (Value.pointer (some ⟨Array.size (World.heap w280), 0, none⟩)) (Value.int .i64 n285)) w286 = .ok () w287 ∧
  ∃ n288, World.cell? w287 ⟨Array.size (World.heap w280), 0, none⟩ = some (Value.int .i64 n288) ∧
  ∃ w289, Sem.run Try.prog (Instr.storeAt 3 (Value.pointer (some ⟨Array.size (World.heap w280), 0, none⟩)) (Value.int .i64 (IntKind.wrap .i64 (n288 + 1)))) w287 = .ok () w289 ∧
  I121 (some ⟨Array.size (World.heap w280), 0, none⟩) (Array.size (World.heap w130) :: ds125) w289 ∧ μ122 (some ⟨Array.size (World.heap w280), 0, none⟩) w289 < μ122 (some (⟨rb, 0, none⟩ : Addr)) w126)) ∨
  False))) := by
  obtain ⟨es, a, c, d⟩ := st.dy
  intro w129 h129
  obtain ⟨b129, x129, z129⟩ := box_new (cs := [.int .i64 0]) h129
  obtain ⟨w130, hr130, b130, x130⟩ := store1 (P := Try.prog) (v := .int .i64 0) i3s' b129 (i := 0) (by simp) rfl rfl
  have b130 : BlkT w130 w126.heap.size [.int .i64 0] 3 := by simpa using b130
  have e130 : Ext [] w126 w130 := x129.trans' x130 (fun b hb => .inr (by simp at hb; omega))
  have z130 := x130.size
  have d130 := d.ext0 pk e130
  refine ⟨w130, hr130, ptr_in ⟨_, _, _, d130.fx.f.cell (i := 0) rfl, V.when_intro (by kernel_rfl) fun Rc l w135 hl h135 hy => ?_⟩⟩
  obtain ⟨l0, m0, x135, z135⟩ := enter_new hl h135
  obtain ⟨bk, hbk⟩ : ∃ bk, w126.heap.size = bk := ⟨_, rfl⟩
  obtain ⟨D, hD⟩ : ∃ D, w130.heap.size = D := ⟨_, rfl⟩
  rw [hbk] at b130 hy
  rw [hD] at m0
  have e135 := e130.trans x135
  have d135' : Dy K w126 [] (bk :: l :: rb :: D :: ds125) w135 es a c := d.more pk e135 (fun b hb => by
    simp only [List.mem_cons] at hb
    rcases hb with rfl | rfl | rfl | rfl | hb
    · exact .inr ⟨by omega, by omega⟩
    · exact .inr ⟨by omega, by omega⟩
    · exact .inl (by simp)
    · exact .inr ⟨by omega, by omega⟩
    · exact .inl (by simp [hb])) (by simp)
  have d135 : Dy K w135 (rb :: D :: ds125) (bk :: l :: rb :: D :: ds125) w135 es a c := d135'.rebase (fun b hb => by simp at hb; simp [hb])
  have b135 := b130.ext0 x135
  have r135 := st.rbk.ext0 e135
  have old : ∀ b ∈ rb :: ds125, b < bk := fun b hb => by have := (d.sep b hb).2.2; omega
  have bk0 : bk ∉ rb :: D :: ds125 := fun hm => by
    simp only [List.mem_cons] at hm
    rcases hm with h | h | h
    · have := old rb (by simp); omega
    · omega
    · have := old bk (by simp [h]); omega
  have l0' : l ∉ rb :: D :: ds125 := fun hm => by
    simp only [List.mem_cons] at hm
    rcases hm with h | h | h
    · have := old rb (by simp); omega
    · omega
    · have := old l (by simp [h]); omega
  have hrl : K.rs.length = K.nm := by rw [← pk.nm, ← pk.nums, List.length_map]
  have nms := pk.nms
  -- behind the round
  have fin : ∀ (We : World) (kk : Nat) (es' : Nat → En) (a' c' : Nat), Dy K w135 (rb :: D :: ds125) (bk :: l :: rb :: D :: ds125) We es' a' c' → BlkT We bk [.int .i64 (kk : Int)] 3 → (r ≠ 1 → kk = K.nm) → (r = 1 → (kk : Int) = (if (if K.early > 1 then K.early else 1) < ((K.nm : Nat) : Int) then (if K.early > 1 then K.early else 1) else ((K.nm : Nat) : Int))) →
      (∃ J230 : Bool → World → Prop, (V.ptr (some (⟨rb, 0, none⟩ : Addr)) fun a231 =>
  ∃ n232, World.cell? (We) a231 = some (Value.int .i64 n232) ∧
  V.sel (n232 != 1)
  (∃ n233, World.cell? (We) ⟨bk, 0, none⟩ = some (Value.int .i64 n233) ∧
  ∃ A234, ∃ A234l, ∃ A234c, World.cell? (We) ⟨K.bN, 0, none⟩ = some (Value.slice A234 A234l A234c) ∧
  V.sel (n233 != ((A234l : Nat) : Int))
  (J230 true (We))
  (V.ptr (some (⟨rb, 0, none⟩ : Addr)) fun a235 =>
  ∃ n236, World.cell? (We) a235 = some (Value.int .i64 n236) ∧
  V.sel (n236 == 1)
  (∃ n237, World.cell? (We) ⟨bk, 0, none⟩ = some (Value.int .i64 n237) ∧
  ∃ A238, ∃ A238l, ∃ A238c, World.cell? (We) ⟨K.bN, 0, none⟩ = some (Value.slice A238 A238l A238c) ∧
  V.ptr (some (⟨K.eb, 0, none⟩ : Addr)) fun a239 =>
  ∃ n240, World.cell? (We) a239 = some (Value.int .i64 n240) ∧
  J230 (n237 != (if (if n240 > 1 then n240 else 1) < ((A238l : Nat) : Int) then (if n240 > 1 then n240 else 1) else ((A238l : Nat) : Int))) (We))
  (J230 false (We))))
  (V.ptr (some (⟨rb, 0, none⟩ : Addr)) fun a241 =>
  ∃ n242, World.cell? (We) a241 = some (Value.int .i64 n242) ∧
  V.sel (n242 == 1)
  (∃ n243, World.cell? (We) ⟨bk, 0, none⟩ = some (Value.int .i64 n243) ∧
  ∃ A244, ∃ A244l, ∃ A244c, World.cell? (We) ⟨K.bN, 0, none⟩ = some (Value.slice A244 A244l A244c) ∧
  V.ptr (some (⟨K.eb, 0, none⟩ : Addr)) fun a245 =>
  ∃ n246, World.cell? (We) a245 = some (Value.int .i64 n246) ∧
  J230 (n243 != (if (if n246 > 1 then n246 else 1) < ((A244l : Nat) : Int) then (if n246 > 1 then n246 else 1) else ((A244l : Nat) : Int))) (We))
  (J230 false (We)))) ∧
  ∀ t175_247 (j248 : Nat → Value) (w249 : World), J230 t175_247 w249 →
  V.sel t175_247
  (∃ w250, Sem.run Try.prog (Instr.storeAt 4 (Value.pointer (some ⟨K.bR, 0, none⟩)) (Value.bool false)) w249 = .ok () w250 ∧
  V.closeR (D :: ds125) w250 fun w251 =>
  ∃ b252, World.cell? w251 ⟨K.bR, 0, none⟩ = some (Value.bool b252) ∧
  R (Ending.returned (Value.bool b252)) w251)
  (V.ptr (some (⟨rb, 0, none⟩ : Addr)) fun a253 =>
  ∃ n254, World.cell? w249 a253 = some (Value.int .i64 n254) ∧
  ∀ w255, w255 = (World.alloc w249 (.cells #[(Value.int .i64 0)] 3)) →
  ∃ w256, Sem.run Try.prog (Instr.storeAt 3 (Value.pointer (some ⟨Array.size (World.heap w249), 0, none⟩)) (Value.int .i64 n254)) w255 = .ok () w256 ∧
  ∃ n257, World.cell? w256 ⟨Array.size (World.heap w249), 0, none⟩ = some (Value.int .i64 n257) ∧
  ∃ w258, Sem.run Try.prog (Instr.storeAt 3 (Value.pointer (some ⟨Array.size (World.heap w249), 0, none⟩)) (Value.int .i64 (IntKind.wrap .i64 (n257 + 1)))) w256 = .ok () w258 ∧
  I121 (some ⟨Array.size (World.heap w249), 0, none⟩) (D :: ds125) w258 ∧ μ122 (some ⟨Array.size (World.heap w249), 0, none⟩) w258 < μ122 (some (⟨rb, 0, none⟩ : Addr)) w126)) := by
    intro We kk es' a' c' dE kE h0 h1
    have rE := dE.blk r135 (by simp)
    refine ⟨fun t w' => t = false ∧ w' = We, ptr_in ⟨_, rE.cell (i := 0) rfl, sel_intro (fun hne => ?_) (fun heq => ?_)⟩, ?_⟩
    · have hr : r ≠ 1 := fun h => by subst h; simp at hne
      refine ⟨_, kE.cell (i := 0) rfl, _, _, _, dE.fx.n.cell (i := 0) rfl, sel_false (by rw [h0 hr]; simp) (ptr_in ⟨_, rE.cell (i := 0) rfl, sel_false ?_ ⟨rfl, rfl⟩⟩)⟩
      rw [beq_eq_false_iff_ne]; omega
    · have hr : r = 1 := by
        have : (r : Int) = 1 := by simpa using heq
        omega
      refine ptr_in ⟨_, rE.cell (i := 0) rfl, sel_true (by subst hr; rfl) ⟨_, kE.cell (i := 0) rfl, _, _, _, dE.fx.n.cell (i := 0) rfl, ptr_in ⟨_, dE.fx.e.cell (i := 0) rfl, ?_, rfl⟩⟩⟩
      rw [h1 hr]; simp
    · rintro t _ w249 ⟨rfl, rfl⟩
      refine sel_false rfl (ptr_in ⟨_, rE.cell (i := 0) rfl, fun w255 h255 => ?_⟩)
      obtain ⟨b255, x255, z255⟩ := box_new (cs := [.int .i64 0]) h255
      obtain ⟨w256, hr256, b256, x256⟩ := store1 (P := Try.prog) (v := .int .i64 (r : Int)) i3s' b255 (i := 0) (by simp) rfl rfl
      have b256 : BlkT w256 w249.heap.size [.int .i64 (r : Int)] 3 := by simpa using b256
      obtain ⟨w258, hr258, b258, x258⟩ := store1 (P := Try.prog) (v := .int .i64 ((r + 1 : Nat) : Int)) i3s' b256 (i := 0) (by simp) rfl rfl
      have b258 : BlkT w258 w249.heap.size [.int .i64 ((r + 1 : Nat) : Int)] 3 := by simpa using b258
      have e258 : Ext [] w249 w258 := (x255.trans' x256 (fun b hb => .inr (by simp at hb; omega))).trans' x258 (fun b hb => .inr (by simp at hb; omega))
      have z258 := e258.size
      have hb258 := b258.lt
      have hup : IntKind.wrap .i64 ((r : Int) + 1) = ((r + 1 : Nat) : Int) := up64 r (by have := st.small; omega)
      refine ⟨w256, hr256, _, b256.cell (i := 0) rfl, w258, by rw [hup]; exact hr258, k w249.heap.size (D :: ds125) w258 ⟨⟨es', a', c', ?_⟩, b258, fun x hx => ?_, ?_, fun hm => ?_, by omega⟩⟩
      · have d1 := dE.more (L' := w249.heap.size :: bk :: l :: rb :: D :: ds125) pk e258 (fun b hb => by
          rcases List.mem_cons.1 hb with rfl | hb
          · exact .inr ⟨Nat.le_refl _, hb258⟩
          · exact .inl hb) (fun b hb => by simp at hb; simp [hb])
        exact (d1.rebase (L0' := []) (by simp)).fewer (fun b hb => by simp at hb; rcases hb with h | h | h <;> simp [h]) (by simp)
      · have h1 : Mrk w249 x := by
          rcases List.mem_cons.1 hx with rfl | hx
          · exact dE.mrk m0 (by simp)
          · exact dE.mrk ((st.mks x hx).ext e135 (by simp)) (by simp [hx])
        exact h1.ext e258 (by simp)
      · exact List.nodup_cons.2 ⟨fun hm => by have := old D (by simp [hm]); omega, st.nd⟩
      · have hm2 : w249.heap.size ∈ bk :: l :: rb :: D :: ds125 := by
          simp only [List.mem_cons] at hm ⊢
          rcases hm with h | h
          · simp [h]
          · simp [h]
        have := (dE.sep _ hm2).2.2; omega
  refine (Rows_iter (b0 := K.b0) (A := K.RA) (c := K.rc) (rs := K.rs) (by omega)).range (I := fun ps w' => ∃ es a c, Dy K w135 (rb :: D :: ds125) (bk :: l :: rb :: D :: ds125) w' es a c ∧ BlkT w' bk [.int .i64 (ps.length : Int)] 3 ∧ (r = 1 → ps = [] ∨ (ps.length : Int) < K.early))
    (Q := fun p w' => p = .exit 4 ∧ r = 1 ∧ ∃ es a c, ∃ kk : Nat, Dy K w135 (rb :: D :: ds125) (bk :: l :: rb :: D :: ds125) w' es a c ∧ BlkT w' bk [.int .i64 (kk : Int)] 3 ∧ kk ≤ K.nm ∧ (kk : Int) = (if K.early > 1 then K.early else 1))
    (fun nn p W' R' g1 g2 => hy nn p W' R' g1 g2) l0 ⟨es, a, c, d135, b135, fun _ => .inl rfl⟩ ?_ ?_ ?_ ?_ ?_ ?_
  · rintro ps w1 w2 e ⟨es, a, c, g1, g2, g3⟩
    exact ⟨es, a, c, g1.touch pk e (fun b hb => by simp at hb; subst hb; exact .inl ⟨by simp, l0'⟩), g2.ext e (by simp; omega), g3⟩
  · rintro p w1 w2 e ⟨h1, h2, es, a, c, kk, g1, g2, g3⟩
    exact ⟨h1, h2, es, a, c, kk, g1.touch pk e (fun b hb => by simp at hb; subst hb; exact .inl ⟨by simp, l0'⟩), g2.ext e (by simp; omega), g3⟩
  · rintro ps w1 ⟨es, a, c, g1, _⟩
    exact g1.fx.rows
  · rintro ps y rest w1 Wy p bw R' hsp ⟨es, a, c, g1, g2, g3⟩ hl1 hWy hp hbw sy hS k1 k2
    have hps : ps.length + 1 ≤ K.nm := by rw [← hrl, hsp]; simp
    have r1 := g1.blk r135 (by simp)
    have key := body1 pk hsp g1 r1 (by simp) g2 ⟨by simp, bk0⟩ ⟨by simp, l0'⟩ (by omega) hWy hp hbw sy hS r135 (R' := R') (fun G w2 es' a' c' hl hG hx hd hb he => k1 G w2 hl hG hx ⟨es', a', c', hd, by rw [List.length_append]; exact hb, fun h => .inr (by rw [List.length_append]; exact he h)⟩)
      (fun G w2 es' a' c' hl hG hx hd hb hr he => k2 G w2 _ hl hG hx ⟨rfl, hr, es', a', c', ps.length + 1, hd, hb, hps, by
        rcases g3 hr with h | h
        · subst h; simp at he ⊢; omega
        · split <;> omega⟩)
    exact key
  · rintro w229 hl229 ⟨es, a, c, g1, g2, g3⟩
    have xe := setLoop_ext w229 l Rc .exhausted none
    have := fin (setLoop w229 l Rc .exhausted none) K.rs.length es a c (g1.touch pk xe (fun b hb => by simp at hb; subst hb; exact .inl ⟨by simp, l0'⟩)) (g2.ext xe (by simp; omega)) (fun _ => hrl) (fun h => by
      rw [hrl]
      rcases g3 h with h | h
      · have : K.nm = 0 := by rw [← hrl, h]; rfl
        rw [this]; split <;> split <;> omega
      · rw [hrl] at h; split <;> split <;> omega)
    rw [← hbk, ← hD] at this
    exact .inl ⟨hl229, this⟩
  · rintro w229 p hl229 ⟨rfl, hr, es, a, c, kk, g1, g2, g3, g4⟩
    have xe := setLoop_ext w229 l Rc .exhausted (some (Code.exit 4))
    have := fin (setLoop w229 l Rc .exhausted (some (Code.exit 4))) kk es a c (g1.touch pk xe (fun b hb => by simp at hb; subst hb; exact .inl ⟨by simp, l0'⟩)) (g2.ext xe (by simp; omega)) (fun h => absurd hr h) (fun _ => by
      rw [← g4]
      split <;> omega)
    rw [← hbk, ← hD] at this
    exact .inr (.inr (.inl ⟨hl229, this⟩))
def roundOf (q : Option Addr) (w : World) : Nat := match q with
  | some a => match w.cell? a with
    | some (.int _ r) => r.toNat
    | _ => 0
  | none => 0
theorem roundOf_blk {w : World} {b r : Nat} (h : BlkT w b [.int .i64 (r : Int)] 3) : roundOf (some ⟨b, 0, none⟩) w = r := by
  have := h.cell (i := 0) rfl
  simp [roundOf, this]
set_option maxRecDepth 8000 in
theorem rounds_c {K : WK} (pk : PK K) {w120 : World} {rb : Nat} {r : Nat} (st : RdSt K w120 rb [] r) {R : Ending → World → Prop} (k : ∀ w', Ext [] K.W w' → R (.returned (.bool true)) w') :
    (∃ I121 : Option Addr → List Nat → World → Prop, ∃ μ122 : Option Addr → World → Nat, I121 (some ⟨rb, 0, none⟩) [] w120 ∧
  ∀ round_123 (j124 : Nat → Value) (ds125 : List Nat) (w126 : World), I121 round_123 ds125 w126 →
  (V.ptr round_123 fun a127 =>
  ∃ n128, World.cell? w126 a127 = some (Value.int .i64 n128) ∧
  V.sel (decide (n128 < 3))
  (∀ w129, w129 = (World.alloc w126 (.cells #[(Value.int .i64 0)] 3)) →
  ∃ w130, Sem.run Try.prog (Instr.storeAt 3 (Value.pointer (some ⟨Array.size (World.heap w126), 0, none⟩)) (Value.int .i64 0)) w129 = .ok () w130 ∧
  V.ptr (some (⟨K.wb, 0, none⟩ : Addr)) fun a131 =>
  ∃ f132, ∃ f132a, ∃ f132c, World.cell? w130 a131 = some (Value.func (.func f132) f132a f132c) ∧
  V.when (V.hasB Try.prog f132 && true) (∀ (Rc133 : Loop) (l134 : Nat) (w135 : World), l134 = Array.size (World.heap w130) + 1 → w135 = World.alloc (World.alloc w130 (.deferred (some []))) (.loop { Rc133 with state := .ready, pending := none }) →
  (∀ y85_138 y86_139 (W136 : World) (R137 : Ending → World → Prop), V.LoopSt W136 l134 Rc133 .ready none →
  (V.LoopSt W136 l134 Rc133 .ready none ∧
  ∃ J140 : World → Prop, (∃ J141 : Bool → World → Prop, (∃ n142, World.cell? (V.setLoop W136 l134 Rc133 .busy none) ⟨Array.size (World.heap w126), 0, none⟩ = some (Value.int .i64 n142) ∧
  ∃ A143, ∃ A143l, ∃ A143c, World.cell? (V.setLoop W136 l134 Rc133 .busy none) ⟨K.bN, 0, none⟩ = some (Value.slice A143 A143l A143c) ∧
  V.sel (decide (n142 ≥ ((A143l : Nat) : Int)))
  (J141 true (V.setLoop W136 l134 Rc133 .busy none))
  (∃ A144, ∃ A144l, ∃ A144c, World.cell? (V.setLoop W136 l134 Rc133 .busy none) ⟨K.bN, 0, none⟩ = some (Value.slice A144 A144l A144c) ∧
  ∃ n145, World.cell? (V.setLoop W136 l134 Rc133 .busy none) ⟨Array.size (World.heap w126), 0, none⟩ = some (Value.int .i64 n145) ∧
  V.when (decide ((0 : Int) ≤ n145 ∧ (n145 : Int) < ((A144l : Nat) : Int))) (V.ptr A144 fun a146 =>
  ∃ n147, World.cell? (V.setLoop W136 l134 Rc133 .busy none) (Addr.add a146 ((Int.toNat n145) * 1)) = some (Value.int .i64 n147) ∧
  V.sel (y85_138 != n147)
  (J141 true (V.setLoop W136 l134 Rc133 .busy none))
  (∃ n148, ∃ A149, ∃ A149l, ∃ A149c, V.cellsC (fun a_ x_ => World.cell? (V.setLoop W136 l134 Rc133 .busy none) a_ = some x_) ⟨K.bT, 0, none⟩ [(Value.int .i64 n148), (Value.slice A149 A149l A149c)] ∧
  V.ptr (some (⟨K.kb, 0, none⟩ : Addr)) fun a150 =>
  ∃ s151, World.cell? (V.setLoop W136 l134 Rc133 .busy none) a150 = some (Value.string s151) ∧
  Calls Try.prog 29 #[(Value.agg #[(Value.int .i64 n148), (Value.slice A149 A149l A149c)]), (Value.string s151), (Value.int .i64 y85_138), (Value.int .i64 y85_138)] (V.setLoop W136 l134 Rc133 .busy none) fun e153 w154 =>
  ∃ A152, ∃ A152l, ∃ A152c, e153 = Ending.returned (Value.slice A152 A152l A152c) ∧
  Calls Try.prog 28 #[(Value.pointer y86_139), (Value.int .i64 200), (Value.slice A152 A152l A152c)] w154 fun e156 w157 =>
  ∃ b155, e156 = Ending.returned (Value.bool b155) ∧
  J141 (!b155) w157)))) ∧
  ∀ t108_158 (j159 : Nat → Value) (w160 : World), J141 t108_158 w160 →
  V.sel t108_158
  (∃ w161, Sem.run Try.prog (Instr.storeAt 4 (Value.pointer (some ⟨K.bR, 0, none⟩)) (Value.bool false)) w160 = .ok () w161 ∧
  V.LoopSt w161 l134 Rc133 .busy none ∧ R137 (Ending.returned (Value.bool false)) (V.setLoop w161 l134 Rc133 .done (some Code.ret)))
  (J140  w160)) ∧
  ∀ (j162 : Nat → Value) (w163 : World), J140  w163 →
  ∃ n164, World.cell? w163 ⟨Array.size (World.heap w126), 0, none⟩ = some (Value.int .i64 n164) ∧
  Calls Try.prog 30 #[(Value.pointer y86_139), (Value.int .i64 n164)] w163 fun e166 w167 =>
  ∃ b165, e166 = Ending.returned (Value.bool b165) ∧
  Calls Try.prog 32 #[(Value.pointer y86_139)] w167 fun e169 w170 =>
  ∃ p168, e169 = Ending.returned (Value.pointer p168) ∧
  Calls Try.prog 31 #[(Value.pointer y86_139), (Value.pointer p168)] w170 fun e171 w172 =>
  e171 = Ending.returned undef ∧
  ∃ n173, World.cell? w172 ⟨Array.size (World.heap w126), 0, none⟩ = some (Value.int .i64 n173) ∧
  ∃ w174, Sem.run Try.prog (Instr.storeAt 3 (Value.pointer (some ⟨Array.size (World.heap w126), 0, none⟩)) (Value.int .i64 (IntKind.wrap .i64 (n173 + 1)))) w172 = .ok () w174 ∧
  ∃ J175 : World → Prop, (∃ I176 : Int → World → Prop, ∃ μ177 : Int → World → Nat, I176 0 w174 ∧
  ∀ j_178 (j179 : Nat → Value) (w180 : World), I176 j_178 w180 →
  (∃ J181 : World → Prop, (V.sel (decide (j_178 < 2))
  (∃ n182, World.cell? w180 ⟨K.bAt, 0, none⟩ = some (Value.int .i64 n182) ∧
  ∃ A183, ∃ A183l, ∃ A183c, World.cell? w180 ⟨K.bA, 0, none⟩ = some (Value.slice A183 A183l A183c) ∧
  V.sel (decide (n182 < ((A183l : Nat) : Int)))
  (J181  w180)
  (J175  w180))
  (J175  w180)) ∧
  ∀ (j184 : Nat → Value) (w185 : World), J181  w185 →
  ∃ A186, ∃ A186l, ∃ A186c, World.cell? w185 ⟨K.bA, 0, none⟩ = some (Value.slice A186 A186l A186c) ∧
  ∃ n187, World.cell? w185 ⟨K.bAt, 0, none⟩ = some (Value.int .i64 n187) ∧
  V.when (decide ((0 : Int) ≤ n187 ∧ (n187 : Int) < ((A186l : Nat) : Int))) (V.ptr A186 fun a188 =>
  ∃ n189, ∃ n190, ∃ n191, ∃ s192, ∃ n193, ∃ n194, ∃ n195, ∃ A196, ∃ A196l, ∃ A196c, V.cellsC (fun a_ x_ => World.cell? w185 a_ = some x_) (Addr.add a188 ((Int.toNat n187) * 8)) [(Value.int .i64 n189), (Value.int .i64 n190), (Value.int .i64 n191), (Value.string s192), (Value.int .i64 n193), (Value.int .i64 n194), (Value.int .i64 n195), (Value.slice A196 A196l A196c)] ∧
  ∀ w197, w197 = (World.alloc w185 (.cells #[(Value.int .i64 0), (Value.int .i64 0), (Value.int .i64 0), (Value.string ByteArray.empty), (Value.int .i64 0), (Value.int .i64 0), (Value.int .i64 0), (Value.slice none 0 0)] 50)) →
  ∃ w198, Sem.run Try.prog (Instr.storeAt 50 (Value.pointer (some ⟨Array.size (World.heap w185), 0, none⟩)) (Value.agg #[(Value.int .i64 n189), (Value.int .i64 n190), (Value.int .i64 n191), (Value.string s192), (Value.int .i64 n193), (Value.int .i64 n194), (Value.int .i64 n195), (Value.slice A196 A196l A196c)])) w197 = .ok () w198 ∧
  ∃ n199, World.cell? w198 ⟨K.bAt, 0, none⟩ = some (Value.int .i64 n199) ∧
  ∃ w200, Sem.run Try.prog (Instr.storeAt 3 (Value.pointer (some ⟨K.bAt, 0, none⟩)) (Value.int .i64 (IntKind.wrap .i64 (n199 + 1)))) w198 = .ok () w200 ∧
  ∃ J201 : Bool → World → Prop, (∃ n202, World.cell? w200 (Addr.add ⟨Array.size (World.heap w185), 0, none⟩ 0) = some (Value.int .i64 n202) ∧
  V.sel (decide (n202 ≤ 3))
  (∃ n203, World.cell? w200 (Addr.add ⟨Array.size (World.heap w185), 0, none⟩ 0) = some (Value.int .i64 n203) ∧
  V.sel (n203 != 1)
  (∃ p204, World.cell? w200 ⟨K.bW, 0, none⟩ = some (Value.pointer p204) ∧
  ∃ n205, ∃ n206, ∃ n207, ∃ s208, ∃ n209, ∃ n210, ∃ n211, ∃ A212, ∃ A212l, ∃ A212c, V.cellsC (fun a_ x_ => World.cell? w200 a_ = some x_) ⟨Array.size (World.heap w185), 0, none⟩ [(Value.int .i64 n205), (Value.int .i64 n206), (Value.int .i64 n207), (Value.string s208), (Value.int .i64 n209), (Value.int .i64 n210), (Value.int .i64 n211), (Value.slice A212 A212l A212c)] ∧
  Calls Try.prog 26 #[(Value.pointer p204), (Value.agg #[(Value.int .i64 n205), (Value.int .i64 n206), (Value.int .i64 n207), (Value.string s208), (Value.int .i64 n209), (Value.int .i64 n210), (Value.int .i64 n211), (Value.slice A212 A212l A212c)]), (Value.int .i64 2)] w200 fun e214 w215 =>
  ∃ b213, e214 = Ending.returned (Value.bool b213) ∧
  J201 (!b213) w215)
  (J201 false w200))
  (J201 false w200)) ∧
  ∀ t147_216 (j217 : Nat → Value) (w218 : World), J201 t147_216 w218 →
  V.sel t147_216
  (∃ w219, Sem.run Try.prog (Instr.storeAt 4 (Value.pointer (some ⟨K.bR, 0, none⟩)) (Value.bool false)) w218 = .ok () w219 ∧
  V.LoopSt w219 l134 Rc133 .busy none ∧ R137 (Ending.returned (Value.bool false)) (V.setLoop w219 l134 Rc133 .done (some Code.ret)))
  (I176 (IntKind.wrap .i64 (j_178 + 1)) w218 ∧ μ177 (IntKind.wrap .i64 (j_178 + 1)) w218 < μ177 j_178 w180)))) ∧
  ∀ (j220 : Nat → Value) (w221 : World), J175  w221 →
  V.ptr round_123 fun a222 =>
  ∃ n223, World.cell? w221 a222 = some (Value.int .i64 n223) ∧
  V.sel (n223 == 1)
  (∃ n224, World.cell? w221 ⟨Array.size (World.heap w126), 0, none⟩ = some (Value.int .i64 n224) ∧
  V.ptr (some (⟨K.eb, 0, none⟩ : Addr)) fun a225 =>
  ∃ n226, World.cell? w221 a225 = some (Value.int .i64 n226) ∧
  V.sel (decide (n224 ≥ n226))
  (V.LoopSt w221 l134 Rc133 .busy none ∧ R137 (Ending.returned (Value.bool false)) (V.setLoop w221 l134 Rc133 .done (some (Code.exit 4))))
  (V.LoopSt w221 l134 Rc133 .busy none ∧ R137 (Ending.returned (Value.bool true)) (V.setLoop w221 l134 Rc133 .ready none)))
  (V.LoopSt w221 l134 Rc133 .busy none ∧ R137 (Ending.returned (Value.bool true)) (V.setLoop w221 l134 Rc133 .ready none))) →
  V.Yield Try.prog l134 [(Value.int .i64 y85_138), (Value.pointer y86_139)] W136 R137) →
  Calls Try.prog f132 ⟨Array.toList f132a ++ [(Value.func (.yield l134) #[] #[])] ++ Array.toList f132c⟩ w135 fun e227 w229 => (∃ v228, e227 = Ending.returned v228) ∧
  ((V.LoopSt w229 l134 Rc133 .ready none ∧
  ∃ J230 : Bool → World → Prop, (V.ptr round_123 fun a231 =>
  ∃ n232, World.cell? (V.setLoop w229 l134 Rc133 .exhausted none) a231 = some (Value.int .i64 n232) ∧
  V.sel (n232 != 1)
  (∃ n233, World.cell? (V.setLoop w229 l134 Rc133 .exhausted none) ⟨Array.size (World.heap w126), 0, none⟩ = some (Value.int .i64 n233) ∧
  ∃ A234, ∃ A234l, ∃ A234c, World.cell? (V.setLoop w229 l134 Rc133 .exhausted none) ⟨K.bN, 0, none⟩ = some (Value.slice A234 A234l A234c) ∧
  V.sel (n233 != ((A234l : Nat) : Int))
  (J230 true (V.setLoop w229 l134 Rc133 .exhausted none))
  (V.ptr round_123 fun a235 =>
  ∃ n236, World.cell? (V.setLoop w229 l134 Rc133 .exhausted none) a235 = some (Value.int .i64 n236) ∧
  V.sel (n236 == 1)
  (∃ n237, World.cell? (V.setLoop w229 l134 Rc133 .exhausted none) ⟨Array.size (World.heap w126), 0, none⟩ = some (Value.int .i64 n237) ∧
  ∃ A238, ∃ A238l, ∃ A238c, World.cell? (V.setLoop w229 l134 Rc133 .exhausted none) ⟨K.bN, 0, none⟩ = some (Value.slice A238 A238l A238c) ∧
  V.ptr (some (⟨K.eb, 0, none⟩ : Addr)) fun a239 =>
  ∃ n240, World.cell? (V.setLoop w229 l134 Rc133 .exhausted none) a239 = some (Value.int .i64 n240) ∧
  J230 (n237 != (if (if n240 > 1 then n240 else 1) < ((A238l : Nat) : Int) then (if n240 > 1 then n240 else 1) else ((A238l : Nat) : Int))) (V.setLoop w229 l134 Rc133 .exhausted none))
  (J230 false (V.setLoop w229 l134 Rc133 .exhausted none))))
  (V.ptr round_123 fun a241 =>
  ∃ n242, World.cell? (V.setLoop w229 l134 Rc133 .exhausted none) a241 = some (Value.int .i64 n242) ∧
  V.sel (n242 == 1)
  (∃ n243, World.cell? (V.setLoop w229 l134 Rc133 .exhausted none) ⟨Array.size (World.heap w126), 0, none⟩ = some (Value.int .i64 n243) ∧
  ∃ A244, ∃ A244l, ∃ A244c, World.cell? (V.setLoop w229 l134 Rc133 .exhausted none) ⟨K.bN, 0, none⟩ = some (Value.slice A244 A244l A244c) ∧
  V.ptr (some (⟨K.eb, 0, none⟩ : Addr)) fun a245 =>
  ∃ n246, World.cell? (V.setLoop w229 l134 Rc133 .exhausted none) a245 = some (Value.int .i64 n246) ∧
  J230 (n243 != (if (if n246 > 1 then n246 else 1) < ((A244l : Nat) : Int) then (if n246 > 1 then n246 else 1) else ((A244l : Nat) : Int))) (V.setLoop w229 l134 Rc133 .exhausted none))
  (J230 false (V.setLoop w229 l134 Rc133 .exhausted none)))) ∧
  ∀ t175_247 (j248 : Nat → Value) (w249 : World), J230 t175_247 w249 →
  V.sel t175_247
  (∃ w250, Sem.run Try.prog (Instr.storeAt 4 (Value.pointer (some ⟨K.bR, 0, none⟩)) (Value.bool false)) w249 = .ok () w250 ∧
  V.closeR (Array.size (World.heap w130) :: ds125) w250 fun w251 =>
  ∃ b252, World.cell? w251 ⟨K.bR, 0, none⟩ = some (Value.bool b252) ∧
  R (Ending.returned (Value.bool b252)) w251)
  (V.ptr round_123 fun a253 =>
  ∃ n254, World.cell? w249 a253 = some (Value.int .i64 n254) ∧
  ∀ w255, w255 = (World.alloc w249 (.cells #[(Value.int .i64 0)] 3)) →
  ∃ w256, Sem.run Try.prog (Instr.storeAt 3 (Value.pointer (some ⟨Array.size (World.heap w249), 0, none⟩)) (Value.int .i64 n254)) w255 = .ok () w256 ∧
  ∃ n257, World.cell? w256 ⟨Array.size (World.heap w249), 0, none⟩ = some (Value.int .i64 n257) ∧
  ∃ w258, Sem.run Try.prog (Instr.storeAt 3 (Value.pointer (some ⟨Array.size (World.heap w249), 0, none⟩)) (Value.int .i64 (IntKind.wrap .i64 (n257 + 1)))) w256 = .ok () w258 ∧
  I121 (some ⟨Array.size (World.heap w249), 0, none⟩) (Array.size (World.heap w130) :: ds125) w258 ∧ μ122 (some ⟨Array.size (World.heap w249), 0, none⟩) w258 < μ122 round_123 w126)) ∨
  (V.LoopSt w229 l134 Rc133 .done (some Code.ret) ∧
  V.closeR (Array.size (World.heap w130) :: ds125) (V.setLoop w229 l134 Rc133 .exhausted (some Code.ret)) fun w259 =>
  ∃ b260, World.cell? w259 ⟨K.bR, 0, none⟩ = some (Value.bool b260) ∧
  R (Ending.returned (Value.bool b260)) w259) ∨
  (V.LoopSt w229 l134 Rc133 .done (some (Code.exit 4)) ∧
  ∃ J261 : Bool → World → Prop, (V.ptr round_123 fun a262 =>
  ∃ n263, World.cell? (V.setLoop w229 l134 Rc133 .exhausted (some (Code.exit 4))) a262 = some (Value.int .i64 n263) ∧
  V.sel (n263 != 1)
  (∃ n264, World.cell? (V.setLoop w229 l134 Rc133 .exhausted (some (Code.exit 4))) ⟨Array.size (World.heap w126), 0, none⟩ = some (Value.int .i64 n264) ∧
  ∃ A265, ∃ A265l, ∃ A265c, World.cell? (V.setLoop w229 l134 Rc133 .exhausted (some (Code.exit 4))) ⟨K.bN, 0, none⟩ = some (Value.slice A265 A265l A265c) ∧
  V.sel (n264 != ((A265l : Nat) : Int))
  (J261 true (V.setLoop w229 l134 Rc133 .exhausted (some (Code.exit 4))))
  (V.ptr round_123 fun a266 =>
  ∃ n267, World.cell? (V.setLoop w229 l134 Rc133 .exhausted (some (Code.exit 4))) a266 = some (Value.int .i64 n267) ∧
  V.sel (n267 == 1)
  (∃ n268, World.cell? (V.setLoop w229 l134 Rc133 .exhausted (some (Code.exit 4))) ⟨Array.size (World.heap w126), 0, none⟩ = some (Value.int .i64 n268) ∧
  ∃ A269, ∃ A269l, ∃ A269c, World.cell? (V.setLoop w229 l134 Rc133 .exhausted (some (Code.exit 4))) ⟨K.bN, 0, none⟩ = some (Value.slice A269 A269l A269c) ∧
  V.ptr (some (⟨K.eb, 0, none⟩ : Addr)) fun a270 =>
  ∃ n271, World.cell? (V.setLoop w229 l134 Rc133 .exhausted (some (Code.exit 4))) a270 = some (Value.int .i64 n271) ∧
  J261 (n268 != (if (if n271 > 1 then n271 else 1) < ((A269l : Nat) : Int) then (if n271 > 1 then n271 else 1) else ((A269l : Nat) : Int))) (V.setLoop w229 l134 Rc133 .exhausted (some (Code.exit 4))))
  (J261 false (V.setLoop w229 l134 Rc133 .exhausted (some (Code.exit 4))))))
  (V.ptr round_123 fun a272 =>
  ∃ n273, World.cell? (V.setLoop w229 l134 Rc133 .exhausted (some (Code.exit 4))) a272 = some (Value.int .i64 n273) ∧
  V.sel (n273 == 1)
  (∃ n274, World.cell? (V.setLoop w229 l134 Rc133 .exhausted (some (Code.exit 4))) ⟨Array.size (World.heap w126), 0, none⟩ = some (Value.int .i64 n274) ∧
  ∃ A275, ∃ A275l, ∃ A275c, World.cell? (V.setLoop w229 l134 Rc133 .exhausted (some (Code.exit 4))) ⟨K.bN, 0, none⟩ = some (Value.slice A275 A275l A275c) ∧
  V.ptr (some (⟨K.eb, 0, none⟩ : Addr)) fun a276 =>
  ∃ n277, World.cell? (V.setLoop w229 l134 Rc133 .exhausted (some (Code.exit 4))) a276 = some (Value.int .i64 n277) ∧
  J261 (n274 != (if (if n277 > 1 then n277 else 1) < ((A275l : Nat) : Int) then (if n277 > 1 then n277 else 1) else ((A275l : Nat) : Int))) (V.setLoop w229 l134 Rc133 .exhausted (some (Code.exit 4))))
  (J261 false (V.setLoop w229 l134 Rc133 .exhausted (some (Code.exit 4)))))) ∧
  ∀ t175_278 (j279 : Nat → Value) (w280 : World), J261 t175_278 w280 →
  V.sel t175_278
  (∃ w281, Sem.run Try.prog (Instr.storeAt 4 (Value.pointer (some ⟨K.bR, 0, none⟩)) (Value.bool false)) w280 = .ok () w281 ∧
  V.closeR (Array.size (World.heap w130) :: ds125) w281 fun w282 =>
  ∃ b283, World.cell? w282 ⟨K.bR, 0, none⟩ = some (Value.bool b283) ∧
  R (Ending.returned (Value.bool b283)) w282)
  (V.ptr round_123 fun a284 =>
  ∃ n285, World.cell? w280 a284 = some (Value.int .i64 n285) ∧
  ∀ w286, w286 = (World.alloc w280 (.cells #[(Value.int .i64 0)] 3)) →
  ∃ w287, Sem.run Try.prog (Instr.storeAt 3 (Value.pointer (some ⟨Array.size (World.heap w280), 0, none⟩)) (Value.int .i64 n285)) w286 = .ok () w287 ∧
  ∃ n288, World.cell? w287 ⟨Array.size (World.heap w280), 0, none⟩ = some (Value.int .i64 n288) ∧
  ∃ w289, Sem.run Try.prog (Instr.storeAt 3 (Value.pointer (some ⟨Array.size (World.heap w280), 0, none⟩)) (Value.int .i64 (IntKind.wrap .i64 (n288 + 1)))) w287 = .ok () w289 ∧
  I121 (some ⟨Array.size (World.heap w280), 0, none⟩) (Array.size (World.heap w130) :: ds125) w289 ∧ μ122 (some ⟨Array.size (World.heap w280), 0, none⟩) w289 < μ122 round_123 w126)) ∨
  False)))
  (∀ w290, w290 = (World.alloc w126 (.cells #[(Value.int .i64 0)] 3)) →
  ∃ w291, Sem.run Try.prog (Instr.storeAt 3 (Value.pointer (some ⟨Array.size (World.heap w126), 0, none⟩)) (Value.int .i64 0)) w290 = .ok () w291 ∧
  V.ptr (some (⟨K.wb, 0, none⟩ : Addr)) fun a292 =>
  ∃ f293, ∃ f293a, ∃ f293c, World.cell? w291 a292 = some (Value.func (.func f293) f293a f293c) ∧
  V.when (V.hasB Try.prog f293 && true) (∀ (Rc294 : Loop) (l295 : Nat) (w296 : World), l295 = Array.size (World.heap w291) + 1 → w296 = World.alloc (World.alloc w291 (.deferred (some []))) (.loop { Rc294 with state := .ready, pending := none }) →
  (∀ y178_299 y179_300 (W297 : World) (R298 : Ending → World → Prop), V.LoopSt W297 l295 Rc294 .ready none →
  (∀ w301, w301 = (World.alloc W297 (.cells #[(Value.int .i64 0)] 3)) →
  ∃ w302, Sem.run Try.prog (Instr.storeAt 3 (Value.pointer (some ⟨Array.size (World.heap W297), 0, none⟩)) (Value.int .i64 y178_299)) w301 = .ok () w302 ∧
  V.LoopSt w302 l295 Rc294 .ready none ∧
  ∃ J303 : World → Prop, (∃ J304 : Bool → World → Prop, (∃ n305, World.cell? (V.setLoop w302 l295 Rc294 .busy none) ⟨Array.size (World.heap w126), 0, none⟩ = some (Value.int .i64 n305) ∧
  ∃ A306, ∃ A306l, ∃ A306c, World.cell? (V.setLoop w302 l295 Rc294 .busy none) ⟨K.bN, 0, none⟩ = some (Value.slice A306 A306l A306c) ∧
  V.sel (decide (n305 ≥ ((A306l : Nat) : Int)))
  (J304 true (World.drew (V.setLoop w302 l295 Rc294 .busy none)))
  (∃ n307, World.cell? (V.setLoop w302 l295 Rc294 .busy none) ⟨Array.size (World.heap W297), 0, none⟩ = some (Value.int .i64 n307) ∧
  ∃ A308, ∃ A308l, ∃ A308c, World.cell? (V.setLoop w302 l295 Rc294 .busy none) ⟨K.bN, 0, none⟩ = some (Value.slice A308 A308l A308c) ∧
  ∃ n309, World.cell? (V.setLoop w302 l295 Rc294 .busy none) ⟨Array.size (World.heap w126), 0, none⟩ = some (Value.int .i64 n309) ∧
  V.when (decide ((0 : Int) ≤ n309 ∧ (n309 : Int) < ((A308l : Nat) : Int))) (V.ptr A308 fun a310 =>
  ∃ n311, World.cell? (V.setLoop w302 l295 Rc294 .busy none) (Addr.add a310 ((Int.toNat n309) * 1)) = some (Value.int .i64 n311) ∧
  J304 (n307 != n311) (World.drew (V.setLoop w302 l295 Rc294 .busy none))))) ∧
  ∀ t191_312 (j313 : Nat → Value) (w314 : World), J304 t191_312 w314 →
  V.sel t191_312
  (∃ w315, Sem.run Try.prog (Instr.storeAt 4 (Value.pointer (some ⟨K.bR, 0, none⟩)) (Value.bool false)) w314 = .ok () w315 ∧
  V.LoopSt w315 l295 Rc294 .busy none ∧ R298 (Ending.returned (Value.bool false)) (V.setLoop w315 l295 Rc294 .done (some Code.ret)))
  (J303  w314)) ∧
  ∀ (j316 : Nat → Value) (w317 : World), J303  w317 →
  ∀ w318, w318 = (World.alloc w317 (.cells #[(Value.int .i64 0)] 3)) →
  ∃ w319, Sem.run Try.prog (Instr.storeAt 3 (Value.pointer (some ⟨Array.size (World.heap w317), 0, none⟩)) (Value.int .i64 0)) w318 = .ok () w319 ∧
  V.ptr (some (⟨K.wb, 0, none⟩ : Addr)) fun a320 =>
  ∃ f321, ∃ f321a, ∃ f321c, World.cell? w319 a320 = some (Value.func (.func f321) f321a f321c) ∧
  V.when (V.hasB Try.prog f321 && true) ((∃ r0, (World.heap w319)[l295]? = some (.loop r0)) ∧
  ∀ (Rc322 : Loop) (l323 : Nat) (w324 : World), l323 = Array.size (World.heap w319) → w324 = World.alloc w319 (.loop { Rc322 with state := .ready, pending := none }) →
  (∀ y193_327 y194_328 (W325 : World) (R326 : Ending → World → Prop), V.LoopSt W325 l323 Rc322 .ready none →
  (V.LoopSt W325 l323 Rc322 .ready none ∧
  ∃ J329 : World → Prop, (∃ J330 : Bool → World → Prop, (∃ n331, World.cell? (V.setLoop W325 l323 Rc322 .busy none) ⟨Array.size (World.heap w317), 0, none⟩ = some (Value.int .i64 n331) ∧
  ∃ A332, ∃ A332l, ∃ A332c, World.cell? (V.setLoop W325 l323 Rc322 .busy none) ⟨K.bN, 0, none⟩ = some (Value.slice A332 A332l A332c) ∧
  V.sel (decide (n331 ≥ ((A332l : Nat) : Int)))
  (J330 true (V.setLoop W325 l323 Rc322 .busy none))
  (∃ A333, ∃ A333l, ∃ A333c, World.cell? (V.setLoop W325 l323 Rc322 .busy none) ⟨K.bN, 0, none⟩ = some (Value.slice A333 A333l A333c) ∧
  ∃ n334, World.cell? (V.setLoop W325 l323 Rc322 .busy none) ⟨Array.size (World.heap w317), 0, none⟩ = some (Value.int .i64 n334) ∧
  V.when (decide ((0 : Int) ≤ n334 ∧ (n334 : Int) < ((A333l : Nat) : Int))) (V.ptr A333 fun a335 =>
  ∃ n336, World.cell? (V.setLoop W325 l323 Rc322 .busy none) (Addr.add a335 ((Int.toNat n334) * 1)) = some (Value.int .i64 n336) ∧
  J330 (y193_327 != n336) (V.setLoop W325 l323 Rc322 .busy none)))) ∧
  ∀ t206_337 (j338 : Nat → Value) (w339 : World), J330 t206_337 w339 →
  V.sel t206_337
  (∃ w340, Sem.run Try.prog (Instr.storeAt 4 (Value.pointer (some ⟨K.bR, 0, none⟩)) (Value.bool false)) w339 = .ok () w340 ∧
  V.LoopSt w340 l323 Rc322 .busy none ∧ R326 (Ending.returned (Value.bool false)) (V.setLoop w340 l323 Rc322 .done (some Code.ret)))
  (J329  w339)) ∧
  ∀ (j341 : Nat → Value) (w342 : World), J329  w342 →
  ∃ J343 : World → Prop, (∃ J344 : Bool → World → Prop, (∃ n345, World.cell? w342 ⟨Array.size (World.heap w317), 0, none⟩ = some (Value.int .i64 n345) ∧
  ∃ n346, World.cell? w342 ⟨Array.size (World.heap w126), 0, none⟩ = some (Value.int .i64 n346) ∧
  V.sel (n345 == n346)
  (∃ n347, ∃ A348, ∃ A348l, ∃ A348c, V.cellsC (fun a_ x_ => World.cell? w342 a_ = some x_) ⟨K.bT, 0, none⟩ [(Value.int .i64 n347), (Value.slice A348 A348l A348c)] ∧
  V.ptr (some (⟨K.kb, 0, none⟩ : Addr)) fun a349 =>
  ∃ s350, World.cell? w342 a349 = some (Value.string s350) ∧
  ∃ n351, World.cell? w342 ⟨Array.size (World.heap W297), 0, none⟩ = some (Value.int .i64 n351) ∧
  ∃ n352, World.cell? w342 ⟨Array.size (World.heap W297), 0, none⟩ = some (Value.int .i64 n352) ∧
  Calls Try.prog 29 #[(Value.agg #[(Value.int .i64 n347), (Value.slice A348 A348l A348c)]), (Value.string s350), (Value.int .i64 n351), (Value.int .i64 n352)] w342 fun e354 w355 =>
  ∃ A353, ∃ A353l, ∃ A353c, e354 = Ending.returned (Value.slice A353 A353l A353c) ∧
  Calls Try.prog 28 #[(Value.pointer y194_328), (Value.int .i64 200), (Value.slice A353 A353l A353c)] w355 fun e357 w358 =>
  ∃ b356, e357 = Ending.returned (Value.bool b356) ∧
  J344 (!b356) w358)
  (J344 false w342)) ∧
  ∀ t219_359 (j360 : Nat → Value) (w361 : World), J344 t219_359 w361 →
  V.sel t219_359
  (∃ w362, Sem.run Try.prog (Instr.storeAt 4 (Value.pointer (some ⟨K.bR, 0, none⟩)) (Value.bool false)) w361 = .ok () w362 ∧
  V.LoopSt w362 l323 Rc322 .busy none ∧ R326 (Ending.returned (Value.bool false)) (V.setLoop w362 l323 Rc322 .done (some Code.ret)))
  (J343  w361)) ∧
  ∀ (j363 : Nat → Value) (w364 : World), J343  w364 →
  Calls Try.prog 32 #[(Value.pointer y194_328)] w364 fun e366 w367 =>
  ∃ p365, e366 = Ending.returned (Value.pointer p365) ∧
  Calls Try.prog 31 #[(Value.pointer y194_328), (Value.pointer p365)] w367 fun e368 w369 =>
  e368 = Ending.returned undef ∧
  ∃ n370, World.cell? w369 ⟨Array.size (World.heap w317), 0, none⟩ = some (Value.int .i64 n370) ∧
  ∃ w371, Sem.run Try.prog (Instr.storeAt 3 (Value.pointer (some ⟨Array.size (World.heap w317), 0, none⟩)) (Value.int .i64 (IntKind.wrap .i64 (n370 + 1)))) w369 = .ok () w371 ∧
  ∃ n372, World.cell? w371 ⟨Array.size (World.heap w317), 0, none⟩ = some (Value.int .i64 n372) ∧
  ∃ n373, World.cell? w371 ⟨Array.size (World.heap w126), 0, none⟩ = some (Value.int .i64 n373) ∧
  V.sel (decide (n372 > n373))
  (V.LoopSt w371 l323 Rc322 .busy none ∧ R326 (Ending.returned (Value.bool false)) (V.setLoop w371 l323 Rc322 .done (some (Code.exit 10))))
  (V.LoopSt w371 l323 Rc322 .busy none ∧ R326 (Ending.returned (Value.bool true)) (V.setLoop w371 l323 Rc322 .ready none))) →
  V.Yield Try.prog l323 [(Value.int .i64 y193_327), (Value.pointer y194_328)] W325 R326) →
  Calls Try.prog f321 ⟨Array.toList f321a ++ [(Value.func (.yield l323) #[] #[])] ++ Array.toList f321c⟩ w324 fun e374 w376 => (∃ v375, e374 = Ending.returned v375) ∧
  ((V.LoopSt w376 l323 Rc322 .ready none ∧
  ∃ n377, ∃ A378, ∃ A378l, ∃ A378c, V.cellsC (fun a_ x_ => World.cell? (V.setLoop w376 l323 Rc322 .exhausted none) a_ = some x_) ⟨K.bT, 0, none⟩ [(Value.int .i64 n377), (Value.slice A378 A378l A378c)] ∧
  V.ptr (some (⟨K.kb, 0, none⟩ : Addr)) fun a379 =>
  ∃ s380, World.cell? (V.setLoop w376 l323 Rc322 .exhausted none) a379 = some (Value.string s380) ∧
  ∃ n381, World.cell? (V.setLoop w376 l323 Rc322 .exhausted none) ⟨Array.size (World.heap W297), 0, none⟩ = some (Value.int .i64 n381) ∧
  ∃ n382, World.cell? (V.setLoop w376 l323 Rc322 .exhausted none) ⟨Array.size (World.heap W297), 0, none⟩ = some (Value.int .i64 n382) ∧
  Calls Try.prog 29 #[(Value.agg #[(Value.int .i64 n377), (Value.slice A378 A378l A378c)]), (Value.string s380), (Value.int .i64 n381), (Value.int .i64 n382)] (V.setLoop w376 l323 Rc322 .exhausted none) fun e384 w385 =>
  ∃ A383, ∃ A383l, ∃ A383c, e384 = Ending.returned (Value.slice A383 A383l A383c) ∧
  Calls Try.prog 28 #[(Value.pointer y179_300), (Value.int .i64 200), (Value.slice A383 A383l A383c)] w385 fun e387 w388 =>
  ∃ b386, e387 = Ending.returned (Value.bool b386) ∧
  V.sel (!b386)
  (∃ w389, Sem.run Try.prog (Instr.storeAt 4 (Value.pointer (some ⟨K.bR, 0, none⟩)) (Value.bool false)) w388 = .ok () w389 ∧
  V.LoopSt w389 l295 Rc294 .busy none ∧ R298 (Ending.returned (Value.bool false)) (V.setLoop w389 l295 Rc294 .done (some Code.ret)))
  (∃ n390, World.cell? w388 ⟨Array.size (World.heap w126), 0, none⟩ = some (Value.int .i64 n390) ∧
  ∃ w391, Sem.run Try.prog (Instr.storeAt 3 (Value.pointer (some ⟨Array.size (World.heap w126), 0, none⟩)) (Value.int .i64 (IntKind.wrap .i64 (n390 + 1)))) w388 = .ok () w391 ∧
  V.LoopSt w391 l295 Rc294 .busy none ∧ R298 (Ending.returned (Value.bool true)) (V.setLoop w391 l295 Rc294 .ready none))) ∨
  (V.LoopSt w376 l323 Rc322 .done (some Code.ret) ∧
  V.LoopSt (V.setLoop w376 l323 Rc322 .exhausted (some Code.ret)) l295 Rc294 .busy none ∧ R298 (Ending.returned (Value.bool false)) (V.setLoop (V.setLoop w376 l323 Rc322 .exhausted (some Code.ret)) l295 Rc294 .done (some Code.ret))) ∨
  (V.LoopSt w376 l323 Rc322 .done (some (Code.exit 10)) ∧
  ∃ n392, ∃ A393, ∃ A393l, ∃ A393c, V.cellsC (fun a_ x_ => World.cell? (V.setLoop w376 l323 Rc322 .exhausted (some (Code.exit 10))) a_ = some x_) ⟨K.bT, 0, none⟩ [(Value.int .i64 n392), (Value.slice A393 A393l A393c)] ∧
  V.ptr (some (⟨K.kb, 0, none⟩ : Addr)) fun a394 =>
  ∃ s395, World.cell? (V.setLoop w376 l323 Rc322 .exhausted (some (Code.exit 10))) a394 = some (Value.string s395) ∧
  ∃ n396, World.cell? (V.setLoop w376 l323 Rc322 .exhausted (some (Code.exit 10))) ⟨Array.size (World.heap W297), 0, none⟩ = some (Value.int .i64 n396) ∧
  ∃ n397, World.cell? (V.setLoop w376 l323 Rc322 .exhausted (some (Code.exit 10))) ⟨Array.size (World.heap W297), 0, none⟩ = some (Value.int .i64 n397) ∧
  Calls Try.prog 29 #[(Value.agg #[(Value.int .i64 n392), (Value.slice A393 A393l A393c)]), (Value.string s395), (Value.int .i64 n396), (Value.int .i64 n397)] (V.setLoop w376 l323 Rc322 .exhausted (some (Code.exit 10))) fun e399 w400 =>
  ∃ A398, ∃ A398l, ∃ A398c, e399 = Ending.returned (Value.slice A398 A398l A398c) ∧
  Calls Try.prog 28 #[(Value.pointer y179_300), (Value.int .i64 200), (Value.slice A398 A398l A398c)] w400 fun e402 w403 =>
  ∃ b401, e402 = Ending.returned (Value.bool b401) ∧
  V.sel (!b401)
  (∃ w404, Sem.run Try.prog (Instr.storeAt 4 (Value.pointer (some ⟨K.bR, 0, none⟩)) (Value.bool false)) w403 = .ok () w404 ∧
  V.LoopSt w404 l295 Rc294 .busy none ∧ R298 (Ending.returned (Value.bool false)) (V.setLoop w404 l295 Rc294 .done (some Code.ret)))
  (∃ n405, World.cell? w403 ⟨Array.size (World.heap w126), 0, none⟩ = some (Value.int .i64 n405) ∧
  ∃ w406, Sem.run Try.prog (Instr.storeAt 3 (Value.pointer (some ⟨Array.size (World.heap w126), 0, none⟩)) (Value.int .i64 (IntKind.wrap .i64 (n405 + 1)))) w403 = .ok () w406 ∧
  V.LoopSt w406 l295 Rc294 .busy none ∧ R298 (Ending.returned (Value.bool true)) (V.setLoop w406 l295 Rc294 .ready none))) ∨
  False))) →
  V.Yield Try.prog l295 [(Value.int .i64 y178_299), (Value.pointer y179_300)] W297 R298) →
  Calls Try.prog f293 ⟨Array.toList f293a ++ [(Value.func (.yield l295) #[] #[])] ++ Array.toList f293c⟩ w296 fun e407 w409 => (∃ v408, e407 = Ending.returned v408) ∧
  ((V.LoopSt w409 l295 Rc294 .ready none ∧
  ∃ n410, World.cell? (V.setLoop w409 l295 Rc294 .exhausted none) ⟨Array.size (World.heap w126), 0, none⟩ = some (Value.int .i64 n410) ∧
  ∃ A411, ∃ A411l, ∃ A411c, World.cell? (V.setLoop w409 l295 Rc294 .exhausted none) ⟨K.bN, 0, none⟩ = some (Value.slice A411 A411l A411c) ∧
  V.sel (n410 == ((A411l : Nat) : Int))
  (∃ p412, World.cell? (V.setLoop w409 l295 Rc294 .exhausted none) ⟨K.bW, 0, none⟩ = some (Value.pointer p412) ∧
  Calls Try.prog 33 #[(Value.pointer p412), (Value.int .i64 2)] (V.setLoop w409 l295 Rc294 .exhausted none) fun e414 w415 =>
  ∃ b413, e414 = Ending.returned (Value.bool b413) ∧
  ∃ w416, Sem.run Try.prog (Instr.storeAt 4 (Value.pointer (some ⟨K.bR, 0, none⟩)) (Value.bool b413)) w415 = .ok () w416 ∧
  V.closeR (Array.size (World.heap w291) :: ds125) w416 fun w417 =>
  ∃ b418, World.cell? w417 ⟨K.bR, 0, none⟩ = some (Value.bool b418) ∧
  R (Ending.returned (Value.bool b418)) w417)
  (∃ w419, Sem.run Try.prog (Instr.storeAt 4 (Value.pointer (some ⟨K.bR, 0, none⟩)) (Value.bool false)) (V.setLoop w409 l295 Rc294 .exhausted none) = .ok () w419 ∧
  V.closeR (Array.size (World.heap w291) :: ds125) w419 fun w420 =>
  ∃ b421, World.cell? w420 ⟨K.bR, 0, none⟩ = some (Value.bool b421) ∧
  R (Ending.returned (Value.bool b421)) w420)) ∨
  (V.LoopSt w409 l295 Rc294 .done (some Code.ret) ∧
  V.closeR (Array.size (World.heap w291) :: ds125) (V.setLoop w409 l295 Rc294 .exhausted (some Code.ret)) fun w422 =>
  ∃ b423, World.cell? w422 ⟨K.bR, 0, none⟩ = some (Value.bool b423) ∧
  R (Ending.returned (Value.bool b423)) w422) ∨
  False))))) := by
  refine ⟨fun round ds w' => ∃ rb r, round = some ⟨rb, 0, none⟩ ∧ RdSt K w' rb ds r, fun round w' => 4 - roundOf round w', ⟨rb, r, rfl, st⟩, ?_⟩
  rintro _ _ ds w126 ⟨rb, r, rfl, st⟩
  refine ptr_in ⟨_, st.rbk.cell (i := 0) rfl, sel_dec (fun hlt => ?_) (fun hge => ?_)⟩
  · exact round_c pk (by omega) st (R := R) (I121 := fun round ds w' => ∃ rb r, round = some ⟨rb, 0, none⟩ ∧ RdSt K w' rb ds r) (μ122 := fun round w' => 4 - roundOf round w') fun rb' ds' w' st' => ⟨⟨rb', r + 1, rfl, st'⟩, by
      show 4 - roundOf _ _ < 4 - roundOf _ _
      rw [roundOf_blk st.rbk, roundOf_blk st'.rbk]
      have := st'.small
      omega⟩
  · obtain ⟨es', a', c', d'⟩ := st.dy
    exact last_c pk d' st.mks st.nd (R := R) k
end Go.Proofs.Ytjlkdadafddodaa
