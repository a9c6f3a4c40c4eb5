/- Whatever scripts and key come in, berthlaw08.OrderedWalk returns true and leaves what came in as it was. -/
import Derived.Test.YtjlkdadafddodaaEA
import Derived.Test.YtjlkdadafddodaaLf3x
import Derived.Test.YtjlkdadafddodaaRows
set_option linter.unusedVariables false
set_option linter.unusedSimpArgs false
namespace Go.Proofs.Ytjlkdadafddodaa
open Go Go.V Go.B
open Go.ChangeShapes Go.WideShapes Go.ChangeAt Go.RowKit

theorem i52s : (Try.prog.info? 52).map (·.size) = some 1 := by kernel_rfl
theorem i46s : (Try.prog.info? 46).map (·.size) = some 1 := by kernel_rfl
theorem i9s2 : (Try.prog.info? 9).map (·.size) = some 1 := by kernel_rfl
structure PreW (W : World) (base g : Nat) (ca cq : List Value) (bA bQ bR bW : Nat) (w : World) (es : Nat → En) (c : Nat) : Prop where
  ext : Ext [] W w
  at_ : WAt w base g c es
  N : (es 2).x.N = 200
  a : BlkT w bA ca 22
  q : BlkT w bQ cq 24
  r : BlkT w bR [.bool false] 4
  p : BlkT w bW [.pointer (some ⟨g, 0, none⟩)] 52
  sep : ∀ b ∈ [bA, bQ, bR, bW], ¬ foot es g b
section
variable {W : World} {base g : Nat} {ca cq : List Value} {bA bQ bR bW : Nat} {w w' : World} {es es' : Nat → En} {c : Nat}
theorem PreW.ext0 (h : PreW W base g ca cq bA bQ bR bW w es c) (x : Ext [] w w') : PreW W base g ca cq bA bQ bR bW w' es c := ⟨h.ext.trans x, h.at_.ext0 x, h.N, h.a.ext0 x, h.q.ext0 x, h.r.ext0 x, h.p.ext0 x, h.sep⟩
theorem PreW.more {c' : Nat} (h : PreW W base g ca cq bA bQ bR bW w es c) (hc : c ≤ c') : PreW W base g ca cq bA bQ bR bW w es c' := ⟨h.ext, h.at_.more hc, h.N, h.a, h.q, h.r, h.p, h.sep⟩
theorem PreW.change (h : PreW W base g ca cq bA bQ bR bW w es c) (hb : W.heap.size ≤ base) (ch : WChg w w' base g (c + 1) es es' 2) (hN : (es' 2).x.N = (es 2).x.N) : PreW W base g ca cq bA bQ bR bW w' es' (c + 1) := by
  have hG : ∀ b, ¬ foot es g b → b ∉ g :: (es 2).F := fun b hb hm => hb (by
    rcases List.mem_cons.1 hm with rfl | hm
    · exact .inl rfl
    · exact .inr ⟨2, by omega, .inl hm⟩)
  have s := h.sep
  refine ⟨h.ext.trans' ch.ext fun b hb' => .inr ?_, ch.at_, hN.trans h.N, h.a.ext ch.ext (hG _ (s _ (by simp))), h.q.ext ch.ext (hG _ (s _ (by simp))), h.r.ext ch.ext (hG _ (s _ (by simp))), h.p.ext ch.ext (hG _ (s _ (by simp))), fun b hb' hf => ?_⟩
  · rcases List.mem_cons.1 hb' with rfl | hb'
    · have := h.at_.gb; omega
    · have := h.at_.low 2 (by omega) b hb'; omega
  · rcases ch.foot (by omega) hf with h1 | h1
    · exact s b hb' h1
    · simp at hb'
      have h1a := h.a.lt
      have h1q := h.q.lt
      have h1r := h.r.lt
      have h1p := h.p.lt
      rcases hb' with rfl | rfl | rfl | rfl <;> omega
end
set_option maxRecDepth 8000 in
set_option maxHeartbeats 4000000 in
theorem orderedWalk_c {W : World} {A1 A2 : Option Addr} {n1 n2 c1 c2 : Nat} {ops1 ops2 : List Op} (ho1 : OpsAt W A1 n1 ops1) (ho2 : OpsAt W A2 n2 ops2) {q : Asked} (hq : q.In) {R : Ending → World → Prop} (k : ∀ w', Ext [] W w' → R (.returned (.bool true)) w') :
    Calls Try.prog 5 #[.slice A1 n1 c1, .slice A2 n2 c2, .agg #[.string q.key, .int .i64 q.n, .int .i64 q.hi]] W R := by
  apply berthlaw08_OrderedWalk_nf
  have hsz1 := ho1.sz
  have hsz2 := ho2.sz
  intro w6 h6 w7 h7 w8 h8
  obtain ⟨b6, x6, z6⟩ := box_new (cs := [.slice A2 n2 c2]) h6
  obtain ⟨b7, x7, z7⟩ := box_new (cs := [.string q.key, .int .i64 q.n, .int .i64 q.hi]) h7
  obtain ⟨b8, x8, z8⟩ := box_new (cs := [.bool false]) h8
  refine fixed_c fun w11 e11 => ⟨_, rfl, sel_false rfl ?_⟩
  have E11 : Ext [] W w11 := ((x6.trans x7).trans x8).trans e11
  refine Begin_c fun g es0 w17 e17 W17 hes hd0 => ⟨_, _, rfl, fun w18 h18 => ?_⟩
  obtain ⟨b18, x18, z18⟩ := box_new (cs := [.pointer none]) h18
  obtain ⟨w19, hr19, b19, x19⟩ := store1 (P := Try.prog) (v := .pointer (some ⟨g, 0, none⟩)) i52s b18 (i := 0) (by simp) rfl rfl
  have b19 : BlkT w19 w17.heap.size [.pointer (some ⟨g, 0, none⟩)] 52 := by simpa using b19
  have e19 : Ext [] w17 w19 := x18.trans' x19 (fun b hb => .inr (by simp at hb; omega))
  have e1119 := e17.trans e19
  have z11 := e11.size
  have z17 := e17.size
  have zW := E11.size
  have lowb : ∀ b, foot es0 g b → w11.heap.size ≤ b := fun b hf => by
    rcases hf with rfl | ⟨j, hj, hb | hb⟩
    · exact W17.gb
    · exact W17.low j hj b hb
    · -- the documents are empty
      rw [hd0 j hj] at hb; cases hb
  have P19 : PreW W w11.heap.size g [.slice A2 n2 c2] [.string q.key, .int .i64 q.n, .int .i64 q.hi] W.heap.size w6.heap.size w7.heap.size w17.heap.size w19 es0 0 := by
    refine ⟨E11.trans e1119, W17.ext0 e19, (hes 2 (by omega)).2, (((b6.ext0 x7).ext0 x8).ext0 e11).ext0 e1119, ((b7.ext0 x8).ext0 e11).ext0 e1119, (b8.ext0 e11).ext0 e1119, b19, fun b hb hf => ?_⟩
    have := lowb b hf
    have := W17.foot_lt hf
    simp at hb
    rcases hb with rfl | rfl | rfl | rfl <;> omega
  refine ⟨w19, hr19, sel_false rfl ⟨fun w' => ∃ es c, PreW W w11.heap.size g [.slice A2 n2 c2] [.string q.key, .int .i64 q.n, .int .i64 q.hi] W.heap.size w6.heap.size w7.heap.size w17.heap.size w' es c ∧ c ≤ n1, ?_, ?_⟩⟩
  · -- the changes ahead of the walk
    refine ⟨fun t w' => ∃ (a : Nat) (es : Nat → En), t = a ∧ a ≤ n1 ∧ PreW W w11.heap.size g [.slice A2 n2 c2] [.string q.key, .int .i64 q.n, .int .i64 q.hi] W.heap.size w6.heap.size w7.heap.size w17.heap.size w' es a, fun t _ => n1 - t.toNat, ⟨0, es0, rfl, by omega, P19⟩, ?_⟩
    rintro _ _ w27 ⟨a, es, rfl, ha, P27⟩
    refine sel_dec (fun hlt => ?_) (fun hge => ⟨es, a, P27, ha⟩)
    have hlt : a < n1 := by omega
    obtain ⟨o, od, hoa, hA, rd⟩ := (ho1.ext0 P27.ext).read hlt
    have hin := (ho1.ext0 P27.ext).in_ o (List.mem_of_getElem? hoa)
    refine when_dec ⟨by omega, by omega⟩ ?_
    rw [hA]
    refine ptr_in ⟨_, _, _, _, _, _, _, _, _, _, rd, fun w37 h37 => ?_⟩
    obtain ⟨w38, hr38, b38, x38⟩ := op_box (o := o) h37
    obtain ⟨w39, hr39, b39, x39⟩ := store1a (P := Try.prog) (t := 3) i3s' b38 (i := 1) (v := .int .i64 2) (by simp [Op.cells]) rfl rfl
    have b39 : BlkT w39 w27.heap.size (Op.cells { o with at_ := 2 }) 50 := b39
    have e39 : Ext [] w27 w39 := x38.trans' x39 (fun b hb => .inr (by simp at hb; omega))
    have P39 := P27.ext0 e39
    have hup : IntKind.wrap .i64 ((a : Int) + 1) = ((a + 1 : Nat) : Int) := up64 a (by omega)
    refine ⟨w38, hr38, w39, hr39, fun t w' => t = false ∧ ∃ es', PreW W w11.heap.size g [.slice A2 n2 c2] [.string q.key, .int .i64 q.n, .int .i64 q.hi] W.heap.size w6.heap.size w7.heap.size w17.heap.size w' es' (a + 1), ⟨_, cadd b39 rfl, sel_dec (fun h3 => ⟨_, cadd b39 rfl, sel_intro (fun hk => ?_) (fun _ => ⟨rfl, es, P39.more (by omega)⟩)⟩) (fun _ => ⟨rfl, es, P39.more (by omega)⟩)⟩, ?_⟩
    · have hk : o.kind ≠ 1 := by simpa using hk
      refine ⟨_, P39.p.cell (i := 0) rfl, _, _, _, _, _, _, _, _, _, _, cadd0 b39, ?_⟩
      exact changes_c P39.at_ (by omega) (by have := P39.at_.gb; have := P39.at_.blk.lt; omega) (i := 2) (by omega) (o := { o with at_ := 2 }) (w0 := w27) ⟨hin.n0, hin.n1, hin.t0, hin.t1, hin.key, hin.ns, hin.nl⟩ fun es' w54 ch hN => ⟨_, rfl, rfl, es', P39.change zW ch (hN hk)⟩
    · rintro t _ w57 ⟨rfl, es', P57⟩
      refine sel_false rfl ?_
      rw [hup]
      exact ⟨⟨a + 1, es', rfl, by omega, P57⟩, by simp only [Int.toNat_natCast]; omega⟩
  rintro _ w61 ⟨es, c, P61, hc⟩
  refine ⟨fun kp ep w' => ∃ kb eb, kp = some ⟨kb, 0, none⟩ ∧ ep = some ⟨eb, 0, none⟩ ∧ Ext [] w61 w' ∧ BlkT w' kb [.string q.key] 9 ∧ BlkT w' eb [.int .i64 q.n] 3 ∧ w61.heap.size ≤ kb ∧ w61.heap.size ≤ eb, ⟨fun w' => Ext [] w61 w', (Ext.refl _ _).drew, _, fun w' e => cadd (P61.q.ext0 e) rfl, _, fun w' e => cadd (P61.q.ext0 e) rfl, ?_, ?_, trivial⟩, ?_⟩
  · intro w67 h67
    obtain ⟨b67, x67, z67⟩ := box_new (cs := [.string ByteArray.empty]) h67
    refine ⟨x67.undrew, fun w68 h68 => ?_⟩
    obtain ⟨b68, x68, z68⟩ := box_new (cs := [.int .i64 0]) h68
    have hs : (World.drew w61).heap.size = w61.heap.size := rfl
    obtain ⟨w69, hr69, b69, x69⟩ := store1 (P := Try.prog) (v := .string q.key) i9s2 (b67.ext0 x68) (i := 0) (by simp) rfl rfl
    obtain ⟨w70, hr70, b70, x70⟩ := store1 (P := Try.prog) (v := .int .i64 q.n) i3s' (b68.ext x69 (by simp; omega)) (i := 0) (by simp) rfl rfl
    have y69 : Ext [] w61 w69 := (x67.undrew.trans x68).trans' x69 (fun b hb => .inr (by simp at hb; omega))
    refine ⟨x67.undrew.trans x68, w69, hr69, y69, w70, hr70, _, _, rfl, rfl, y69.trans' x70 (fun b hb => .inr (by simp at hb; omega)), ?_, by simpa using b70, by omega, by omega⟩
    have := b69.ext x70 (by simp; omega)
    simpa using this
  · intro w71 h71
    obtain ⟨b71, x71, z71⟩ := box_new (cs := [.int .i64 0]) h71
    refine ⟨x71.undrew, fun w72 h72 => ?_⟩
    obtain ⟨b72, x72, z72⟩ := box_new (cs := [.string ByteArray.empty]) h72
    have hs : (World.drew w61).heap.size = w61.heap.size := rfl
    obtain ⟨w73, hr73, b73, x73⟩ := store1 (P := Try.prog) (v := .string q.key) i9s2 b72 (i := 0) (by simp) rfl rfl
    obtain ⟨w74, hr74, b74, x74⟩ := store1 (P := Try.prog) (v := .int .i64 q.n) i3s' ((b71.ext0 x72).ext x73 (by simp; omega)) (i := 0) (by simp) rfl rfl
    have y73 : Ext [] w61 w73 := (x71.undrew.trans x72).trans' x73 (fun b hb => .inr (by simp at hb; omega))
    refine ⟨x71.undrew.trans x72, w73, hr73, y73, w74, hr74, _, _, rfl, rfl, y73.trans' x74 (fun b hb => .inr (by simp at hb; omega)), ?_, by simpa using b74, by omega, by omega⟩
    have := b73.ext x74 (by simp; omega)
    simpa using this
  rintro _ _ _ w78 ⟨kb, eb, rfl, rfl, e78, bk78, be78, hkb, heb⟩
  have P78 := P61.ext0 e78
  have kbl := bk78.lt
  have ebl := be78.lt
  obtain ⟨x, hx⟩ : ∃ x, (es 2).x = x := ⟨_, rfl⟩
  obtain ⟨d, hd⟩ : ∃ d, (es 2).d = d := ⟨_, rfl⟩
  have hen := P78.at_.en 2 (by omega)
  have rel : Rel x d.rows := by rw [← hx, ← hd]; exact hen.rel
  have ok : IxOk x := by rw [← hx]; exact hen.ok
  have x200 : x.N = 200 := by rw [← hx]; exact P61.N
  have dl : d.l ≤ 4000000000000 := by rw [← hd]; have := hen.dl; omega
  refine ⟨_, P78.p.cell (i := 0) rfl, ptr_in ⟨_, _, _, _, w_doc (i := 2) P78.at_.blk (by omega), fun w83 h83 => ?_⟩⟩
  obtain ⟨b83, x83, z83⟩ := doc_box (d := ⟨0, none, 0, 0, []⟩) h83
  obtain ⟨w84, hr84, b84, x84⟩ := doc_store b83 rfl (es 2).d
  rw [hd] at b84
  have e84 : Ext [] w78 w84 := x83.trans' x84 (fun b hb => .inr (by simp at hb; omega))
  have P84 := P78.ext0 e84
  have D84 : DocR w84 d := by rw [← hd]; exact (P84.at_.en 2 (by omega)).doc
  have z84 := e84.size
  refine ⟨w84, hr84, _, _, _, _, cadd0 b84, ptr_in ⟨_, (bk78.ext0 e84).cell (i := 0) rfl, DocNumbers_c D84 dl q.key fun B m cB nums w91 e91 ownN hrN hmN => ⟨_, _, _, rfl, fun w92 h92 => ?_⟩⟩⟩
  obtain ⟨b92, x92, z92⟩ := box_new (cs := [.slice none 0 0]) h92
  obtain ⟨w93, hr93, b93, x93⟩ := store1 (P := Try.prog) (v := .slice B m cB) i37s b92 (i := 0) (by simp) rfl rfl
  have b93 : BlkT w93 w91.heap.size [.slice B m cB] 37 := by simpa using b93
  have e9193 : Ext [] w91 w93 := x92.trans' x93 (fun b hb => .inr (by simp at hb; omega))
  have e93 := e91.trans e9193
  have P93 := P84.ext0 e93
  have z91 := e91.size
  have z93 := e9193.size
  have gbN := ownN.base
  have cN : Cells w93 B (IL.flat nums) := ownN.cells.ext0 e9193
  have hnums := rel.nums ok hrN hmN
  have hq93 := (P93.at_.en 2 (by omega)).b (by omega)
  rw [hx] at hq93
  refine ⟨w93, hr93, fun wp w' => ∃ wb b0 RA rc rs, wp = some ⟨wb, 0, none⟩ ∧ Ext [] w93 w' ∧ BlkT w' wb [walkV b0] 46 ∧ RowsK w' b0 RA rc rs ∧ (∀ b ∈ rowsF b0 RA rs, w93.heap.size ≤ b ∧ b < w'.heap.size) ∧ rs.map Rw.tell = (x.colOf q.key).rows.map Rw.tell ∧ w93.heap.size ≤ wb, ⟨fun w' => Ext [] w93 w', (Ext.refl _ _).drew, _, fun w' e => (P93.p.ext0 e).cell (i := 0) rfl, ptr_in ⟨_, fun w' e => w_ptr (i := 2) (P93.at_.ext0 e).blk (by omega), ptr_in ⟨_, fun w' e => (((bk78.ext0 e84).ext0 e93).ext0 e).cell (i := 0) rfl, ?_, ?_, trivial⟩⟩⟩, ?_⟩
  · refine Rows_c (w := w93.drew) (hq93.g.ext0 (Ext.refl _ _).drew) q.key fun b0 RA rc rs w104 e104 K104 f104 tl => ⟨_, _, _, rfl, e104.undrew, fun w105 h105 => ?_⟩
    obtain ⟨b105, x105, z105⟩ := box_new (cs := [Value.nilFunc]) h105
    obtain ⟨w106, hr106, b106, x106⟩ := store1 (P := Try.prog) (v := walkV b0) i46s b105 (i := 0) (by simp) rfl rfl
    have f104' : ∀ b ∈ rowsF b0 RA rs, w93.heap.size ≤ b ∧ b < w104.heap.size := f104
    have z104 : w93.heap.size ≤ w104.heap.size := e104.size
    have z106 := x106.size
    refine ⟨e104.undrew.trans x105, w106, hr106, _, b0, RA, rc, rs, rfl, (e104.undrew.trans x105).trans' x106 (fun b hb => .inr (by simp at hb; omega)), by simpa using b106, (K104.ext0 x105).ext x106 (fun b hb => by have := f104' b hb; simp; omega), fun b hb => by have := f104' b hb; omega, tl, z104⟩
  · intro w107 h107
    obtain ⟨b107, x107, z107⟩ := box_new (cs := [Value.nilFunc]) h107
    have hs : (World.drew w93).heap.size = w93.heap.size := rfl
    refine ⟨x107.undrew, Rows_c (w := w107) (hq93.g.ext0 x107.undrew) q.key fun b0 RA rc rs w110 e110 K110 f110 tl => ⟨_, _, _, rfl, x107.undrew.trans e110, ?_⟩⟩
    obtain ⟨w111, hr111, b111, x111⟩ := store1 (P := Try.prog) (v := walkV b0) i46s (b107.ext0 e110) (i := 0) (by simp) rfl rfl
    have z110 := e110.size
    have z111 := x111.size
    refine ⟨w111, hr111, _, b0, RA, rc, rs, rfl, (x107.undrew.trans e110).trans' x111 (fun b hb => .inr (by simp at hb; omega)), by simpa using b111, K110.ext x111 (fun b hb => by have := f110 b hb; simp; omega), fun b hb => by have := f110 b hb; omega, tl, Nat.le_refl _⟩
  rintro _ _ w114 ⟨wb, b0, RA, rc, rs, rfl, e114, bw114, K114, f114, tl, hwb⟩
  have z114 := e114.size
  have wbl := bw114.lt
  refine ptr_in ⟨_, _, _, bw114.cell (i := 0) rfl, fun w117 h117 => ?_⟩
  obtain ⟨b117, x117, z117⟩ := box_new (cs := [.int .i64 0]) h117
  obtain ⟨w118, hr118, b118, x118⟩ := store1 (P := Try.prog) (v := .int .i64 0) i3s' b117 (i := 0) (by simp) rfl rfl
  have b118 : BlkT w118 w114.heap.size [.int .i64 0] 3 := by simpa using b118
  have e118 : Ext [] w114 w118 := x117.trans' x118 (fun b hb => .inr (by simp at hb; omega))
  have z118 := x118.size
  refine ⟨w118, hr118, fun w119 h119 => ?_⟩
  obtain ⟨b119, x119, z119⟩ := box_new (cs := [.int .i64 0]) h119
  obtain ⟨w120, hr120, b120, x120⟩ := store1 (P := Try.prog) (v := .int .i64 0) i3s' b119 (i := 0) (by simp) rfl rfl
  have b120 : BlkT w120 w118.heap.size [.int .i64 0] 3 := by simpa using b120
  have e120 : Ext [] w118 w120 := x119.trans' x120 (fun b hb => .inr (by simp at hb; omega))
  have z120 := x120.size
  refine ⟨w120, hr120, ?_⟩
  have E114 := e118.trans e120
  have E93 := e114.trans E114
  have E84 := e93.trans E93
  have E78 := e84.trans E84
  have P120 := P93.ext0 E93
  have z78 := e78.size
  -- the walk's things
  obtain ⟨K, hK⟩ : ∃ K : WK, K = ⟨W, w11.heap.size, g, n1, A2, n2, c2, ops2, q.key, q.n, W.heap.size, w17.heap.size, w7.heap.size, kb, eb, w78.heap.size, w91.heap.size, wb, w114.heap.size, d, B, m, cB, nums, b0, RA, rc, rs⟩ := ⟨_, rfl⟩
  have hdlt : ∀ b ∈ ownF d.A, b < w78.heap.size := by rw [← hd]; exact hen.dlt
  have hKF : ∀ b ∈ K.F, b = W.heap.size ∨ b = w17.heap.size ∨ b = w7.heap.size ∨ b = kb ∨ b = eb ∨ b = w78.heap.size ∨ b = w91.heap.size ∨ b = wb ∨ b ∈ ownF B ∨ b ∈ ownF d.A ∨ b ∈ rowsF b0 RA rs := fun b hb => by
    rw [hK] at hb
    unfold WK.F at hb
    simp only [List.mem_append, List.mem_cons, List.not_mem_nil, or_false] at hb
    rcases hb with (h | h | h | h | h | h | h | h) | h | h | h <;> simp [h]
  have ltA := P61.a.lt
  have ltP := P61.p.lt
  have ltR := P61.r.lt
  have pk : PK K := by
    refine ⟨by rw [hK]; exact ho2, by rw [hK]; exact zW, by rw [hK]; exact P120.at_.gb, by rw [hK]; show n1 + n2 ≤ _; omega, by rw [hK]; exact (tell_n tl).trans hnums.symm, by rw [hK]; exact ownN.len, ?_, by rw [hK]; exact dl, ?_, fun b hb => ?_, by rw [hK]; show W.heap.size ≤ w114.heap.size; omega, by rw [hK]; show W.heap.size ≤ w7.heap.size; omega⟩
    · rw [hK]
      show m ≤ _
      have h1 := hq93.g.r.rows hq93.g.few q.key
      have h2 := ownN.len
      rw [hnums, List.length_map] at h2
      omega
    · rw [hK]
      intro y hy hS ys hr hys
      have := row_mi rel ok tl hy hS hr hys
      exact ⟨this.1, this.2.trans x200⟩
    · have hgoal : K.bAt = w114.heap.size := by rw [hK]
      rw [hgoal]
      rcases hKF b hb with rfl | rfl | rfl | rfl | rfl | rfl | rfl | rfl | h | h | h
      · omega
      · omega
      · omega
      · omega
      · omega
      · omega
      · omega
      · omega
      · have := (gbN b h).2; omega
      · have := hdlt b h; omega
      · have := (f114 b h).2; omega
  have dy : Dy K w120 [] [w118.heap.size] w120 es 0 c := by
    have nw : ∀ b, w61.heap.size ≤ b → ¬ foot es g b := fun b hb => P61.at_.new hb
    have kf : ∀ b ∈ K.F, b ∉ (es 2).F ∧ b ≠ g := fun b hb => by
      have key : ¬ foot es g b → b ∉ (es 2).F ∧ b ≠ g := fun hn => ⟨fun hm => hn (.inr ⟨2, by omega, .inl hm⟩), fun e => hn (.inl e)⟩
      rcases hKF b hb with rfl | rfl | rfl | rfl | rfl | rfl | rfl | rfl | h | h | h
      · exact key (P61.sep _ (by simp))
      · exact key (P61.sep _ (by simp))
      · exact key (P61.sep _ (by simp))
      · exact key (nw _ hkb)
      · exact key (nw _ heb)
      · exact key (nw _ (by omega))
      · exact key (nw _ (by omega))
      · exact key (nw _ (by omega))
      · exact key (nw _ (by have := (gbN b h).1; omega))
      · rw [← hd] at h
        exact ⟨P61.at_.doc 2 2 (by omega) (by omega) b h, fun e => P61.at_.gd 2 (by omega) (e ▸ h)⟩
      · exact key (nw _ (by have := (f114 b h).1; omega))
    rw [hK] at kf ⊢
    refine ⟨P120.ext, P120.at_, ⟨P120.a, P120.p, P120.r, ?_, ?_, ?_, ?_, ?_, cN.ext0 E93, ?_, ?_⟩, b118.ext0 e120, Nat.zero_le _, by show c ≤ n1 + 0; omega, kf, nw _ (by show w61.heap.size ≤ w114.heap.size; omega), fun b hb => ?_, Ext.refl _ _, by simp⟩
    · exact bk78.ext0 E78
    · exact be78.ext0 E78
    · exact b84.ext0 E84
    · exact b93.ext0 E93
    · exact bw114.ext0 E114
    · exact D84.ext0 E84
    · exact K114.ext0 E114
    · simp at hb; subst hb
      exact ⟨by show w114.heap.size < w118.heap.size; omega, nw _ (by omega), b120.lt⟩
  have key := rounds_c pk (r := 0) (rb := w118.heap.size) ⟨⟨es, 0, c, dy⟩, b120, by simp, by simp, by simp, by omega⟩ (R := R) (by rw [hK]; exact k)
  rw [hK] at key
  exact key
set_option maxRecDepth 100000 in
theorem orderedWalk_lifted (os : Os) (started : os.Started) (H : Type) (enc : TypeId × Value → H) :
    ReturnsInHanded {} Try.checked os 5 .any (Rows.orderedWalkSpec.pre6 enc Try.prog Try.f5 Rows.orderedWalkRow.domain false) (Rows.orderedWalkSpec.post enc Try.prog Try.f5 false true false false) :=
  lift3x (C := Try.checked) (T := 22) (U := 22) (X := 24) (tb := 4) own (by kernel_rfl) Try.func5 (by kernel_rfl) (by kernel_rfl) Try.underlying4 rfl (fun _ _ _ _ => rfl) laidOut (by kernel_rfl) (of_decide_eq_true (by kernel_rfl)) (by kernel_rfl) (of_decide_eq_true (by kernel_rfl)) (by kernel_rfl) (of_decide_eq_true (by kernel_rfl)) os started H enc
    (fun W base v v' v'' d d' d'' p p' p'' hok h hw hok' h' hw' hok'' h'' hw'' => by
      obtain ⟨A1, n1, c1, os1, rfl, ho1⟩ := open_ops hok h hw
      obtain ⟨A2, n2, c2, os2, rfl, ho2⟩ := open_ops hok' h' hw'
      obtain ⟨q, rfl, hq⟩ := open_asked hok'' h'' hw''
      exact orderedWalk_c ho1 ho2 hq fun w' e => ⟨rfl, e.below⟩)
    (ChangeSpec.witness6 (enc := enc) (C := Try.checked) false ⟨#[], #[.slice none 0 0, .slice none 0 0, .agg #[.string ByteArray.empty, .int .i64 0, .int .i64 0]], []⟩ 8 (by kernel_rfl) (by kernel_rfl) (by kernel_rfl) (by kernel_rfl))
theorem orderedWalk_holds : Rows.OrderedWalkSaid :=
  OpenClaim.holds_of_wide 5 Try.f5 rfl rfl rfl rfl rfl rfl rfl ⟨rfl, rfl, rfl, rfl, rfl⟩ rfl rfl rfl rfl rfl (by kernel_rfl) Try.func5 (by kernel_rfl)
    (of_decide_eq_true (by kernel_rfl)) (by unfold Func.isWrapper; first | (rw [if_pos (by decide +kernel)]; kernel_rfl) | (rw [if_neg (by decide +kernel)]; exact ⟨rfl, rfl⟩))
    (fun os started H enc _ => orderedWalk_lifted os started H enc)
end Go.Proofs.Ytjlkdadafddodaa
