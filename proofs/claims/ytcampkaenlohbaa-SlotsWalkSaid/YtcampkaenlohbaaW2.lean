/- SlotsWalk: the end, where all is compared. -/
import Derived.Test.YtcampkaenlohbaaW1
set_option linter.unusedVariables false
set_option linter.unusedSimpArgs false
namespace Go.Proofs.Ytcampkaenlohbaa
open Go Go.V Go.B

theorem close_many : ∀ {ds : List Nat} {w : World} {K : World → Prop}, (∀ d ∈ ds, Mrk w d) → ds.Nodup → (∀ w', Ext ds w w' → K w') → closeR ds w K
  | [], w, K, _, _, k => k w (Ext.refl _ _)
  | D :: ds, w, K, h, hn, k => by
    have hn' := List.nodup_cons.1 hn
    refine ⟨h D (by simp), close_many (fun d hd => (h d (by simp [hd])).ext (putObj_ext w D _) (fun hm => ?_)) hn'.2 fun w' e => k w' ((Ext.wide' (putObj_ext w D _) (by simp)).trans (Ext.wide' e (by simp +contextual)))⟩
    have hm : d = D := by simpa using hm
    exact hn'.1 (hm ▸ hd)
theorem wlen_prs {w0 : World} {K : Wc} (hw : Wf w0 K) : (prs K.rows).length = K.wn := by rw [← drs_pr, List.length_map, hw.wlen]
/-- How many the second walk takes. -/
def m2 (K : Wc) : Int := if K.early > 1 then K.early else 1
theorem i4s : (Try.prog.info? 4).map (·.size) = some 1 := by kernel_rfl
section
variable {w0 : World} {K : Wc}
/-- What the three lists hold in the end. -/
structure Lx (K : Wc) (w : World) (s1 s2 s3 : Nat) : Prop where
  p1 : ∃ A n c, BlkT w s1 [.slice A n c] 62 ∧ Cells w A (PL.flat (prs K.rows)) ∧ (prs K.rows).length = n
  p2 : ∃ A n c, BlkT w s2 [.slice A n c] 62 ∧ Cells w A (PL.flat ((prs K.rows).take (m2 K).toNat)) ∧ ((prs K.rows).take (m2 K).toNat).length = n
  p3 : ∃ A n c, BlkT w s3 [.slice A n c] 62 ∧ Cells w A (PL.flat (prs K.rows)) ∧ (prs K.rows).length = n
set_option maxRecDepth 8000 in
theorem fin_c {wE : World} {Z : List Nat} {a s1 s2 s3 kb d1 d2 d3 d4 : Nat} (hw : Wf w0 K) (h : Wv w0 K wE Z a) (lx : Lx K wE s1 s2 s3) (kk : BlkT wE kb [.int .i64 (K.wn : Int)] 3) (hm : ∀ d ∈ [d4, d3, d2, d1], Mrk wE d ∧ d ∉ Zc K ∧ w0.heap.size ≤ d) (hd : [d4, d3, d2, d1].Nodup)
    {R : Ending → World → Prop} (k : ∀ w', Ext [] w0 w' → R (.returned (.bool true)) w') :
    ∃ S363 : World → Prop, S363 (World.drew wE) ∧
  ∃ n365, (∀ w364, S363 w364 → World.cell? w364 ⟨kb, 0, none⟩ = some (Value.int .i64 n365)) ∧
  V.ptr (some (⟨K.gb, 0, none⟩ : Addr)) fun a366 =>
  ∃ A367, ∃ A367l, ∃ A367c, (∀ w364, S363 w364 → World.cell? w364 a366 = some (Value.slice A367 A367l A367c)) ∧
  V.sel (n365 == ((A367l : Nat) : Int))
  (∃ A368, ∃ A368l, ∃ A368c, (∀ w364, S363 w364 → World.cell? w364 ⟨s1, 0, none⟩ = some (Value.slice A368 A368l A368c)) ∧
  V.ptr (some (⟨K.gb, 0, none⟩ : Addr)) fun a369 =>
  ∃ A370, ∃ A370l, ∃ A370c, (∀ w364, S363 w364 → World.cell? w364 a369 = some (Value.slice A370 A370l A370c)) ∧
  V.ptr (some (⟨K.gb, 0, none⟩ : Addr)) fun a371 =>
  ∃ A372, ∃ A372l, ∃ A372c, (∀ w364, S363 w364 → World.cell? w364 a371 = some (Value.slice A372 A372l A372c)) ∧
  Calls Try.prog 24 #[(Value.slice A368 A368l A368c), (Value.slice A370 A370l A370c), (Value.int .i64 ((A372l : Nat) : Int))] (World.drew wE) fun e374 w375 =>
  ∃ b373, e374 = Ending.returned (Value.bool b373) ∧
  S363 w375 ∧
  V.sel b373
  (∃ A376, ∃ A376l, ∃ A376c, (∀ w364, S363 w364 → World.cell? w364 ⟨s2, 0, none⟩ = some (Value.slice A376 A376l A376c)) ∧
  V.ptr (some (⟨K.gb, 0, none⟩ : Addr)) fun a377 =>
  ∃ A378, ∃ A378l, ∃ A378c, (∀ w364, S363 w364 → World.cell? w364 a377 = some (Value.slice A378 A378l A378c)) ∧
  ∃ n379, (∀ w364, S363 w364 → World.cell? w364 ⟨K.be, 0, none⟩ = some (Value.int .i64 n379)) ∧
  Calls Try.prog 24 #[(Value.slice A376 A376l A376c), (Value.slice A378 A378l A378c), (Value.int .i64 (if n379 > 1 then n379 else 1))] w375 fun e381 w382 =>
  ∃ b380, e381 = Ending.returned (Value.bool b380) ∧
  S363 w382 ∧
  V.sel b380
  (∃ A383, ∃ A383l, ∃ A383c, (∀ w364, S363 w364 → World.cell? w364 ⟨s3, 0, none⟩ = some (Value.slice A383 A383l A383c)) ∧
  V.ptr (some (⟨K.gb, 0, none⟩ : Addr)) fun a384 =>
  ∃ A385, ∃ A385l, ∃ A385c, (∀ w364, S363 w364 → World.cell? w364 a384 = some (Value.slice A385 A385l A385c)) ∧
  V.ptr (some (⟨K.gb, 0, none⟩ : Addr)) fun a386 =>
  ∃ A387, ∃ A387l, ∃ A387c, (∀ w364, S363 w364 → World.cell? w364 a386 = some (Value.slice A387 A387l A387c)) ∧
  Calls Try.prog 24 #[(Value.slice A383 A383l A383c), (Value.slice A385 A385l A385c), (Value.int .i64 ((A387l : Nat) : Int))] w382 fun e389 w390 =>
  ∃ b388, e389 = Ending.returned (Value.bool b388) ∧
  S363 w390 ∧
  V.sel b388
  (∃ p391, (∀ w364, S363 w364 → World.cell? w364 ⟨K.bw, 0, none⟩ = some (Value.pointer p391)) ∧
  V.ptr p391 fun a392 =>
  ∃ p393, (∀ w364, S363 w364 → World.cell? w364 (Addr.add (Addr.add a392 0) 1) = some (Value.pointer p393)) ∧
  ∃ p394, (∀ w364, S363 w364 → World.cell? w364 ⟨K.bw, 0, none⟩ = some (Value.pointer p394)) ∧
  V.ptr p394 fun a395 =>
  ∃ n396, ∃ A397, ∃ A397l, ∃ A397c, V.cellsC (fun a_ x_ => ∀ w364, S363 w364 → World.cell? w364 a_ = some x_) (Addr.add (Addr.add a395 4) 2) [(Value.int .i64 n396), (Value.slice A397 A397l A397c)] ∧
  Calls Try.prog 21 #[(Value.pointer p393), (Value.agg #[(Value.int .i64 n396), (Value.slice A397 A397l A397c)])] w390 fun e399 w400 =>
  ∃ b398, e399 = Ending.returned (Value.bool b398) ∧
  S363 w400 ∧
  ∃ w401, Sem.run Try.prog (Instr.storeAt 4 (Value.pointer (some ⟨K.br, 0, none⟩)) (Value.bool b398)) w400 = .ok () w401 ∧
  V.closeR (d4 :: (d3 :: (d2 :: (d1 :: [])))) w401 fun w402 =>
  ∃ b403, World.cell? w402 ⟨K.br, 0, none⟩ = some (Value.bool b403) ∧
  R (Ending.returned (Value.bool b403)) w402)
  (∃ w404, Sem.run Try.prog (Instr.storeAt 4 (Value.pointer (some ⟨K.br, 0, none⟩)) (Value.bool false)) w390 = .ok () w404 ∧
  V.closeR (d4 :: (d3 :: (d2 :: (d1 :: [])))) w404 fun w405 =>
  ∃ b406, World.cell? w405 ⟨K.br, 0, none⟩ = some (Value.bool b406) ∧
  R (Ending.returned (Value.bool b406)) w405))
  (∃ w407, Sem.run Try.prog (Instr.storeAt 4 (Value.pointer (some ⟨K.br, 0, none⟩)) (Value.bool false)) w382 = .ok () w407 ∧
  V.closeR (d4 :: (d3 :: (d2 :: (d1 :: [])))) w407 fun w408 =>
  ∃ b409, World.cell? w408 ⟨K.br, 0, none⟩ = some (Value.bool b409) ∧
  R (Ending.returned (Value.bool b409)) w408))
  (∃ w410, Sem.run Try.prog (Instr.storeAt 4 (Value.pointer (some ⟨K.br, 0, none⟩)) (Value.bool false)) w375 = .ok () w410 ∧
  V.closeR (d4 :: (d3 :: (d2 :: (d1 :: [])))) w410 fun w411 =>
  ∃ b412, World.cell? w411 ⟨K.br, 0, none⟩ = some (Value.bool b412) ∧
  R (Ending.returned (Value.bool b412)) w411))
  (∃ w413, Sem.run Try.prog (Instr.storeAt 4 (Value.pointer (some ⟨K.br, 0, none⟩)) (Value.bool false)) (World.drew wE) = .ok () w413 ∧
  V.closeR (d4 :: (d3 :: (d2 :: (d1 :: [])))) w413 fun w414 =>
  ∃ b415, World.cell? w414 ⟨K.br, 0, none⟩ = some (Value.bool b415) ∧
  R (Ending.returned (Value.bool b415)) w414) := by
  obtain ⟨A1, n1, c1, b1, o1, l1⟩ := lx.p1
  obtain ⟨A2, n2, c2, b2, o2, l2⟩ := lx.p2
  obtain ⟨A3, n3, c3, b3, o3, l3⟩ := lx.p3
  have hwl := hw.wlen
  have hwe := hw.wle
  have hpl := wlen_prs hw
  have d : Ext [] wE wE.drew := (Ext.refl _ _).drew
  have rg : ∀ w', Ext [] wE w' → World.cell? w' ⟨K.gb, 0, none⟩ = some (.slice K.WA K.wn K.wcap) := fun w' e => (h.s.g.ext0 e).cell (i := 0) rfl
  have full : prs K.rows = ((drs K.rows).map DR.pr).take ((K.wn : Int)).toNat := by
    rw [drs_pr, List.take_of_length_le (by rw [hpl, Int.toNat_natCast]; omega)]
  refine ⟨fun w' => Ext [] wE w', d, _, fun w' e => (kk.ext0 e).cell (i := 0) rfl, ptr_in ⟨_, _, _, rg, sel_true (by simp) ⟨_, _, _, fun w' e => (b1.ext0 e).cell (i := 0) rfl, ptr_in ⟨_, _, _, rg, ptr_in ⟨_, _, _, rg, ?_⟩⟩⟩⟩⟩
  refine rowsAre_c _ (o1.ext0 d) l1 (h.s.wr.ext0 d) hwl hwe full fun w375 e375 => ⟨_, rfl, d.trans e375, sel_true rfl ⟨_, _, _, fun w' e => (b2.ext0 e).cell (i := 0) rfl, ptr_in ⟨_, _, _, rg, _, fun w' e => (h.s.e.ext0 e).cell (i := 0) rfl, ?_⟩⟩⟩
  have f375 := d.trans e375
  refine rowsAre_c _ (o2.ext0 f375) l2 (h.s.wr.ext0 f375) hwl hwe (by rw [drs_pr]; rfl) fun w382 e382 => ⟨_, rfl, f375.trans e382, sel_true rfl ⟨_, _, _, fun w' e => (b3.ext0 e).cell (i := 0) rfl, ptr_in ⟨_, _, _, rg, ptr_in ⟨_, _, _, rg, ?_⟩⟩⟩⟩
  have f382 := f375.trans e382
  refine rowsAre_c _ (o3.ext0 f382) l3 (h.s.wr.ext0 f382) hwl hwe full fun w390 e390 => ⟨_, rfl, f382.trans e390, sel_true rfl ?_⟩
  have f390 := f382.trans e390
  obtain ⟨w9, X, Y, tag, rs, st, _⟩ := h.t
  obtain ⟨r, hr⟩ := st.at (i := 1) (by omega)
  have hri := st.regs 1 r (by omega) hr
  have rw_ : ∀ w', Ext [] wE w' → World.cell? w' ⟨K.bw, 0, none⟩ = some (.pointer (some ⟨K.wb, 0, none⟩)) := fun w' e => (h.s.bx.ext0 e).cell (i := 0) rfl
  refine ⟨_, rw_, ptr_in ⟨_, fun w' e => (st.ext0 7 e).read_p hr, _, rw_, ptr_in ⟨_, _, _, _, cellsC_S (S := fun w' => Ext [] wE w') (fun w' e => (st.ext0 7 e).read_d hr), ?_⟩⟩⟩
  refine seen_c (hri.t.ext0 f390) (hri.d.ext0 f390) _ fun w400 e400 => ⟨_, rfl, f390.trans e400, ?_⟩
  have f400 := f390.trans e400
  obtain ⟨w401, hr401, b401, x401⟩ := store1 (P := Try.prog) (v := .bool true) i4s (h.s.r.ext0 f400) (i := 0) (by simp) rfl rfl
  have hbr : K.br ∈ Zc K := by simp [Zc]
  refine ⟨w401, hr401, close_many (fun y hy => ((hm y hy).1.ext f400 (by simp)).ext x401 (fun hmm => (hm y hy).2.1 (by rw [List.mem_singleton.1 hmm]; exact hbr))) hd fun w402 e402 => ⟨_, (b401.ext e402 (fun hmm => (hm _ hmm).2.1 hbr)).cell (i := 0) rfl, ?_⟩⟩
  have hz := h.t.z K.br (h.zc _ hbr)
  exact k w402 (((h.e.trans f400).trans' x401 (fun b hb => .inr (by rw [List.mem_singleton.1 hb]; exact hz.1))).trans' e402 (fun b hb => .inr (hm b hb).2.2))
end
end Go.Proofs.Ytcampkaenlohbaa
