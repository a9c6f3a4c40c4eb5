/- SlotsWalk: the second walk. -/
import Derived.Test.YtcampkaenlohbaaW5
set_option linter.unusedVariables false
set_option linter.unusedSimpArgs false
namespace Go.Proofs.Ytcampkaenlohbaa
open Go Go.V Go.B

/-- What stands ahead of the second walk. -/
structure Lz (w0 : World) (K : Wc) (w : World) (Z : List Nat) (s1 s2 s3 d1 : Nat) : Prop where
  p1 : ∃ A n c, BlkT w s1 [.slice A n c] 62 ∧ Cells w A (PL.flat (prs K.rows)) ∧ (prs K.rows).length = n ∧ ∀ g ∈ ownF A, g ∈ Z ∧ g ≠ s3 ∧ g ≠ s2
  p2 : BlkT w s2 [.slice none 0 0] 62
  p3 : BlkT w s3 [.slice none 0 0] 62
  z : s1 ∈ Z ∧ s2 ∈ Z ∧ s3 ∈ Z ∧ s2 ∉ Zc K ∧ s3 ∉ Zc K ∧ s2 ≠ K.ct ∧ s3 ≠ K.ct ∧ s1 ≠ s2 ∧ s1 ≠ s3 ∧ s2 ≠ s3
  m : Mrk w d1 ∧ d1 ∈ Z ∧ d1 ∉ Zc K ∧ w0.heap.size ≤ d1 ∧ d1 ≠ s3 ∧ d1 ≠ s2
section
variable {w0 : World} {K : Wc}
theorem m2_pos (K : Wc) : 1 ≤ m2 K := by
  unfold m2
  split <;> omega
/-- From the second walk on to the steps that are left. -/
theorem to3 {wC wA : World} {Z Z1 : List Nat} {a s1 s2 s3 d1 : Nat} (hw : Wf w0 K) (h : Wv w0 K wC Z a) (lz : Lz w0 K wC Z1 s1 s2 s3 d1) (hZ1 : ∀ b ∈ Z1, b ∈ Z ∧ b ≠ K.ct)
    (e : Ext [s2] wC wA) (hm : Mrk wA wC.heap.size) {A : Option Addr} {n c : Nat} (b2 : BlkT wA s2 [.slice A n c] 62) (own : OwnL PL wA wC.heap.size 64 A n c ((prs K.rows).take (m2 K).toNat)) :
    Wv w0 K wA (wC.heap.size :: ownF A ++ Z) a ∧ Ly w0 K wA (wC.heap.size :: ownF A ++ Z1) s1 s2 s3 d1 wC.heap.size ∧ ∀ b ∈ wC.heap.size :: ownF A ++ Z1, b ∈ wC.heap.size :: ownF A ++ Z ∧ b ≠ K.ct := by
  obtain ⟨y1, y2, y3, c2, c3, t2, t3, n12, n13, n23⟩ := lz.z
  have hz := h.t.z
  have hb := own.base
  have hml := hm.lt
  have s2lt := (hz _ (hZ1 _ y2).1).2
  have s3lt := (hz _ (hZ1 _ y3).1).2
  have ctlt := (hz _ h.cz).2
  have d1lt := (hz _ (hZ1 _ lz.m.2.1).1).2
  obtain ⟨A1, n1, c1, b1, o1, l1, z1⟩ := lz.p1
  refine ⟨h.turn e (fun b hb => .inr ?_) (fun b hb' => ?_) (fun b hb => by simp [h.zc b hb]) (by simp [h.cz]), ⟨⟨A1, n1, c1, b1.ext e (by simpa using n12), o1.ext e (fun g hg => by simpa using (z1 g hg).2.2), l1, fun g hg => ⟨by simp [(z1 g hg).1], (z1 g hg).2.1⟩⟩, ⟨A, n, c, b2, own.cells, own.len, fun g hg => ⟨by simp [hg], by have := hb g hg; omega⟩⟩, lz.p3.ext e (by simpa using fun e => n23 e.symm), ⟨by simp [y1], by simp [y2], by simp [y3], c3, t3, n13, n23⟩, fun d hd => ?_, ?_⟩, fun b hb' => ?_⟩
  · rw [List.mem_singleton.1 hb]
    exact ⟨(hZ1 _ y2).1, c2, t2⟩
  · simp only [List.cons_append, List.mem_cons, List.mem_append] at hb'
    rcases hb' with rfl | h1 | h1
    · exact .inr ⟨Nat.le_refl _, hml⟩
    · have := hb b h1; exact .inr ⟨by omega, by omega⟩
    · exact .inl h1
  · simp only [List.mem_cons, List.not_mem_nil, or_false] at hd
    rcases hd with rfl | rfl
    · exact ⟨hm, by simp, fun hmm => by have := (hz _ (h.zc _ hmm)).2; omega, h.e.size, by omega⟩
    · obtain ⟨q1, q2, q3, q4, q5, q6⟩ := lz.m
      exact ⟨q1.ext e (by simpa using q6), by simp [q2], q3, q4, q5⟩
  · simp; omega
  · simp only [List.cons_append, List.mem_cons, List.mem_append] at hb' ⊢
    rcases hb' with rfl | h1 | h1
    · exact ⟨.inl rfl, by omega⟩
    · have := hb b h1; exact ⟨.inr (.inl h1), by omega⟩
    · exact ⟨.inr (.inr (hZ1 b h1).1), (hZ1 b h1).2⟩
set_option maxRecDepth 8000 in
theorem loop2_c {wC : World} {Z Z1 : List Nat} {a s1 s2 s3 d1 : Nat} (hw : Wf w0 K) (h : Wv w0 K wC Z a) (lz : Lz w0 K wC Z1 s1 s2 s3 d1) (hZ1 : ∀ b ∈ Z1, b ∈ Z ∧ b ≠ K.ct)
    {R : Ending → World → Prop} (k : ∀ w', Ext [] w0 w' → R (.returned (.bool true)) w') :
    V.ptr (some (⟨K.fb, 0, none⟩ : Addr)) fun a215 =>
  ∃ f216, ∃ f216a, ∃ f216c, World.cell? wC a215 = some (Value.func (.func f216) f216a f216c) ∧
  V.when (V.hasB Try.prog f216 && true) (∀ (Rc217 : Loop) (l218 : Nat) (w219 : World), l218 = Array.size (World.heap wC) + 1 → w219 = World.alloc (World.alloc wC (.deferred (some []))) (.loop { Rc217 with state := .ready, pending := none }) →
  (∀ y122_222 y123_223 (W220 : World) (R221 : Ending → World → Prop), V.LoopSt W220 l218 Rc217 .ready none →
  (V.LoopSt W220 l218 Rc217 .ready none ∧
  ∃ A224, ∃ A224l, ∃ A224c, World.cell? (V.setLoop W220 l218 Rc217 .busy none) ⟨s2, 0, none⟩ = some (Value.slice A224 A224l A224c) ∧
  ∀ w225, w225 = (World.alloc (V.setLoop W220 l218 Rc217 .busy none) (.cells #[(Value.int .i64 y122_222), (Value.string y123_223)] 64)) →
  ∃ A226, ∃ A226l, ∃ A226c, ∃ w227, Sem.run Try.prog (Builtin.append_ #[62, 62] 62 #[(Value.slice A224 A224l A224c), (Value.slice (some ⟨Array.size (World.heap (V.setLoop W220 l218 Rc217 .busy none)), 0, none⟩) 1 1)]) w225 = .ok (Value.slice A226 A226l A226c) w227 ∧
  ∃ w228, Sem.run Try.prog (Instr.storeAt 62 (Value.pointer (some ⟨s2, 0, none⟩)) (Value.slice A226 A226l A226c)) w227 = .ok () w228 ∧
  ∃ A229, ∃ A229l, ∃ A229c, World.cell? w228 ⟨s2, 0, none⟩ = some (Value.slice A229 A229l A229c) ∧
  ∃ n230, World.cell? w228 ⟨K.be, 0, none⟩ = some (Value.int .i64 n230) ∧
  V.sel (decide (((A229l : Nat) : Int) ≥ n230))
  (V.LoopSt w228 l218 Rc217 .busy none ∧ R221 (Ending.returned (Value.bool false)) (V.setLoop w228 l218 Rc217 .done (some (Code.exit 6))))
  (∃ A231, ∃ A231l, ∃ A231c, World.cell? w228 ⟨s2, 0, none⟩ = some (Value.slice A231 A231l A231c) ∧
  V.ptr (some (⟨K.gb, 0, none⟩ : Addr)) fun a232 =>
  ∃ A233, ∃ A233l, ∃ A233c, World.cell? w228 a232 = some (Value.slice A233 A233l A233c) ∧
  V.sel (decide (((A231l : Nat) : Int) > ((A233l : Nat) : Int)))
  (V.LoopSt w228 l218 Rc217 .busy none ∧ R221 (Ending.returned (Value.bool false)) (V.setLoop w228 l218 Rc217 .done (some (Code.exit 6))))
  (V.LoopSt w228 l218 Rc217 .busy none ∧ R221 (Ending.returned (Value.bool true)) (V.setLoop w228 l218 Rc217 .ready none)))) →
  V.Yield Try.prog l218 [(Value.int .i64 y122_222), (Value.string y123_223)] W220 R221) →
  Calls Try.prog f216 ⟨Array.toList f216a ++ [(Value.func (.yield l218) #[] #[])] ++ Array.toList f216c⟩ w219 fun e234 w236 => (∃ v235, e234 = Ending.returned v235) ∧
  ((V.LoopSt w236 l218 Rc217 .ready none ∧
  ∃ I237 : World → Prop, ∃ μ238 : World → Nat, I237 (V.setLoop w236 l218 Rc217 .exhausted none) ∧
  ∀ (j239 : Nat → Value) (w240 : World), I237 w240 →
  (∃ n241, World.cell? w240 ⟨K.ct, 0, none⟩ = some (Value.int .i64 n241) ∧
  ∃ A242, ∃ A242l, ∃ A242c, World.cell? w240 ⟨K.ba, 0, none⟩ = some (Value.slice A242 A242l A242c) ∧
  V.sel (decide (n241 < ((A242l : Nat) : Int)))
  (∃ A243, ∃ A243l, ∃ A243c, World.cell? w240 ⟨K.ba, 0, none⟩ = some (Value.slice A243 A243l A243c) ∧
  ∃ n244, World.cell? w240 ⟨K.ct, 0, none⟩ = some (Value.int .i64 n244) ∧
  V.when (decide ((0 : Int) ≤ n244 ∧ (n244 : Int) < ((A243l : Nat) : Int))) (V.ptr A243 fun a245 =>
  ∃ n246, ∃ n247, ∃ n248, ∃ s249, ∃ n250, V.cellsC (fun a_ x_ => World.cell? w240 a_ = some x_) (Addr.add a245 ((Int.toNat n244) * 5)) [(Value.int .i64 n246), (Value.int .i64 n247), (Value.int .i64 n248), (Value.string s249), (Value.int .i64 n250)] ∧
  ∀ w251, w251 = (World.alloc w240 (.cells #[(Value.int .i64 0), (Value.int .i64 0), (Value.int .i64 0), (Value.string ByteArray.empty), (Value.int .i64 0)] 31)) →
  ∃ w252, Sem.run Try.prog (Instr.storeAt 31 (Value.pointer (some ⟨Array.size (World.heap w240), 0, none⟩)) (Value.agg #[(Value.int .i64 n246), (Value.int .i64 n247), (Value.int .i64 n248), (Value.string s249), (Value.int .i64 n250)])) w251 = .ok () w252 ∧
  ∃ w253, Sem.run Try.prog (Instr.storeAt 3 (Value.pointer (some (Addr.add ⟨Array.size (World.heap w240), 0, none⟩ 1))) (Value.int .i64 1)) w252 = .ok () w253 ∧
  ∃ n254, World.cell? w253 (Addr.add ⟨Array.size (World.heap w240), 0, none⟩ 0) = some (Value.int .i64 n254) ∧
  V.sel (decide (n254 ≥ 2))
  (∃ n255, World.cell? w253 (Addr.add ⟨Array.size (World.heap w240), 0, none⟩ 0) = some (Value.int .i64 n255) ∧
  V.sel (decide (n255 ≤ 4))
  (∃ p256, World.cell? w253 ⟨K.bw, 0, none⟩ = some (Value.pointer p256) ∧
  ∃ n257, ∃ n258, ∃ n259, ∃ s260, ∃ n261, V.cellsC (fun a_ x_ => World.cell? w253 a_ = some x_) ⟨Array.size (World.heap w240), 0, none⟩ [(Value.int .i64 n257), (Value.int .i64 n258), (Value.int .i64 n259), (Value.string s260), (Value.int .i64 n261)] ∧
  Calls Try.prog 20 #[(Value.pointer p256), (Value.agg #[(Value.int .i64 n257), (Value.int .i64 n258), (Value.int .i64 n259), (Value.string s260), (Value.int .i64 n261)])] w253 fun e263 w264 =>
  ∃ b262, e263 = Ending.returned (Value.bool b262) ∧
  V.sel (!b262)
  (∃ w265, Sem.run Try.prog (Instr.storeAt 4 (Value.pointer (some ⟨K.br, 0, none⟩)) (Value.bool false)) w264 = .ok () w265 ∧
  V.closeR (Array.size (World.heap wC) :: (d1 :: [])) w265 fun w266 =>
  ∃ b267, World.cell? w266 ⟨K.br, 0, none⟩ = some (Value.bool b267) ∧
  R (Ending.returned (Value.bool b267)) w266)
  (∃ n268, World.cell? w264 ⟨K.ct, 0, none⟩ = some (Value.int .i64 n268) ∧
  ∃ w269, Sem.run Try.prog (Instr.storeAt 3 (Value.pointer (some ⟨K.ct, 0, none⟩)) (Value.int .i64 (IntKind.wrap .i64 (n268 + 1)))) w264 = .ok () w269 ∧
  I237 w269 ∧ μ238 w269 < μ238 w240))
  (∃ n270, World.cell? w253 ⟨K.ct, 0, none⟩ = some (Value.int .i64 n270) ∧
  ∃ w271, Sem.run Try.prog (Instr.storeAt 3 (Value.pointer (some ⟨K.ct, 0, none⟩)) (Value.int .i64 (IntKind.wrap .i64 (n270 + 1)))) w253 = .ok () w271 ∧
  I237 w271 ∧ μ238 w271 < μ238 w240))
  (∃ n272, World.cell? w253 ⟨K.ct, 0, none⟩ = some (Value.int .i64 n272) ∧
  ∃ w273, Sem.run Try.prog (Instr.storeAt 3 (Value.pointer (some ⟨K.ct, 0, none⟩)) (Value.int .i64 (IntKind.wrap .i64 (n272 + 1)))) w253 = .ok () w273 ∧
  I237 w273 ∧ μ238 w273 < μ238 w240)))
  (V.ptr (some (⟨K.fb, 0, none⟩ : Addr)) fun a274 =>
  ∃ f275, ∃ f275a, ∃ f275c, World.cell? w240 a274 = some (Value.func (.func f275) f275a f275c) ∧
  V.when (V.hasB Try.prog f275 && true) (∀ (Rc276 : Loop) (l277 : Nat) (w278 : World), l277 = Array.size (World.heap w240) + 1 → w278 = World.alloc (World.alloc w240 (.deferred (some []))) (.loop { Rc276 with state := .ready, pending := none }) →
  (∀ y167_281 y168_282 (W279 : World) (R280 : Ending → World → Prop), V.LoopSt W279 l277 Rc276 .ready none →
  (V.LoopSt W279 l277 Rc276 .ready none ∧
  ∃ A283, ∃ A283l, ∃ A283c, World.cell? (V.setLoop W279 l277 Rc276 .busy none) ⟨s3, 0, none⟩ = some (Value.slice A283 A283l A283c) ∧
  ∀ w284, w284 = (World.alloc (V.setLoop W279 l277 Rc276 .busy none) (.cells #[(Value.int .i64 y167_281), (Value.string y168_282)] 64)) →
  ∃ A285, ∃ A285l, ∃ A285c, ∃ w286, Sem.run Try.prog (Builtin.append_ #[62, 62] 62 #[(Value.slice A283 A283l A283c), (Value.slice (some ⟨Array.size (World.heap (V.setLoop W279 l277 Rc276 .busy none)), 0, none⟩) 1 1)]) w284 = .ok (Value.slice A285 A285l A285c) w286 ∧
  ∃ w287, Sem.run Try.prog (Instr.storeAt 62 (Value.pointer (some ⟨s3, 0, none⟩)) (Value.slice A285 A285l A285c)) w286 = .ok () w287 ∧
  ∃ A288, ∃ A288l, ∃ A288c, World.cell? w287 ⟨s3, 0, none⟩ = some (Value.slice A288 A288l A288c) ∧
  V.ptr (some (⟨K.gb, 0, none⟩ : Addr)) fun a289 =>
  ∃ A290, ∃ A290l, ∃ A290c, World.cell? w287 a289 = some (Value.slice A290 A290l A290c) ∧
  V.sel (decide (((A288l : Nat) : Int) > ((A290l : Nat) : Int)))
  (∃ w291, Sem.run Try.prog (Instr.storeAt 4 (Value.pointer (some ⟨K.br, 0, none⟩)) (Value.bool false)) w287 = .ok () w291 ∧
  V.LoopSt w291 l277 Rc276 .busy none ∧ R280 (Ending.returned (Value.bool false)) (V.setLoop w291 l277 Rc276 .done (some Code.ret)))
  (V.LoopSt w287 l277 Rc276 .busy none ∧ R280 (Ending.returned (Value.bool true)) (V.setLoop w287 l277 Rc276 .ready none))) →
  V.Yield Try.prog l277 [(Value.int .i64 y167_281), (Value.string y168_282)] W279 R280) →
  Calls Try.prog f275 ⟨Array.toList f275a ++ [(Value.func (.yield l277) #[] #[])] ++ Array.toList f275c⟩ w278 fun e292 w294 => (∃ v293, e292 = Ending.returned v293) ∧
  ((V.LoopSt w294 l277 Rc276 .ready none ∧
  ∀ w295, w295 = (World.alloc (V.setLoop w294 l277 Rc276 .exhausted none) (.cells #[(Value.int .i64 0)] 3)) →
  ∃ w296, Sem.run Try.prog (Instr.storeAt 3 (Value.pointer (some ⟨Array.size (World.heap (V.setLoop w294 l277 Rc276 .exhausted none)), 0, none⟩)) (Value.int .i64 0)) w295 = .ok () w296 ∧
  V.ptr (some (⟨K.fb, 0, none⟩ : Addr)) fun a297 =>
  ∃ f298, ∃ f298a, ∃ f298c, World.cell? w296 a297 = some (Value.func (.func f298) f298a f298c) ∧
  V.when (V.hasB Try.prog f298 && true) (∀ (Rc299 : Loop) (l300 : Nat) (w301 : World), l300 = Array.size (World.heap w296) + 1 → w301 = World.alloc (World.alloc w296 (.deferred (some []))) (.loop { Rc299 with state := .ready, pending := none }) →
  (∀ y181_304 y182_305 (W302 : World) (R303 : Ending → World → Prop), V.LoopSt W302 l300 Rc299 .ready none →
  (V.LoopSt W302 l300 Rc299 .ready none ∧
  ∃ n306, World.cell? (V.setLoop W302 l300 Rc299 .busy none) ⟨Array.size (World.heap (V.setLoop w294 l277 Rc276 .exhausted none)), 0, none⟩ = some (Value.int .i64 n306) ∧
  V.ptr (some (⟨K.gb, 0, none⟩ : Addr)) fun a307 =>
  ∃ A308, ∃ A308l, ∃ A308c, World.cell? (V.setLoop W302 l300 Rc299 .busy none) a307 = some (Value.slice A308 A308l A308c) ∧
  V.sel (decide (n306 ≥ ((A308l : Nat) : Int)))
  (∃ w309, Sem.run Try.prog (Instr.storeAt 4 (Value.pointer (some ⟨K.br, 0, none⟩)) (Value.bool false)) (V.setLoop W302 l300 Rc299 .busy none) = .ok () w309 ∧
  V.LoopSt w309 l300 Rc299 .busy none ∧ R303 (Ending.returned (Value.bool false)) (V.setLoop w309 l300 Rc299 .done (some Code.ret)))
  (V.ptr (some (⟨K.gb, 0, none⟩ : Addr)) fun a310 =>
  ∃ A311, ∃ A311l, ∃ A311c, World.cell? (V.setLoop W302 l300 Rc299 .busy none) a310 = some (Value.slice A311 A311l A311c) ∧
  ∃ n312, World.cell? (V.setLoop W302 l300 Rc299 .busy none) ⟨Array.size (World.heap (V.setLoop w294 l277 Rc276 .exhausted none)), 0, none⟩ = some (Value.int .i64 n312) ∧
  V.when (decide ((0 : Int) ≤ n312 ∧ (n312 : Int) < ((A311l : Nat) : Int))) (V.ptr A311 fun a313 =>
  ∃ n314, World.cell? (V.setLoop W302 l300 Rc299 .busy none) (Addr.add (Addr.add a313 ((Int.toNat n312) * 3)) 0) = some (Value.int .i64 n314) ∧
  V.sel (y181_304 != n314)
  (∃ w315, Sem.run Try.prog (Instr.storeAt 4 (Value.pointer (some ⟨K.br, 0, none⟩)) (Value.bool false)) (V.setLoop W302 l300 Rc299 .busy none) = .ok () w315 ∧
  V.LoopSt w315 l300 Rc299 .busy none ∧ R303 (Ending.returned (Value.bool false)) (V.setLoop w315 l300 Rc299 .done (some Code.ret)))
  (V.ptr (some (⟨K.gb, 0, none⟩ : Addr)) fun a316 =>
  ∃ A317, ∃ A317l, ∃ A317c, World.cell? (V.setLoop W302 l300 Rc299 .busy none) a316 = some (Value.slice A317 A317l A317c) ∧
  ∃ n318, World.cell? (V.setLoop W302 l300 Rc299 .busy none) ⟨Array.size (World.heap (V.setLoop w294 l277 Rc276 .exhausted none)), 0, none⟩ = some (Value.int .i64 n318) ∧
  V.when (decide ((0 : Int) ≤ n318 ∧ (n318 : Int) < ((A317l : Nat) : Int))) (V.ptr A317 fun a319 =>
  ∃ s320, World.cell? (V.setLoop W302 l300 Rc299 .busy none) (Addr.add (Addr.add a319 ((Int.toNat n318) * 3)) 1) = some (Value.string s320) ∧
  V.sel (!(ByteArray.toList y182_305 == ByteArray.toList s320))
  (∃ w321, Sem.run Try.prog (Instr.storeAt 4 (Value.pointer (some ⟨K.br, 0, none⟩)) (Value.bool false)) (V.setLoop W302 l300 Rc299 .busy none) = .ok () w321 ∧
  V.LoopSt w321 l300 Rc299 .busy none ∧ R303 (Ending.returned (Value.bool false)) (V.setLoop w321 l300 Rc299 .done (some Code.ret)))
  (∀ w322, w322 = (World.alloc (V.setLoop W302 l300 Rc299 .busy none) (.cells #[(Value.int .i64 0)] 3)) →
  ∃ w323, Sem.run Try.prog (Instr.storeAt 3 (Value.pointer (some ⟨Array.size (World.heap (V.setLoop W302 l300 Rc299 .busy none)), 0, none⟩)) (Value.int .i64 0)) w322 = .ok () w323 ∧
  V.ptr (some (⟨K.fb, 0, none⟩ : Addr)) fun a324 =>
  ∃ f325, ∃ f325a, ∃ f325c, World.cell? w323 a324 = some (Value.func (.func f325) f325a f325c) ∧
  V.when (V.hasB Try.prog f325 && true) ((∃ r0, (World.heap w323)[l300]? = some (.loop r0)) ∧
  ∀ (Rc326 : Loop) (l327 : Nat) (w328 : World), l327 = Array.size (World.heap w323) → w328 = World.alloc w323 (.loop { Rc326 with state := .ready, pending := none }) →
  (∀ y206_331 y207_332 (W329 : World) (R330 : Ending → World → Prop), V.LoopSt W329 l327 Rc326 .ready none →
  (V.LoopSt W329 l327 Rc326 .ready none ∧
  ∃ n333, World.cell? (V.setLoop W329 l327 Rc326 .busy none) ⟨Array.size (World.heap (V.setLoop W302 l300 Rc299 .busy none)), 0, none⟩ = some (Value.int .i64 n333) ∧
  V.ptr (some (⟨K.gb, 0, none⟩ : Addr)) fun a334 =>
  ∃ A335, ∃ A335l, ∃ A335c, World.cell? (V.setLoop W329 l327 Rc326 .busy none) a334 = some (Value.slice A335 A335l A335c) ∧
  V.sel (decide (n333 ≥ ((A335l : Nat) : Int)))
  (∃ w336, Sem.run Try.prog (Instr.storeAt 4 (Value.pointer (some ⟨K.br, 0, none⟩)) (Value.bool false)) (V.setLoop W329 l327 Rc326 .busy none) = .ok () w336 ∧
  V.LoopSt w336 l327 Rc326 .busy none ∧ R330 (Ending.returned (Value.bool false)) (V.setLoop w336 l327 Rc326 .done (some Code.ret)))
  (V.ptr (some (⟨K.gb, 0, none⟩ : Addr)) fun a337 =>
  ∃ A338, ∃ A338l, ∃ A338c, World.cell? (V.setLoop W329 l327 Rc326 .busy none) a337 = some (Value.slice A338 A338l A338c) ∧
  ∃ n339, World.cell? (V.setLoop W329 l327 Rc326 .busy none) ⟨Array.size (World.heap (V.setLoop W302 l300 Rc299 .busy none)), 0, none⟩ = some (Value.int .i64 n339) ∧
  V.when (decide ((0 : Int) ≤ n339 ∧ (n339 : Int) < ((A338l : Nat) : Int))) (V.ptr A338 fun a340 =>
  ∃ n341, World.cell? (V.setLoop W329 l327 Rc326 .busy none) (Addr.add (Addr.add a340 ((Int.toNat n339) * 3)) 0) = some (Value.int .i64 n341) ∧
  V.sel (y206_331 != n341)
  (∃ w342, Sem.run Try.prog (Instr.storeAt 4 (Value.pointer (some ⟨K.br, 0, none⟩)) (Value.bool false)) (V.setLoop W329 l327 Rc326 .busy none) = .ok () w342 ∧
  V.LoopSt w342 l327 Rc326 .busy none ∧ R330 (Ending.returned (Value.bool false)) (V.setLoop w342 l327 Rc326 .done (some Code.ret)))
  (V.ptr (some (⟨K.gb, 0, none⟩ : Addr)) fun a343 =>
  ∃ A344, ∃ A344l, ∃ A344c, World.cell? (V.setLoop W329 l327 Rc326 .busy none) a343 = some (Value.slice A344 A344l A344c) ∧
  ∃ n345, World.cell? (V.setLoop W329 l327 Rc326 .busy none) ⟨Array.size (World.heap (V.setLoop W302 l300 Rc299 .busy none)), 0, none⟩ = some (Value.int .i64 n345) ∧
  V.when (decide ((0 : Int) ≤ n345 ∧ (n345 : Int) < ((A344l : Nat) : Int))) (V.ptr A344 fun a346 =>
  ∃ s347, World.cell? (V.setLoop W329 l327 Rc326 .busy none) (Addr.add (Addr.add a346 ((Int.toNat n345) * 3)) 1) = some (Value.string s347) ∧
  V.sel (!(ByteArray.toList y207_332 == ByteArray.toList s347))
  (∃ w348, Sem.run Try.prog (Instr.storeAt 4 (Value.pointer (some ⟨K.br, 0, none⟩)) (Value.bool false)) (V.setLoop W329 l327 Rc326 .busy none) = .ok () w348 ∧
  V.LoopSt w348 l327 Rc326 .busy none ∧ R330 (Ending.returned (Value.bool false)) (V.setLoop w348 l327 Rc326 .done (some Code.ret)))
  (∃ n349, World.cell? (V.setLoop W329 l327 Rc326 .busy none) ⟨Array.size (World.heap (V.setLoop W302 l300 Rc299 .busy none)), 0, none⟩ = some (Value.int .i64 n349) ∧
  ∃ w350, Sem.run Try.prog (Instr.storeAt 3 (Value.pointer (some ⟨Array.size (World.heap (V.setLoop W302 l300 Rc299 .busy none)), 0, none⟩)) (Value.int .i64 (IntKind.wrap .i64 (n349 + 1)))) (V.setLoop W329 l327 Rc326 .busy none) = .ok () w350 ∧
  ∃ n351, World.cell? w350 ⟨Array.size (World.heap (V.setLoop W302 l300 Rc299 .busy none)), 0, none⟩ = some (Value.int .i64 n351) ∧
  ∃ n352, World.cell? w350 ⟨Array.size (World.heap (V.setLoop w294 l277 Rc276 .exhausted none)), 0, none⟩ = some (Value.int .i64 n352) ∧
  V.sel (decide (n351 > n352))
  (V.LoopSt w350 l327 Rc326 .busy none ∧ R330 (Ending.returned (Value.bool false)) (V.setLoop w350 l327 Rc326 .done (some (Code.exit 14))))
  (V.LoopSt w350 l327 Rc326 .busy none ∧ R330 (Ending.returned (Value.bool true)) (V.setLoop w350 l327 Rc326 .ready none)))))))) →
  V.Yield Try.prog l327 [(Value.int .i64 y206_331), (Value.string y207_332)] W329 R330) →
  Calls Try.prog f325 ⟨Array.toList f325a ++ [(Value.func (.yield l327) #[] #[])] ++ Array.toList f325c⟩ w328 fun e353 w355 => (∃ v354, e353 = Ending.returned v354) ∧
  ((V.LoopSt w355 l327 Rc326 .ready none ∧
  ∃ n356, World.cell? (V.setLoop w355 l327 Rc326 .exhausted none) ⟨Array.size (World.heap (V.setLoop w294 l277 Rc276 .exhausted none)), 0, none⟩ = some (Value.int .i64 n356) ∧
  ∃ w357, Sem.run Try.prog (Instr.storeAt 3 (Value.pointer (some ⟨Array.size (World.heap (V.setLoop w294 l277 Rc276 .exhausted none)), 0, none⟩)) (Value.int .i64 (IntKind.wrap .i64 (n356 + 1)))) (V.setLoop w355 l327 Rc326 .exhausted none) = .ok () w357 ∧
  V.LoopSt w357 l300 Rc299 .busy none ∧ R303 (Ending.returned (Value.bool true)) (V.setLoop w357 l300 Rc299 .ready none)) ∨
  (V.LoopSt w355 l327 Rc326 .done (some Code.ret) ∧
  V.LoopSt (V.setLoop w355 l327 Rc326 .exhausted (some Code.ret)) l300 Rc299 .busy none ∧ R303 (Ending.returned (Value.bool false)) (V.setLoop (V.setLoop w355 l327 Rc326 .exhausted (some Code.ret)) l300 Rc299 .done (some Code.ret))) ∨
  (V.LoopSt w355 l327 Rc326 .done (some (Code.exit 14)) ∧
  ∃ n358, World.cell? (V.setLoop w355 l327 Rc326 .exhausted (some (Code.exit 14))) ⟨Array.size (World.heap (V.setLoop w294 l277 Rc276 .exhausted none)), 0, none⟩ = some (Value.int .i64 n358) ∧
  ∃ w359, Sem.run Try.prog (Instr.storeAt 3 (Value.pointer (some ⟨Array.size (World.heap (V.setLoop w294 l277 Rc276 .exhausted none)), 0, none⟩)) (Value.int .i64 (IntKind.wrap .i64 (n358 + 1)))) (V.setLoop w355 l327 Rc326 .exhausted (some (Code.exit 14))) = .ok () w359 ∧
  V.LoopSt w359 l300 Rc299 .busy none ∧ R303 (Ending.returned (Value.bool true)) (V.setLoop w359 l300 Rc299 .ready none)) ∨
  False)))))))) →
  V.Yield Try.prog l300 [(Value.int .i64 y181_304), (Value.string y182_305)] W302 R303) →
  Calls Try.prog f298 ⟨Array.toList f298a ++ [(Value.func (.yield l300) #[] #[])] ++ Array.toList f298c⟩ w301 fun e360 w362 => (∃ v361, e360 = Ending.returned v361) ∧
  ((V.LoopSt w362 l300 Rc299 .ready none ∧
  ∃ S363 : World → Prop, S363 (World.drew (V.setLoop w362 l300 Rc299 .exhausted none)) ∧
  ∃ n365, (∀ w364, S363 w364 → World.cell? w364 ⟨Array.size (World.heap (V.setLoop w294 l277 Rc276 .exhausted none)), 0, none⟩ = some (Value.int .i64 n365)) ∧
  V.ptr (some (⟨K.gb, 0, none⟩ : Addr)) fun a366 =>
  ∃ A367, ∃ A367l, ∃ A367c, (∀ w364, S363 w364 → World.cell? w364 a366 = some (Value.slice A367 A367l A367c)) ∧
  V.sel (n365 == ((A367l : Nat) : Int))
  (∃ A368, ∃ A368l, ∃ A368c, (∀ w364, S363 w364 → World.cell? w364 ⟨s1, 0, none⟩ = some (Value.slice A368 A368l A368c)) ∧
  V.ptr (some (⟨K.gb, 0, none⟩ : Addr)) fun a369 =>
  ∃ A370, ∃ A370l, ∃ A370c, (∀ w364, S363 w364 → World.cell? w364 a369 = some (Value.slice A370 A370l A370c)) ∧
  V.ptr (some (⟨K.gb, 0, none⟩ : Addr)) fun a371 =>
  ∃ A372, ∃ A372l, ∃ A372c, (∀ w364, S363 w364 → World.cell? w364 a371 = some (Value.slice A372 A372l A372c)) ∧
  Calls Try.prog 24 #[(Value.slice A368 A368l A368c), (Value.slice A370 A370l A370c), (Value.int .i64 ((A372l : Nat) : Int))] (World.drew (V.setLoop w362 l300 Rc299 .exhausted none)) fun e374 w375 =>
  ∃ b373, e374 = Ending.returned (Value.bool b373) ∧
  S363 w375 ∧
  V.sel b373
  (∃ A376, ∃ A376l, ∃ A376c, (∀ w364, S363 w364 → World.cell? w364 ⟨s2, 0, none⟩ = some (Value.slice A376 A376l A376c)) ∧
  V.ptr (some (⟨K.gb, 0, none⟩ : Addr)) fun a377 =>
  ∃ A378, ∃ A378l, ∃ A378c, (∀ w364, S363 w364 → World.cell? w364 a377 = some (Value.slice A378 A378l A378c)) ∧
  ∃ n379, (∀ w364, S363 w364 → World.cell? w364 ⟨K.be, 0, none⟩ = some (Value.int .i64 n379)) ∧
  Calls Try.prog 24 #[(Value.slice A376 A376l A376c), (Value.slice A378 A378l A378c), (Value.int .i64 (if n379 > 1 then n379 else 1))] w375 fun e381 w382 =>
  ∃ b380, e381 = Ending.returned (Value.bool b380) ∧
  S363 w382 ∧
  V.sel b380
  (∃ A383, ∃ A383l, ∃ A383c, (∀ w364, S363 w364 → World.cell? w364 ⟨s3, 0, none⟩ = some (Value.slice A383 A383l A383c)) ∧
  V.ptr (some (⟨K.gb, 0, none⟩ : Addr)) fun a384 =>
  ∃ A385, ∃ A385l, ∃ A385c, (∀ w364, S363 w364 → World.cell? w364 a384 = some (Value.slice A385 A385l A385c)) ∧
  V.ptr (some (⟨K.gb, 0, none⟩ : Addr)) fun a386 =>
  ∃ A387, ∃ A387l, ∃ A387c, (∀ w364, S363 w364 → World.cell? w364 a386 = some (Value.slice A387 A387l A387c)) ∧
  Calls Try.prog 24 #[(Value.slice A383 A383l A383c), (Value.slice A385 A385l A385c), (Value.int .i64 ((A387l : Nat) : Int))] w382 fun e389 w390 =>
  ∃ b388, e389 = Ending.returned (Value.bool b388) ∧
  S363 w390 ∧
  V.sel b388
  (∃ p391, (∀ w364, S363 w364 → World.cell? w364 ⟨K.bw, 0, none⟩ = some (Value.pointer p391)) ∧
  V.ptr p391 fun a392 =>
  ∃ p393, (∀ w364, S363 w364 → World.cell? w364 (Addr.add (Addr.add a392 0) 1) = some (Value.pointer p393)) ∧
  ∃ p394, (∀ w364, S363 w364 → World.cell? w364 ⟨K.bw, 0, none⟩ = some (Value.pointer p394)) ∧
  V.ptr p394 fun a395 =>
  ∃ n396, ∃ A397, ∃ A397l, ∃ A397c, V.cellsC (fun a_ x_ => ∀ w364, S363 w364 → World.cell? w364 a_ = some x_) (Addr.add (Addr.add a395 4) 2) [(Value.int .i64 n396), (Value.slice A397 A397l A397c)] ∧
  Calls Try.prog 21 #[(Value.pointer p393), (Value.agg #[(Value.int .i64 n396), (Value.slice A397 A397l A397c)])] w390 fun e399 w400 =>
  ∃ b398, e399 = Ending.returned (Value.bool b398) ∧
  S363 w400 ∧
  ∃ w401, Sem.run Try.prog (Instr.storeAt 4 (Value.pointer (some ⟨K.br, 0, none⟩)) (Value.bool b398)) w400 = .ok () w401 ∧
  V.closeR (Array.size (World.heap w296) :: (Array.size (World.heap w240) :: (Array.size (World.heap wC) :: (d1 :: [])))) w401 fun w402 =>
  ∃ b403, World.cell? w402 ⟨K.br, 0, none⟩ = some (Value.bool b403) ∧
  R (Ending.returned (Value.bool b403)) w402)
  (∃ w404, Sem.run Try.prog (Instr.storeAt 4 (Value.pointer (some ⟨K.br, 0, none⟩)) (Value.bool false)) w390 = .ok () w404 ∧
  V.closeR (Array.size (World.heap w296) :: (Array.size (World.heap w240) :: (Array.size (World.heap wC) :: (d1 :: [])))) w404 fun w405 =>
  ∃ b406, World.cell? w405 ⟨K.br, 0, none⟩ = some (Value.bool b406) ∧
  R (Ending.returned (Value.bool b406)) w405))
  (∃ w407, Sem.run Try.prog (Instr.storeAt 4 (Value.pointer (some ⟨K.br, 0, none⟩)) (Value.bool false)) w382 = .ok () w407 ∧
  V.closeR (Array.size (World.heap w296) :: (Array.size (World.heap w240) :: (Array.size (World.heap wC) :: (d1 :: [])))) w407 fun w408 =>
  ∃ b409, World.cell? w408 ⟨K.br, 0, none⟩ = some (Value.bool b409) ∧
  R (Ending.returned (Value.bool b409)) w408))
  (∃ w410, Sem.run Try.prog (Instr.storeAt 4 (Value.pointer (some ⟨K.br, 0, none⟩)) (Value.bool false)) w375 = .ok () w410 ∧
  V.closeR (Array.size (World.heap w296) :: (Array.size (World.heap w240) :: (Array.size (World.heap wC) :: (d1 :: [])))) w410 fun w411 =>
  ∃ b412, World.cell? w411 ⟨K.br, 0, none⟩ = some (Value.bool b412) ∧
  R (Ending.returned (Value.bool b412)) w411))
  (∃ w413, Sem.run Try.prog (Instr.storeAt 4 (Value.pointer (some ⟨K.br, 0, none⟩)) (Value.bool false)) (World.drew (V.setLoop w362 l300 Rc299 .exhausted none)) = .ok () w413 ∧
  V.closeR (Array.size (World.heap w296) :: (Array.size (World.heap w240) :: (Array.size (World.heap wC) :: (d1 :: [])))) w413 fun w414 =>
  ∃ b415, World.cell? w414 ⟨K.br, 0, none⟩ = some (Value.bool b415) ∧
  R (Ending.returned (Value.bool b415)) w414)) ∨
  (V.LoopSt w362 l300 Rc299 .done (some Code.ret) ∧
  V.closeR (Array.size (World.heap w296) :: (Array.size (World.heap w240) :: (Array.size (World.heap wC) :: (d1 :: [])))) (V.setLoop w362 l300 Rc299 .exhausted (some Code.ret)) fun w416 =>
  ∃ b417, World.cell? w416 ⟨K.br, 0, none⟩ = some (Value.bool b417) ∧
  R (Ending.returned (Value.bool b417)) w416) ∨
  False))) ∨
  (V.LoopSt w294 l277 Rc276 .done (some Code.ret) ∧
  V.closeR (Array.size (World.heap w240) :: (Array.size (World.heap wC) :: (d1 :: []))) (V.setLoop w294 l277 Rc276 .exhausted (some Code.ret)) fun w418 =>
  ∃ b419, World.cell? w418 ⟨K.br, 0, none⟩ = some (Value.bool b419) ∧
  R (Ending.returned (Value.bool b419)) w418) ∨
  False))))) ∨
  (V.LoopSt w236 l218 Rc217 .done (some (Code.exit 6)) ∧
  ∃ I420 : World → Prop, ∃ μ421 : World → Nat, I420 (V.setLoop w236 l218 Rc217 .exhausted (some (Code.exit 6))) ∧
  ∀ (j422 : Nat → Value) (w423 : World), I420 w423 →
  (∃ n424, World.cell? w423 ⟨K.ct, 0, none⟩ = some (Value.int .i64 n424) ∧
  ∃ A425, ∃ A425l, ∃ A425c, World.cell? w423 ⟨K.ba, 0, none⟩ = some (Value.slice A425 A425l A425c) ∧
  V.sel (decide (n424 < ((A425l : Nat) : Int)))
  (∃ A426, ∃ A426l, ∃ A426c, World.cell? w423 ⟨K.ba, 0, none⟩ = some (Value.slice A426 A426l A426c) ∧
  ∃ n427, World.cell? w423 ⟨K.ct, 0, none⟩ = some (Value.int .i64 n427) ∧
  V.when (decide ((0 : Int) ≤ n427 ∧ (n427 : Int) < ((A426l : Nat) : Int))) (V.ptr A426 fun a428 =>
  ∃ n429, ∃ n430, ∃ n431, ∃ s432, ∃ n433, V.cellsC (fun a_ x_ => World.cell? w423 a_ = some x_) (Addr.add a428 ((Int.toNat n427) * 5)) [(Value.int .i64 n429), (Value.int .i64 n430), (Value.int .i64 n431), (Value.string s432), (Value.int .i64 n433)] ∧
  ∀ w434, w434 = (World.alloc w423 (.cells #[(Value.int .i64 0), (Value.int .i64 0), (Value.int .i64 0), (Value.string ByteArray.empty), (Value.int .i64 0)] 31)) →
  ∃ w435, Sem.run Try.prog (Instr.storeAt 31 (Value.pointer (some ⟨Array.size (World.heap w423), 0, none⟩)) (Value.agg #[(Value.int .i64 n429), (Value.int .i64 n430), (Value.int .i64 n431), (Value.string s432), (Value.int .i64 n433)])) w434 = .ok () w435 ∧
  ∃ w436, Sem.run Try.prog (Instr.storeAt 3 (Value.pointer (some (Addr.add ⟨Array.size (World.heap w423), 0, none⟩ 1))) (Value.int .i64 1)) w435 = .ok () w436 ∧
  ∃ n437, World.cell? w436 (Addr.add ⟨Array.size (World.heap w423), 0, none⟩ 0) = some (Value.int .i64 n437) ∧
  V.sel (decide (n437 ≥ 2))
  (∃ n438, World.cell? w436 (Addr.add ⟨Array.size (World.heap w423), 0, none⟩ 0) = some (Value.int .i64 n438) ∧
  V.sel (decide (n438 ≤ 4))
  (∃ p439, World.cell? w436 ⟨K.bw, 0, none⟩ = some (Value.pointer p439) ∧
  ∃ n440, ∃ n441, ∃ n442, ∃ s443, ∃ n444, V.cellsC (fun a_ x_ => World.cell? w436 a_ = some x_) ⟨Array.size (World.heap w423), 0, none⟩ [(Value.int .i64 n440), (Value.int .i64 n441), (Value.int .i64 n442), (Value.string s443), (Value.int .i64 n444)] ∧
  Calls Try.prog 20 #[(Value.pointer p439), (Value.agg #[(Value.int .i64 n440), (Value.int .i64 n441), (Value.int .i64 n442), (Value.string s443), (Value.int .i64 n444)])] w436 fun e446 w447 =>
  ∃ b445, e446 = Ending.returned (Value.bool b445) ∧
  V.sel (!b445)
  (∃ w448, Sem.run Try.prog (Instr.storeAt 4 (Value.pointer (some ⟨K.br, 0, none⟩)) (Value.bool false)) w447 = .ok () w448 ∧
  V.closeR (Array.size (World.heap wC) :: (d1 :: [])) w448 fun w449 =>
  ∃ b450, World.cell? w449 ⟨K.br, 0, none⟩ = some (Value.bool b450) ∧
  R (Ending.returned (Value.bool b450)) w449)
  (∃ n451, World.cell? w447 ⟨K.ct, 0, none⟩ = some (Value.int .i64 n451) ∧
  ∃ w452, Sem.run Try.prog (Instr.storeAt 3 (Value.pointer (some ⟨K.ct, 0, none⟩)) (Value.int .i64 (IntKind.wrap .i64 (n451 + 1)))) w447 = .ok () w452 ∧
  I420 w452 ∧ μ421 w452 < μ421 w423))
  (∃ n453, World.cell? w436 ⟨K.ct, 0, none⟩ = some (Value.int .i64 n453) ∧
  ∃ w454, Sem.run Try.prog (Instr.storeAt 3 (Value.pointer (some ⟨K.ct, 0, none⟩)) (Value.int .i64 (IntKind.wrap .i64 (n453 + 1)))) w436 = .ok () w454 ∧
  I420 w454 ∧ μ421 w454 < μ421 w423))
  (∃ n455, World.cell? w436 ⟨K.ct, 0, none⟩ = some (Value.int .i64 n455) ∧
  ∃ w456, Sem.run Try.prog (Instr.storeAt 3 (Value.pointer (some ⟨K.ct, 0, none⟩)) (Value.int .i64 (IntKind.wrap .i64 (n455 + 1)))) w436 = .ok () w456 ∧
  I420 w456 ∧ μ421 w456 < μ421 w423)))
  (V.ptr (some (⟨K.fb, 0, none⟩ : Addr)) fun a457 =>
  ∃ f458, ∃ f458a, ∃ f458c, World.cell? w423 a457 = some (Value.func (.func f458) f458a f458c) ∧
  V.when (V.hasB Try.prog f458 && true) (∀ (Rc459 : Loop) (l460 : Nat) (w461 : World), l460 = Array.size (World.heap w423) + 1 → w461 = World.alloc (World.alloc w423 (.deferred (some []))) (.loop { Rc459 with state := .ready, pending := none }) →
  (∀ y167_464 y168_465 (W462 : World) (R463 : Ending → World → Prop), V.LoopSt W462 l460 Rc459 .ready none →
  (V.LoopSt W462 l460 Rc459 .ready none ∧
  ∃ A466, ∃ A466l, ∃ A466c, World.cell? (V.setLoop W462 l460 Rc459 .busy none) ⟨s3, 0, none⟩ = some (Value.slice A466 A466l A466c) ∧
  ∀ w467, w467 = (World.alloc (V.setLoop W462 l460 Rc459 .busy none) (.cells #[(Value.int .i64 y167_464), (Value.string y168_465)] 64)) →
  ∃ A468, ∃ A468l, ∃ A468c, ∃ w469, Sem.run Try.prog (Builtin.append_ #[62, 62] 62 #[(Value.slice A466 A466l A466c), (Value.slice (some ⟨Array.size (World.heap (V.setLoop W462 l460 Rc459 .busy none)), 0, none⟩) 1 1)]) w467 = .ok (Value.slice A468 A468l A468c) w469 ∧
  ∃ w470, Sem.run Try.prog (Instr.storeAt 62 (Value.pointer (some ⟨s3, 0, none⟩)) (Value.slice A468 A468l A468c)) w469 = .ok () w470 ∧
  ∃ A471, ∃ A471l, ∃ A471c, World.cell? w470 ⟨s3, 0, none⟩ = some (Value.slice A471 A471l A471c) ∧
  V.ptr (some (⟨K.gb, 0, none⟩ : Addr)) fun a472 =>
  ∃ A473, ∃ A473l, ∃ A473c, World.cell? w470 a472 = some (Value.slice A473 A473l A473c) ∧
  V.sel (decide (((A471l : Nat) : Int) > ((A473l : Nat) : Int)))
  (∃ w474, Sem.run Try.prog (Instr.storeAt 4 (Value.pointer (some ⟨K.br, 0, none⟩)) (Value.bool false)) w470 = .ok () w474 ∧
  V.LoopSt w474 l460 Rc459 .busy none ∧ R463 (Ending.returned (Value.bool false)) (V.setLoop w474 l460 Rc459 .done (some Code.ret)))
  (V.LoopSt w470 l460 Rc459 .busy none ∧ R463 (Ending.returned (Value.bool true)) (V.setLoop w470 l460 Rc459 .ready none))) →
  V.Yield Try.prog l460 [(Value.int .i64 y167_464), (Value.string y168_465)] W462 R463) →
  Calls Try.prog f458 ⟨Array.toList f458a ++ [(Value.func (.yield l460) #[] #[])] ++ Array.toList f458c⟩ w461 fun e475 w477 => (∃ v476, e475 = Ending.returned v476) ∧
  ((V.LoopSt w477 l460 Rc459 .ready none ∧
  ∀ w478, w478 = (World.alloc (V.setLoop w477 l460 Rc459 .exhausted none) (.cells #[(Value.int .i64 0)] 3)) →
  ∃ w479, Sem.run Try.prog (Instr.storeAt 3 (Value.pointer (some ⟨Array.size (World.heap (V.setLoop w477 l460 Rc459 .exhausted none)), 0, none⟩)) (Value.int .i64 0)) w478 = .ok () w479 ∧
  V.ptr (some (⟨K.fb, 0, none⟩ : Addr)) fun a480 =>
  ∃ f481, ∃ f481a, ∃ f481c, World.cell? w479 a480 = some (Value.func (.func f481) f481a f481c) ∧
  V.when (V.hasB Try.prog f481 && true) (∀ (Rc482 : Loop) (l483 : Nat) (w484 : World), l483 = Array.size (World.heap w479) + 1 → w484 = World.alloc (World.alloc w479 (.deferred (some []))) (.loop { Rc482 with state := .ready, pending := none }) →
  (∀ y181_487 y182_488 (W485 : World) (R486 : Ending → World → Prop), V.LoopSt W485 l483 Rc482 .ready none →
  (V.LoopSt W485 l483 Rc482 .ready none ∧
  ∃ n489, World.cell? (V.setLoop W485 l483 Rc482 .busy none) ⟨Array.size (World.heap (V.setLoop w477 l460 Rc459 .exhausted none)), 0, none⟩ = some (Value.int .i64 n489) ∧
  V.ptr (some (⟨K.gb, 0, none⟩ : Addr)) fun a490 =>
  ∃ A491, ∃ A491l, ∃ A491c, World.cell? (V.setLoop W485 l483 Rc482 .busy none) a490 = some (Value.slice A491 A491l A491c) ∧
  V.sel (decide (n489 ≥ ((A491l : Nat) : Int)))
  (∃ w492, Sem.run Try.prog (Instr.storeAt 4 (Value.pointer (some ⟨K.br, 0, none⟩)) (Value.bool false)) (V.setLoop W485 l483 Rc482 .busy none) = .ok () w492 ∧
  V.LoopSt w492 l483 Rc482 .busy none ∧ R486 (Ending.returned (Value.bool false)) (V.setLoop w492 l483 Rc482 .done (some Code.ret)))
  (V.ptr (some (⟨K.gb, 0, none⟩ : Addr)) fun a493 =>
  ∃ A494, ∃ A494l, ∃ A494c, World.cell? (V.setLoop W485 l483 Rc482 .busy none) a493 = some (Value.slice A494 A494l A494c) ∧
  ∃ n495, World.cell? (V.setLoop W485 l483 Rc482 .busy none) ⟨Array.size (World.heap (V.setLoop w477 l460 Rc459 .exhausted none)), 0, none⟩ = some (Value.int .i64 n495) ∧
  V.when (decide ((0 : Int) ≤ n495 ∧ (n495 : Int) < ((A494l : Nat) : Int))) (V.ptr A494 fun a496 =>
  ∃ n497, World.cell? (V.setLoop W485 l483 Rc482 .busy none) (Addr.add (Addr.add a496 ((Int.toNat n495) * 3)) 0) = some (Value.int .i64 n497) ∧
  V.sel (y181_487 != n497)
  (∃ w498, Sem.run Try.prog (Instr.storeAt 4 (Value.pointer (some ⟨K.br, 0, none⟩)) (Value.bool false)) (V.setLoop W485 l483 Rc482 .busy none) = .ok () w498 ∧
  V.LoopSt w498 l483 Rc482 .busy none ∧ R486 (Ending.returned (Value.bool false)) (V.setLoop w498 l483 Rc482 .done (some Code.ret)))
  (V.ptr (some (⟨K.gb, 0, none⟩ : Addr)) fun a499 =>
  ∃ A500, ∃ A500l, ∃ A500c, World.cell? (V.setLoop W485 l483 Rc482 .busy none) a499 = some (Value.slice A500 A500l A500c) ∧
  ∃ n501, World.cell? (V.setLoop W485 l483 Rc482 .busy none) ⟨Array.size (World.heap (V.setLoop w477 l460 Rc459 .exhausted none)), 0, none⟩ = some (Value.int .i64 n501) ∧
  V.when (decide ((0 : Int) ≤ n501 ∧ (n501 : Int) < ((A500l : Nat) : Int))) (V.ptr A500 fun a502 =>
  ∃ s503, World.cell? (V.setLoop W485 l483 Rc482 .busy none) (Addr.add (Addr.add a502 ((Int.toNat n501) * 3)) 1) = some (Value.string s503) ∧
  V.sel (!(ByteArray.toList y182_488 == ByteArray.toList s503))
  (∃ w504, Sem.run Try.prog (Instr.storeAt 4 (Value.pointer (some ⟨K.br, 0, none⟩)) (Value.bool false)) (V.setLoop W485 l483 Rc482 .busy none) = .ok () w504 ∧
  V.LoopSt w504 l483 Rc482 .busy none ∧ R486 (Ending.returned (Value.bool false)) (V.setLoop w504 l483 Rc482 .done (some Code.ret)))
  (∀ w505, w505 = (World.alloc (V.setLoop W485 l483 Rc482 .busy none) (.cells #[(Value.int .i64 0)] 3)) →
  ∃ w506, Sem.run Try.prog (Instr.storeAt 3 (Value.pointer (some ⟨Array.size (World.heap (V.setLoop W485 l483 Rc482 .busy none)), 0, none⟩)) (Value.int .i64 0)) w505 = .ok () w506 ∧
  V.ptr (some (⟨K.fb, 0, none⟩ : Addr)) fun a507 =>
  ∃ f508, ∃ f508a, ∃ f508c, World.cell? w506 a507 = some (Value.func (.func f508) f508a f508c) ∧
  V.when (V.hasB Try.prog f508 && true) ((∃ r0, (World.heap w506)[l483]? = some (.loop r0)) ∧
  ∀ (Rc509 : Loop) (l510 : Nat) (w511 : World), l510 = Array.size (World.heap w506) → w511 = World.alloc w506 (.loop { Rc509 with state := .ready, pending := none }) →
  (∀ y206_514 y207_515 (W512 : World) (R513 : Ending → World → Prop), V.LoopSt W512 l510 Rc509 .ready none →
  (V.LoopSt W512 l510 Rc509 .ready none ∧
  ∃ n516, World.cell? (V.setLoop W512 l510 Rc509 .busy none) ⟨Array.size (World.heap (V.setLoop W485 l483 Rc482 .busy none)), 0, none⟩ = some (Value.int .i64 n516) ∧
  V.ptr (some (⟨K.gb, 0, none⟩ : Addr)) fun a517 =>
  ∃ A518, ∃ A518l, ∃ A518c, World.cell? (V.setLoop W512 l510 Rc509 .busy none) a517 = some (Value.slice A518 A518l A518c) ∧
  V.sel (decide (n516 ≥ ((A518l : Nat) : Int)))
  (∃ w519, Sem.run Try.prog (Instr.storeAt 4 (Value.pointer (some ⟨K.br, 0, none⟩)) (Value.bool false)) (V.setLoop W512 l510 Rc509 .busy none) = .ok () w519 ∧
  V.LoopSt w519 l510 Rc509 .busy none ∧ R513 (Ending.returned (Value.bool false)) (V.setLoop w519 l510 Rc509 .done (some Code.ret)))
  (V.ptr (some (⟨K.gb, 0, none⟩ : Addr)) fun a520 =>
  ∃ A521, ∃ A521l, ∃ A521c, World.cell? (V.setLoop W512 l510 Rc509 .busy none) a520 = some (Value.slice A521 A521l A521c) ∧
  ∃ n522, World.cell? (V.setLoop W512 l510 Rc509 .busy none) ⟨Array.size (World.heap (V.setLoop W485 l483 Rc482 .busy none)), 0, none⟩ = some (Value.int .i64 n522) ∧
  V.when (decide ((0 : Int) ≤ n522 ∧ (n522 : Int) < ((A521l : Nat) : Int))) (V.ptr A521 fun a523 =>
  ∃ n524, World.cell? (V.setLoop W512 l510 Rc509 .busy none) (Addr.add (Addr.add a523 ((Int.toNat n522) * 3)) 0) = some (Value.int .i64 n524) ∧
  V.sel (y206_514 != n524)
  (∃ w525, Sem.run Try.prog (Instr.storeAt 4 (Value.pointer (some ⟨K.br, 0, none⟩)) (Value.bool false)) (V.setLoop W512 l510 Rc509 .busy none) = .ok () w525 ∧
  V.LoopSt w525 l510 Rc509 .busy none ∧ R513 (Ending.returned (Value.bool false)) (V.setLoop w525 l510 Rc509 .done (some Code.ret)))
  (V.ptr (some (⟨K.gb, 0, none⟩ : Addr)) fun a526 =>
  ∃ A527, ∃ A527l, ∃ A527c, World.cell? (V.setLoop W512 l510 Rc509 .busy none) a526 = some (Value.slice A527 A527l A527c) ∧
  ∃ n528, World.cell? (V.setLoop W512 l510 Rc509 .busy none) ⟨Array.size (World.heap (V.setLoop W485 l483 Rc482 .busy none)), 0, none⟩ = some (Value.int .i64 n528) ∧
  V.when (decide ((0 : Int) ≤ n528 ∧ (n528 : Int) < ((A527l : Nat) : Int))) (V.ptr A527 fun a529 =>
  ∃ s530, World.cell? (V.setLoop W512 l510 Rc509 .busy none) (Addr.add (Addr.add a529 ((Int.toNat n528) * 3)) 1) = some (Value.string s530) ∧
  V.sel (!(ByteArray.toList y207_515 == ByteArray.toList s530))
  (∃ w531, Sem.run Try.prog (Instr.storeAt 4 (Value.pointer (some ⟨K.br, 0, none⟩)) (Value.bool false)) (V.setLoop W512 l510 Rc509 .busy none) = .ok () w531 ∧
  V.LoopSt w531 l510 Rc509 .busy none ∧ R513 (Ending.returned (Value.bool false)) (V.setLoop w531 l510 Rc509 .done (some Code.ret)))
  (∃ n532, World.cell? (V.setLoop W512 l510 Rc509 .busy none) ⟨Array.size (World.heap (V.setLoop W485 l483 Rc482 .busy none)), 0, none⟩ = some (Value.int .i64 n532) ∧
  ∃ w533, Sem.run Try.prog (Instr.storeAt 3 (Value.pointer (some ⟨Array.size (World.heap (V.setLoop W485 l483 Rc482 .busy none)), 0, none⟩)) (Value.int .i64 (IntKind.wrap .i64 (n532 + 1)))) (V.setLoop W512 l510 Rc509 .busy none) = .ok () w533 ∧
  ∃ n534, World.cell? w533 ⟨Array.size (World.heap (V.setLoop W485 l483 Rc482 .busy none)), 0, none⟩ = some (Value.int .i64 n534) ∧
  ∃ n535, World.cell? w533 ⟨Array.size (World.heap (V.setLoop w477 l460 Rc459 .exhausted none)), 0, none⟩ = some (Value.int .i64 n535) ∧
  V.sel (decide (n534 > n535))
  (V.LoopSt w533 l510 Rc509 .busy none ∧ R513 (Ending.returned (Value.bool false)) (V.setLoop w533 l510 Rc509 .done (some (Code.exit 14))))
  (V.LoopSt w533 l510 Rc509 .busy none ∧ R513 (Ending.returned (Value.bool true)) (V.setLoop w533 l510 Rc509 .ready none)))))))) →
  V.Yield Try.prog l510 [(Value.int .i64 y206_514), (Value.string y207_515)] W512 R513) →
  Calls Try.prog f508 ⟨Array.toList f508a ++ [(Value.func (.yield l510) #[] #[])] ++ Array.toList f508c⟩ w511 fun e536 w538 => (∃ v537, e536 = Ending.returned v537) ∧
  ((V.LoopSt w538 l510 Rc509 .ready none ∧
  ∃ n539, World.cell? (V.setLoop w538 l510 Rc509 .exhausted none) ⟨Array.size (World.heap (V.setLoop w477 l460 Rc459 .exhausted none)), 0, none⟩ = some (Value.int .i64 n539) ∧
  ∃ w540, Sem.run Try.prog (Instr.storeAt 3 (Value.pointer (some ⟨Array.size (World.heap (V.setLoop w477 l460 Rc459 .exhausted none)), 0, none⟩)) (Value.int .i64 (IntKind.wrap .i64 (n539 + 1)))) (V.setLoop w538 l510 Rc509 .exhausted none) = .ok () w540 ∧
  V.LoopSt w540 l483 Rc482 .busy none ∧ R486 (Ending.returned (Value.bool true)) (V.setLoop w540 l483 Rc482 .ready none)) ∨
  (V.LoopSt w538 l510 Rc509 .done (some Code.ret) ∧
  V.LoopSt (V.setLoop w538 l510 Rc509 .exhausted (some Code.ret)) l483 Rc482 .busy none ∧ R486 (Ending.returned (Value.bool false)) (V.setLoop (V.setLoop w538 l510 Rc509 .exhausted (some Code.ret)) l483 Rc482 .done (some Code.ret))) ∨
  (V.LoopSt w538 l510 Rc509 .done (some (Code.exit 14)) ∧
  ∃ n541, World.cell? (V.setLoop w538 l510 Rc509 .exhausted (some (Code.exit 14))) ⟨Array.size (World.heap (V.setLoop w477 l460 Rc459 .exhausted none)), 0, none⟩ = some (Value.int .i64 n541) ∧
  ∃ w542, Sem.run Try.prog (Instr.storeAt 3 (Value.pointer (some ⟨Array.size (World.heap (V.setLoop w477 l460 Rc459 .exhausted none)), 0, none⟩)) (Value.int .i64 (IntKind.wrap .i64 (n541 + 1)))) (V.setLoop w538 l510 Rc509 .exhausted (some (Code.exit 14))) = .ok () w542 ∧
  V.LoopSt w542 l483 Rc482 .busy none ∧ R486 (Ending.returned (Value.bool true)) (V.setLoop w542 l483 Rc482 .ready none)) ∨
  False)))))))) →
  V.Yield Try.prog l483 [(Value.int .i64 y181_487), (Value.string y182_488)] W485 R486) →
  Calls Try.prog f481 ⟨Array.toList f481a ++ [(Value.func (.yield l483) #[] #[])] ++ Array.toList f481c⟩ w484 fun e543 w545 => (∃ v544, e543 = Ending.returned v544) ∧
  ((V.LoopSt w545 l483 Rc482 .ready none ∧
  ∃ S546 : World → Prop, S546 (World.drew (V.setLoop w545 l483 Rc482 .exhausted none)) ∧
  ∃ n548, (∀ w547, S546 w547 → World.cell? w547 ⟨Array.size (World.heap (V.setLoop w477 l460 Rc459 .exhausted none)), 0, none⟩ = some (Value.int .i64 n548)) ∧
  V.ptr (some (⟨K.gb, 0, none⟩ : Addr)) fun a549 =>
  ∃ A550, ∃ A550l, ∃ A550c, (∀ w547, S546 w547 → World.cell? w547 a549 = some (Value.slice A550 A550l A550c)) ∧
  V.sel (n548 == ((A550l : Nat) : Int))
  (∃ A551, ∃ A551l, ∃ A551c, (∀ w547, S546 w547 → World.cell? w547 ⟨s1, 0, none⟩ = some (Value.slice A551 A551l A551c)) ∧
  V.ptr (some (⟨K.gb, 0, none⟩ : Addr)) fun a552 =>
  ∃ A553, ∃ A553l, ∃ A553c, (∀ w547, S546 w547 → World.cell? w547 a552 = some (Value.slice A553 A553l A553c)) ∧
  V.ptr (some (⟨K.gb, 0, none⟩ : Addr)) fun a554 =>
  ∃ A555, ∃ A555l, ∃ A555c, (∀ w547, S546 w547 → World.cell? w547 a554 = some (Value.slice A555 A555l A555c)) ∧
  Calls Try.prog 24 #[(Value.slice A551 A551l A551c), (Value.slice A553 A553l A553c), (Value.int .i64 ((A555l : Nat) : Int))] (World.drew (V.setLoop w545 l483 Rc482 .exhausted none)) fun e557 w558 =>
  ∃ b556, e557 = Ending.returned (Value.bool b556) ∧
  S546 w558 ∧
  V.sel b556
  (∃ A559, ∃ A559l, ∃ A559c, (∀ w547, S546 w547 → World.cell? w547 ⟨s2, 0, none⟩ = some (Value.slice A559 A559l A559c)) ∧
  V.ptr (some (⟨K.gb, 0, none⟩ : Addr)) fun a560 =>
  ∃ A561, ∃ A561l, ∃ A561c, (∀ w547, S546 w547 → World.cell? w547 a560 = some (Value.slice A561 A561l A561c)) ∧
  ∃ n562, (∀ w547, S546 w547 → World.cell? w547 ⟨K.be, 0, none⟩ = some (Value.int .i64 n562)) ∧
  Calls Try.prog 24 #[(Value.slice A559 A559l A559c), (Value.slice A561 A561l A561c), (Value.int .i64 (if n562 > 1 then n562 else 1))] w558 fun e564 w565 =>
  ∃ b563, e564 = Ending.returned (Value.bool b563) ∧
  S546 w565 ∧
  V.sel b563
  (∃ A566, ∃ A566l, ∃ A566c, (∀ w547, S546 w547 → World.cell? w547 ⟨s3, 0, none⟩ = some (Value.slice A566 A566l A566c)) ∧
  V.ptr (some (⟨K.gb, 0, none⟩ : Addr)) fun a567 =>
  ∃ A568, ∃ A568l, ∃ A568c, (∀ w547, S546 w547 → World.cell? w547 a567 = some (Value.slice A568 A568l A568c)) ∧
  V.ptr (some (⟨K.gb, 0, none⟩ : Addr)) fun a569 =>
  ∃ A570, ∃ A570l, ∃ A570c, (∀ w547, S546 w547 → World.cell? w547 a569 = some (Value.slice A570 A570l A570c)) ∧
  Calls Try.prog 24 #[(Value.slice A566 A566l A566c), (Value.slice A568 A568l A568c), (Value.int .i64 ((A570l : Nat) : Int))] w565 fun e572 w573 =>
  ∃ b571, e572 = Ending.returned (Value.bool b571) ∧
  S546 w573 ∧
  V.sel b571
  (∃ p574, (∀ w547, S546 w547 → World.cell? w547 ⟨K.bw, 0, none⟩ = some (Value.pointer p574)) ∧
  V.ptr p574 fun a575 =>
  ∃ p576, (∀ w547, S546 w547 → World.cell? w547 (Addr.add (Addr.add a575 0) 1) = some (Value.pointer p576)) ∧
  ∃ p577, (∀ w547, S546 w547 → World.cell? w547 ⟨K.bw, 0, none⟩ = some (Value.pointer p577)) ∧
  V.ptr p577 fun a578 =>
  ∃ n579, ∃ A580, ∃ A580l, ∃ A580c, V.cellsC (fun a_ x_ => ∀ w547, S546 w547 → World.cell? w547 a_ = some x_) (Addr.add (Addr.add a578 4) 2) [(Value.int .i64 n579), (Value.slice A580 A580l A580c)] ∧
  Calls Try.prog 21 #[(Value.pointer p576), (Value.agg #[(Value.int .i64 n579), (Value.slice A580 A580l A580c)])] w573 fun e582 w583 =>
  ∃ b581, e582 = Ending.returned (Value.bool b581) ∧
  S546 w583 ∧
  ∃ w584, Sem.run Try.prog (Instr.storeAt 4 (Value.pointer (some ⟨K.br, 0, none⟩)) (Value.bool b581)) w583 = .ok () w584 ∧
  V.closeR (Array.size (World.heap w479) :: (Array.size (World.heap w423) :: (Array.size (World.heap wC) :: (d1 :: [])))) w584 fun w585 =>
  ∃ b586, World.cell? w585 ⟨K.br, 0, none⟩ = some (Value.bool b586) ∧
  R (Ending.returned (Value.bool b586)) w585)
  (∃ w587, Sem.run Try.prog (Instr.storeAt 4 (Value.pointer (some ⟨K.br, 0, none⟩)) (Value.bool false)) w573 = .ok () w587 ∧
  V.closeR (Array.size (World.heap w479) :: (Array.size (World.heap w423) :: (Array.size (World.heap wC) :: (d1 :: [])))) w587 fun w588 =>
  ∃ b589, World.cell? w588 ⟨K.br, 0, none⟩ = some (Value.bool b589) ∧
  R (Ending.returned (Value.bool b589)) w588))
  (∃ w590, Sem.run Try.prog (Instr.storeAt 4 (Value.pointer (some ⟨K.br, 0, none⟩)) (Value.bool false)) w565 = .ok () w590 ∧
  V.closeR (Array.size (World.heap w479) :: (Array.size (World.heap w423) :: (Array.size (World.heap wC) :: (d1 :: [])))) w590 fun w591 =>
  ∃ b592, World.cell? w591 ⟨K.br, 0, none⟩ = some (Value.bool b592) ∧
  R (Ending.returned (Value.bool b592)) w591))
  (∃ w593, Sem.run Try.prog (Instr.storeAt 4 (Value.pointer (some ⟨K.br, 0, none⟩)) (Value.bool false)) w558 = .ok () w593 ∧
  V.closeR (Array.size (World.heap w479) :: (Array.size (World.heap w423) :: (Array.size (World.heap wC) :: (d1 :: [])))) w593 fun w594 =>
  ∃ b595, World.cell? w594 ⟨K.br, 0, none⟩ = some (Value.bool b595) ∧
  R (Ending.returned (Value.bool b595)) w594))
  (∃ w596, Sem.run Try.prog (Instr.storeAt 4 (Value.pointer (some ⟨K.br, 0, none⟩)) (Value.bool false)) (World.drew (V.setLoop w545 l483 Rc482 .exhausted none)) = .ok () w596 ∧
  V.closeR (Array.size (World.heap w479) :: (Array.size (World.heap w423) :: (Array.size (World.heap wC) :: (d1 :: [])))) w596 fun w597 =>
  ∃ b598, World.cell? w597 ⟨K.br, 0, none⟩ = some (Value.bool b598) ∧
  R (Ending.returned (Value.bool b598)) w597)) ∨
  (V.LoopSt w545 l483 Rc482 .done (some Code.ret) ∧
  V.closeR (Array.size (World.heap w479) :: (Array.size (World.heap w423) :: (Array.size (World.heap wC) :: (d1 :: [])))) (V.setLoop w545 l483 Rc482 .exhausted (some Code.ret)) fun w599 =>
  ∃ b600, World.cell? w599 ⟨K.br, 0, none⟩ = some (Value.bool b600) ∧
  R (Ending.returned (Value.bool b600)) w599) ∨
  False))) ∨
  (V.LoopSt w477 l460 Rc459 .done (some Code.ret) ∧
  V.closeR (Array.size (World.heap w423) :: (Array.size (World.heap wC) :: (d1 :: []))) (V.setLoop w477 l460 Rc459 .exhausted (some Code.ret)) fun w601 =>
  ∃ b602, World.cell? w601 ⟨K.br, 0, none⟩ = some (Value.bool b602) ∧
  R (Ending.returned (Value.bool b602)) w601) ∨
  False))))) ∨
  False)) := by
  have hwl := hw.wlen
  have hwe := hw.wle
  have hpl := wlen_prs hw
  have hz := h.t.z
  have hmp := m2_pos K
  obtain ⟨y1, y2, y3, c2', c3', t2', t3', n12, n13, n23⟩ := lz.z
  have s2lt := (hz _ (hZ1 _ y2).1).2
  have sx : ∀ w', Ext [s2] wC w' → Sx K w' := fun w' e => h.s.ext e fun b hb hm => c2' (List.mem_singleton.1 hm ▸ hb)
  refine ptr_in ⟨_, #[], _, h.s.f.cell (i := 0) rfl, V.when_intro (by kernel_rfl) fun Rc l w278 hl h278 hy => ?_⟩
  obtain ⟨l0, m0, x278, z278⟩ := enter_new hl h278
  have s278 := x278.size
  refine (All_iter (A := K.CA) (b := K.cb) (c := K.cc) (xs := K.rows) rfl hw.rle).range (I := fun ps w' => Ext [s2] wC w' ∧ w278.heap.size ≤ w'.heap.size ∧ Mrk w' wC.heap.size ∧ (ps.length : Int) < m2 K ∧ ∃ A n c, BlkT w' s2 [.slice A n c] 62 ∧ OwnL PL w' wC.heap.size 64 A n c ps ∧ ∀ g ∈ ownF A, w278.heap.size ≤ g)
    (Q := fun p w' => p = .exit 6 ∧ Ext [s2] wC w' ∧ w278.heap.size ≤ w'.heap.size ∧ Mrk w' wC.heap.size ∧ ∃ A n c, BlkT w' s2 [.slice A n c] 62 ∧ OwnL PL w' wC.heap.size 64 A n c ((prs K.rows).take (m2 K).toNat) ∧ ∀ g ∈ ownF A, w278.heap.size ≤ g)
    (fun y W R' h1 h2 => hy y.slot y.name W R' h1 ⟨h1, h2⟩) l0 ⟨Ext.up x278, Nat.le_refl _, m0, by simp; omega, none, 0, 0, lz.p2.ext0 x278, OwnL.nil _ _ _, by simp [ownF]⟩ ?_ ?_ (fun ps w1 q => ⟨(sx w1 q.1).c, (sx w1 q.1).cr⟩) ?_ ?_ ?_
  · rintro ps w1 w2 e ⟨q1, q2, q3, q7, A, n, c, q4, q5, q6⟩
    exact ⟨q1.trans' e (fun b hb => .inr (by rw [List.mem_singleton.1 hb]; omega)), Nat.le_trans q2 e.size, q3.ext e (by simp; omega), q7, A, n, c, q4.ext e (by simp; omega), q5.ext e (fun g hg => by have := q6 g hg; simp; omega), q6⟩
  · rintro p w1 w2 e ⟨q0, q1, q2, q3, A, n, c, q4, q5, q6⟩
    exact ⟨q0, q1.trans' e (fun b hb => .inr (by rw [List.mem_singleton.1 hb]; omega)), Nat.le_trans q2 e.size, q3.ext e (by simp; omega), A, n, c, q4.ext e (by simp; omega), q5.ext e (fun g hg => by have := q6 g hg; simp; omega), q6⟩
  · rintro ps y rest W R' hsp hW hS ⟨q1, q2, q3, q7, A, n, c, q4, q5, q6⟩ k1 k2
    obtain ⟨hlt, -⟩ := want_at hw hsp
    generalize hWb : setLoop W l Rc .busy none = Wb at *
    refine ⟨A, n, c, q4.cell (i := 0) rfl, fun w284 h284 => ?_⟩
    obtain ⟨b19, x19, z19⟩ := box_new (cs := PL.enc y) h284
    have hnl := q5.len
    obtain ⟨A2, c2, w21, hr, own2, xx, hat⟩ := (q5.ext0 x19).more (P := Try.prog) (t := 62) (ty := 62) (x := y) u62 i64 rfl (by omega) b19 (by have := q1.size; omega) (by omega)
    have s19 := x19.size
    have s21 := xx.size
    have b21 := (q4.ext0 x19).ext xx (fun hm => by have := q6 _ hm; omega)
    obtain ⟨w22, hr22, b22, x22⟩ := store1 (P := Try.prog) (v := .slice A2 (n + 1) c2) i62s b21 (i := 0) (by simp) rfl rfl
    have s22 := x22.size
    have hA2 : ∀ g ∈ ownF A2, w278.heap.size ≤ g := fun g hg' => by
      rcases hat with h1 | h1
      · rw [h1] at hg'; exact q6 g hg'
      · rw [h1] at hg'; simp at hg'; omega
    have hl' : ∀ (b : Nat), b < w278.heap.size → b ∉ ownF A := fun b h2 hm => by have := q6 b hm; omega
    have hll : l < w278.heap.size := LoopSt.lt l0
    have hS2 := ((LoopSt.ext hS x19 (by simp)).ext xx (hl' _ hll)).ext x22 (by simp; omega)
    have f1 : Ext [s2] wC w22 := ((q1.trans (Ext.up x19)).trans' xx (fun b hb => .inr (by have := q6 b hb; omega))).trans' x22 (fun b hb => .inl hb)
    have f3 : Mrk w22 wC.heap.size := ((q3.ext x19 (by simp)).ext xx (hl' _ (by omega))).ext x22 (by simp; omega)
    have f7 := own2.ext x22 (fun g hg' => by have := hA2 g hg'; simp; omega)
    refine ⟨A2, n + 1, c2, w21, hr, w22, hr22, _, _, _, b22.cell (i := 0) rfl, _, (sx w22 f1).e.cell (i := 0) rfl, sel_dec (fun hge => ⟨hS2, k2 w22 (.exit 6) hS2 ⟨rfl, f1, by omega, f3, A2, n + 1, c2, b22, ?_, hA2⟩⟩) fun hnl' => ⟨_, _, _, b22.cell (i := 0) rfl, ptr_in ⟨_, _, _, (sx w22 f1).g.cell (i := 0) rfl, sel_dec (fun hgt => by omega) fun _ => ⟨hS2, k1 w22 hS2 ⟨f1, by omega, f3, ?_, A2, n + 1, c2, b22, f7, hA2⟩⟩⟩⟩⟩
    · have e1 : (prs K.rows).take (m2 K).toNat = ps ++ [y] := by
        have hm : (m2 K).toNat = (ps ++ [y]).length := by
          have h5 : m2 K = if K.early > 1 then K.early else 1 := rfl
          rw [List.length_append, List.length_singleton]
          split at h5 <;> omega
        rw [hsp, hm, show ps ++ y :: rest = (ps ++ [y]) ++ rest by simp]
        exact List.take_left
      rw [e1]; exact f7
    · have h5 : m2 K = if K.early > 1 then K.early else 1 := rfl
      rw [List.length_append, List.length_singleton]
      split at h5 <;> omega
  · rintro w236 hl236 ⟨q1, q2, q3, q7, A, n, c, q4, q5, q6⟩
    have x := setLoop_ext w236 l Rc .exhausted none
    have f := q1.trans' x (fun b hb => .inr (by rw [List.mem_singleton.1 hb]; omega))
    have own := q5.ext x (fun g hg => by have := q6 g hg; simp; omega)
    rw [show prs K.rows = (prs K.rows).take (m2 K).toNat from (List.take_of_length_le (by omega)).symm] at own
    obtain ⟨r1, r2, r3⟩ := to3 hw h lz hZ1 f (q3.ext x (by simp; omega)) (q4.ext x (by simp; omega)) own
    exact .inl ⟨hl236, loop3_c hw r1 r2 r3 k⟩
  · rintro w236 p hl236 ⟨rfl, q1, q2, q3, A, n, c, q4, q5, q6⟩
    have x := setLoop_ext w236 l Rc .exhausted (some (.exit 6))
    have f := q1.trans' x (fun b hb => .inr (by rw [List.mem_singleton.1 hb]; omega))
    have own := q5.ext x (fun g hg => by have := q6 g hg; simp; omega)
    obtain ⟨r1, r2, r3⟩ := to3 hw h lz hZ1 f (q3.ext x (by simp; omega)) (q4.ext x (by simp; omega)) own
    exact .inr (.inl ⟨hl236, loop3_c hw r1 r2 r3 k⟩)
end
end Go.Proofs.Ytcampkaenlohbaa
