/- SlotsWalk: the third walk, and the steps ahead of it. -/
import Derived.Test.YtcampkaenlohbaaW3
set_option linter.unusedVariables false
set_option linter.unusedSimpArgs false
namespace Go.Proofs.Ytcampkaenlohbaa
open Go Go.V Go.B

/-- What stands ahead of the third walk. -/
structure Ly (w0 : World) (K : Wc) (w : World) (Z : List Nat) (s1 s2 s3 d1 d2 : Nat) : Prop where
  p1 : ∃ A n c, BlkT w s1 [.slice A n c] 62 ∧ Cells w A (PL.flat (prs K.rows)) ∧ (prs K.rows).length = n ∧ ∀ g ∈ ownF A, g ∈ Z ∧ g ≠ s3
  p2 : ∃ A n c, BlkT w s2 [.slice A n c] 62 ∧ Cells w A (PL.flat ((prs K.rows).take (m2 K).toNat)) ∧ ((prs K.rows).take (m2 K).toNat).length = n ∧ ∀ g ∈ ownF A, g ∈ Z ∧ g ≠ s3
  p3 : BlkT w s3 [.slice none 0 0] 62
  z : s1 ∈ Z ∧ s2 ∈ Z ∧ s3 ∈ Z ∧ s3 ∉ Zc K ∧ s3 ≠ K.ct ∧ s1 ≠ s3 ∧ s2 ≠ s3
  m : ∀ d ∈ [d2, d1], Mrk w d ∧ d ∈ Z ∧ d ∉ Zc K ∧ w0.heap.size ≤ d ∧ d ≠ s3
  nd : [d2, d1].Nodup
theorem Ly.fix {w0 w w' : World} {K : Wc} {Z : List Nat} {s1 s2 s3 d1 d2 N : Nat} (h : Ly w0 K w Z s1 s2 s3 d1 d2) (e : Fix N Z w w') : Ly w0 K w' Z s1 s2 s3 d1 d2 := by
  obtain ⟨A1, n1, c1, b1, o1, l1, z1⟩ := h.p1
  obtain ⟨A2, n2, c2, b2, o2, l2, z2⟩ := h.p2
  exact ⟨⟨A1, n1, c1, e.blk b1 h.z.1, e.cells o1 (fun g hg => (z1 g hg).1), l1, z1⟩, ⟨A2, n2, c2, e.blk b2 h.z.2.1, e.cells o2 (fun g hg => (z2 g hg).1), l2, z2⟩, e.blk h.p3 h.z.2.2.1, h.z, fun d hd => ⟨e.mrk (h.m d hd).1 (h.m d hd).2.1, (h.m d hd).2⟩, h.nd⟩
section
variable {w0 : World} {K : Wc}
set_option maxRecDepth 8000 in
theorem loop4_c {wB : World} {Z Z1 : List Nat} {a s1 s2 s3 d1 d2 : Nat} (hw : Wf w0 K) (h : Wv w0 K wB Z a) (ly : Ly w0 K wB Z1 s1 s2 s3 d1 d2) (hZ1 : ∀ b ∈ Z1, b ∈ Z)
    {R : Ending → World → Prop} (k : ∀ w', Ext [] w0 w' → R (.returned (.bool true)) w') :
    V.ptr (some (⟨K.fb, 0, none⟩ : Addr)) fun a274 =>
  ∃ f275, ∃ f275a, ∃ f275c, World.cell? wB a274 = some (Value.func (.func f275) f275a f275c) ∧
  V.when (V.hasB Try.prog f275 && true) (∀ (Rc276 : Loop) (l277 : Nat) (w278 : World), l277 = Array.size (World.heap wB) + 1 → w278 = World.alloc (World.alloc wB (.deferred (some []))) (.loop { Rc276 with state := .ready, pending := none }) →
  (∀ y167_281 y168_282 (W279 : World) (R280 : Ending → World → Prop), V.LoopSt W279 l277 Rc276 .ready none →
  (V.LoopSt W279 l277 Rc276 .ready none ∧
  ∃ A283, ∃ A283l, ∃ A283c, World.cell? (V.setLoop W279 l277 Rc276 .busy none) ⟨s3, 0, none⟩ = some (Value.slice A283 A283l A283c) ∧
  ∀ w284, w284 = (World.alloc (V.setLoop W279 l277 Rc276 .busy none) (.cells #[(Value.int .i64 y167_281), (Value.string y168_282)] 64)) →
  ∃ A285, ∃ A285l, ∃ A285c, ∃ w286, Sem.run Try.prog (Builtin.append_ #[62, 62] 62 #[(Value.slice A283 A283l A283c), (Value.slice (some ⟨Array.size (World.heap (V.setLoop W279 l277 Rc276 .busy none)), 0, none⟩) 1 1)]) w284 = .ok (Value.slice A285 A285l A285c) w286 ∧
  ∃ w287, Sem.run Try.prog (Instr.storeAt 62 (Value.pointer (some ⟨s3, 0, none⟩)) (Value.slice A285 A285l A285c)) w286 = .ok () w287 ∧
  ∃ A288, ∃ A288l, ∃ A288c, World.cell? w287 ⟨s3, 0, none⟩ = some (Value.slice A288 A288l A288c) ∧
  V.ptr (some (⟨K.gb, 0, none⟩ : Addr)) fun a289 =>
  ∃ A290, ∃ A290l, ∃ A290c, World.cell? w287 a289 = some (Value.slice A290 A290l A290c) ∧
  V.sel (decide (((A288l : Nat) : Int) > ((A290l : Nat) : Int)))
  (∃ w291, Sem.run Try.prog (Instr.storeAt 4 (Value.pointer (some ⟨K.br, 0, none⟩)) (Value.bool false)) w287 = .ok () w291 ∧
  V.LoopSt w291 l277 Rc276 .busy none ∧ R280 (Ending.returned (Value.bool false)) (V.setLoop w291 l277 Rc276 .done (some Code.ret)))
  (V.LoopSt w287 l277 Rc276 .busy none ∧ R280 (Ending.returned (Value.bool true)) (V.setLoop w287 l277 Rc276 .ready none))) →
  V.Yield Try.prog l277 [(Value.int .i64 y167_281), (Value.string y168_282)] W279 R280) →
  Calls Try.prog f275 ⟨Array.toList f275a ++ [(Value.func (.yield l277) #[] #[])] ++ Array.toList f275c⟩ w278 fun e292 w294 => (∃ v293, e292 = Ending.returned v293) ∧
  ((V.LoopSt w294 l277 Rc276 .ready none ∧
  ∀ w295, w295 = (World.alloc (V.setLoop w294 l277 Rc276 .exhausted none) (.cells #[(Value.int .i64 0)] 3)) →
  ∃ w296, Sem.run Try.prog (Instr.storeAt 3 (Value.pointer (some ⟨Array.size (World.heap (V.setLoop w294 l277 Rc276 .exhausted none)), 0, none⟩)) (Value.int .i64 0)) w295 = .ok () w296 ∧
  V.ptr (some (⟨K.fb, 0, none⟩ : Addr)) fun a297 =>
  ∃ f298, ∃ f298a, ∃ f298c, World.cell? w296 a297 = some (Value.func (.func f298) f298a f298c) ∧
  V.when (V.hasB Try.prog f298 && true) (∀ (Rc299 : Loop) (l300 : Nat) (w301 : World), l300 = Array.size (World.heap w296) + 1 → w301 = World.alloc (World.alloc w296 (.deferred (some []))) (.loop { Rc299 with state := .ready, pending := none }) →
  (∀ y181_304 y182_305 (W302 : World) (R303 : Ending → World → Prop), V.LoopSt W302 l300 Rc299 .ready none →
  (V.LoopSt W302 l300 Rc299 .ready none ∧
  ∃ n306, World.cell? (V.setLoop W302 l300 Rc299 .busy none) ⟨Array.size (World.heap (V.setLoop w294 l277 Rc276 .exhausted none)), 0, none⟩ = some (Value.int .i64 n306) ∧
  V.ptr (some (⟨K.gb, 0, none⟩ : Addr)) fun a307 =>
  ∃ A308, ∃ A308l, ∃ A308c, World.cell? (V.setLoop W302 l300 Rc299 .busy none) a307 = some (Value.slice A308 A308l A308c) ∧
  V.sel (decide (n306 ≥ ((A308l : Nat) : Int)))
  (∃ w309, Sem.run Try.prog (Instr.storeAt 4 (Value.pointer (some ⟨K.br, 0, none⟩)) (Value.bool false)) (V.setLoop W302 l300 Rc299 .busy none) = .ok () w309 ∧
  V.LoopSt w309 l300 Rc299 .busy none ∧ R303 (Ending.returned (Value.bool false)) (V.setLoop w309 l300 Rc299 .done (some Code.ret)))
  (V.ptr (some (⟨K.gb, 0, none⟩ : Addr)) fun a310 =>
  ∃ A311, ∃ A311l, ∃ A311c, World.cell? (V.setLoop W302 l300 Rc299 .busy none) a310 = some (Value.slice A311 A311l A311c) ∧
  ∃ n312, World.cell? (V.setLoop W302 l300 Rc299 .busy none) ⟨Array.size (World.heap (V.setLoop w294 l277 Rc276 .exhausted none)), 0, none⟩ = some (Value.int .i64 n312) ∧
  V.when (decide ((0 : Int) ≤ n312 ∧ (n312 : Int) < ((A311l : Nat) : Int))) (V.ptr A311 fun a313 =>
  ∃ n314, World.cell? (V.setLoop W302 l300 Rc299 .busy none) (Addr.add (Addr.add a313 ((Int.toNat n312) * 3)) 0) = some (Value.int .i64 n314) ∧
  V.sel (y181_304 != n314)
  (∃ w315, Sem.run Try.prog (Instr.storeAt 4 (Value.pointer (some ⟨K.br, 0, none⟩)) (Value.bool false)) (V.setLoop W302 l300 Rc299 .busy none) = .ok () w315 ∧
  V.LoopSt w315 l300 Rc299 .busy none ∧ R303 (Ending.returned (Value.bool false)) (V.setLoop w315 l300 Rc299 .done (some Code.ret)))
  (V.ptr (some (⟨K.gb, 0, none⟩ : Addr)) fun a316 =>
  ∃ A317, ∃ A317l, ∃ A317c, World.cell? (V.setLoop W302 l300 Rc299 .busy none) a316 = some (Value.slice A317 A317l A317c) ∧
  ∃ n318, World.cell? (V.setLoop W302 l300 Rc299 .busy none) ⟨Array.size (World.heap (V.setLoop w294 l277 Rc276 .exhausted none)), 0, none⟩ = some (Value.int .i64 n318) ∧
  V.when (decide ((0 : Int) ≤ n318 ∧ (n318 : Int) < ((A317l : Nat) : Int))) (V.ptr A317 fun a319 =>
  ∃ s320, World.cell? (V.setLoop W302 l300 Rc299 .busy none) (Addr.add (Addr.add a319 ((Int.toNat n318) * 3)) 1) = some (Value.string s320) ∧
  V.sel (!(ByteArray.toList y182_305 == ByteArray.toList s320))
  (∃ w321, Sem.run Try.prog (Instr.storeAt 4 (Value.pointer (some ⟨K.br, 0, none⟩)) (Value.bool false)) (V.setLoop W302 l300 Rc299 .busy none) = .ok () w321 ∧
  V.LoopSt w321 l300 Rc299 .busy none ∧ R303 (Ending.returned (Value.bool false)) (V.setLoop w321 l300 Rc299 .done (some Code.ret)))
  (∀ w322, w322 = (World.alloc (V.setLoop W302 l300 Rc299 .busy none) (.cells #[(Value.int .i64 0)] 3)) →
  ∃ w323, Sem.run Try.prog (Instr.storeAt 3 (Value.pointer (some ⟨Array.size (World.heap (V.setLoop W302 l300 Rc299 .busy none)), 0, none⟩)) (Value.int .i64 0)) w322 = .ok () w323 ∧
  V.ptr (some (⟨K.fb, 0, none⟩ : Addr)) fun a324 =>
  ∃ f325, ∃ f325a, ∃ f325c, World.cell? w323 a324 = some (Value.func (.func f325) f325a f325c) ∧
  V.when (V.hasB Try.prog f325 && true) ((∃ r0, (World.heap w323)[l300]? = some (.loop r0)) ∧
  ∀ (Rc326 : Loop) (l327 : Nat) (w328 : World), l327 = Array.size (World.heap w323) → w328 = World.alloc w323 (.loop { Rc326 with state := .ready, pending := none }) →
  (∀ y206_331 y207_332 (W329 : World) (R330 : Ending → World → Prop), V.LoopSt W329 l327 Rc326 .ready none →
  (V.LoopSt W329 l327 Rc326 .ready none ∧
  ∃ n333, World.cell? (V.setLoop W329 l327 Rc326 .busy none) ⟨Array.size (World.heap (V.setLoop W302 l300 Rc299 .busy none)), 0, none⟩ = some (Value.int .i64 n333) ∧
  V.ptr (some (⟨K.gb, 0, none⟩ : Addr)) fun a334 =>
  ∃ A335, ∃ A335l, ∃ A335c, World.cell? (V.setLoop W329 l327 Rc326 .busy none) a334 = some (Value.slice A335 A335l A335c) ∧
  V.sel (decide (n333 ≥ ((A335l : Nat) : Int)))
  (∃ w336, Sem.run Try.prog (Instr.storeAt 4 (Value.pointer (some ⟨K.br, 0, none⟩)) (Value.bool false)) (V.setLoop W329 l327 Rc326 .busy none) = .ok () w336 ∧
  V.LoopSt w336 l327 Rc326 .busy none ∧ R330 (Ending.returned (Value.bool false)) (V.setLoop w336 l327 Rc326 .done (some Code.ret)))
  (V.ptr (some (⟨K.gb, 0, none⟩ : Addr)) fun a337 =>
  ∃ A338, ∃ A338l, ∃ A338c, World.cell? (V.setLoop W329 l327 Rc326 .busy none) a337 = some (Value.slice A338 A338l A338c) ∧
  ∃ n339, World.cell? (V.setLoop W329 l327 Rc326 .busy none) ⟨Array.size (World.heap (V.setLoop W302 l300 Rc299 .busy none)), 0, none⟩ = some (Value.int .i64 n339) ∧
  V.when (decide ((0 : Int) ≤ n339 ∧ (n339 : Int) < ((A338l : Nat) : Int))) (V.ptr A338 fun a340 =>
  ∃ n341, World.cell? (V.setLoop W329 l327 Rc326 .busy none) (Addr.add (Addr.add a340 ((Int.toNat n339) * 3)) 0) = some (Value.int .i64 n341) ∧
  V.sel (y206_331 != n341)
  (∃ w342, Sem.run Try.prog (Instr.storeAt 4 (Value.pointer (some ⟨K.br, 0, none⟩)) (Value.bool false)) (V.setLoop W329 l327 Rc326 .busy none) = .ok () w342 ∧
  V.LoopSt w342 l327 Rc326 .busy none ∧ R330 (Ending.returned (Value.bool false)) (V.setLoop w342 l327 Rc326 .done (some Code.ret)))
  (V.ptr (some (⟨K.gb, 0, none⟩ : Addr)) fun a343 =>
  ∃ A344, ∃ A344l, ∃ A344c, World.cell? (V.setLoop W329 l327 Rc326 .busy none) a343 = some (Value.slice A344 A344l A344c) ∧
  ∃ n345, World.cell? (V.setLoop W329 l327 Rc326 .busy none) ⟨Array.size (World.heap (V.setLoop W302 l300 Rc299 .busy none)), 0, none⟩ = some (Value.int .i64 n345) ∧
  V.when (decide ((0 : Int) ≤ n345 ∧ (n345 : Int) < ((A344l : Nat) : Int))) (V.ptr A344 fun a346 =>
  ∃ s347, World.cell? (V.setLoop W329 l327 Rc326 .busy none) (Addr.add (Addr.add a346 ((Int.toNat n345) * 3)) 1) = some (Value.string s347) ∧
  V.sel (!(ByteArray.toList y207_332 == ByteArray.toList s347))
  (∃ w348, Sem.run Try.prog (Instr.storeAt 4 (Value.pointer (some ⟨K.br, 0, none⟩)) (Value.bool false)) (V.setLoop W329 l327 Rc326 .busy none) = .ok () w348 ∧
  V.LoopSt w348 l327 Rc326 .busy none ∧ R330 (Ending.returned (Value.bool false)) (V.setLoop w348 l327 Rc326 .done (some Code.ret)))
  (∃ n349, World.cell? (V.setLoop W329 l327 Rc326 .busy none) ⟨Array.size (World.heap (V.setLoop W302 l300 Rc299 .busy none)), 0, none⟩ = some (Value.int .i64 n349) ∧
  ∃ w350, Sem.run Try.prog (Instr.storeAt 3 (Value.pointer (some ⟨Array.size (World.heap (V.setLoop W302 l300 Rc299 .busy none)), 0, none⟩)) (Value.int .i64 (IntKind.wrap .i64 (n349 + 1)))) (V.setLoop W329 l327 Rc326 .busy none) = .ok () w350 ∧
  ∃ n351, World.cell? w350 ⟨Array.size (World.heap (V.setLoop W302 l300 Rc299 .busy none)), 0, none⟩ = some (Value.int .i64 n351) ∧
  ∃ n352, World.cell? w350 ⟨Array.size (World.heap (V.setLoop w294 l277 Rc276 .exhausted none)), 0, none⟩ = some (Value.int .i64 n352) ∧
  V.sel (decide (n351 > n352))
  (V.LoopSt w350 l327 Rc326 .busy none ∧ R330 (Ending.returned (Value.bool false)) (V.setLoop w350 l327 Rc326 .done (some (Code.exit 14))))
  (V.LoopSt w350 l327 Rc326 .busy none ∧ R330 (Ending.returned (Value.bool true)) (V.setLoop w350 l327 Rc326 .ready none)))))))) →
  V.Yield Try.prog l327 [(Value.int .i64 y206_331), (Value.string y207_332)] W329 R330) →
  Calls Try.prog f325 ⟨Array.toList f325a ++ [(Value.func (.yield l327) #[] #[])] ++ Array.toList f325c⟩ w328 fun e353 w355 => (∃ v354, e353 = Ending.returned v354) ∧
  ((V.LoopSt w355 l327 Rc326 .ready none ∧
  ∃ n356, World.cell? (V.setLoop w355 l327 Rc326 .exhausted none) ⟨Array.size (World.heap (V.setLoop w294 l277 Rc276 .exhausted none)), 0, none⟩ = some (Value.int .i64 n356) ∧
  ∃ w357, Sem.run Try.prog (Instr.storeAt 3 (Value.pointer (some ⟨Array.size (World.heap (V.setLoop w294 l277 Rc276 .exhausted none)), 0, none⟩)) (Value.int .i64 (IntKind.wrap .i64 (n356 + 1)))) (V.setLoop w355 l327 Rc326 .exhausted none) = .ok () w357 ∧
  V.LoopSt w357 l300 Rc299 .busy none ∧ R303 (Ending.returned (Value.bool true)) (V.setLoop w357 l300 Rc299 .ready none)) ∨
  (V.LoopSt w355 l327 Rc326 .done (some Code.ret) ∧
  V.LoopSt (V.setLoop w355 l327 Rc326 .exhausted (some Code.ret)) l300 Rc299 .busy none ∧ R303 (Ending.returned (Value.bool false)) (V.setLoop (V.setLoop w355 l327 Rc326 .exhausted (some Code.ret)) l300 Rc299 .done (some Code.ret))) ∨
  (V.LoopSt w355 l327 Rc326 .done (some (Code.exit 14)) ∧
  ∃ n358, World.cell? (V.setLoop w355 l327 Rc326 .exhausted (some (Code.exit 14))) ⟨Array.size (World.heap (V.setLoop w294 l277 Rc276 .exhausted none)), 0, none⟩ = some (Value.int .i64 n358) ∧
  ∃ w359, Sem.run Try.prog (Instr.storeAt 3 (Value.pointer (some ⟨Array.size (World.heap (V.setLoop w294 l277 Rc276 .exhausted none)), 0, none⟩)) (Value.int .i64 (IntKind.wrap .i64 (n358 + 1)))) (V.setLoop w355 l327 Rc326 .exhausted (some (Code.exit 14))) = .ok () w359 ∧
  V.LoopSt w359 l300 Rc299 .busy none ∧ R303 (Ending.returned (Value.bool true)) (V.setLoop w359 l300 Rc299 .ready none)) ∨
  False)))))))) →
  V.Yield Try.prog l300 [(Value.int .i64 y181_304), (Value.string y182_305)] W302 R303) →
  Calls Try.prog f298 ⟨Array.toList f298a ++ [(Value.func (.yield l300) #[] #[])] ++ Array.toList f298c⟩ w301 fun e360 w362 => (∃ v361, e360 = Ending.returned v361) ∧
  ((V.LoopSt w362 l300 Rc299 .ready none ∧
  ∃ S363 : World → Prop, S363 (World.drew (V.setLoop w362 l300 Rc299 .exhausted none)) ∧
  ∃ n365, (∀ w364, S363 w364 → World.cell? w364 ⟨Array.size (World.heap (V.setLoop w294 l277 Rc276 .exhausted none)), 0, none⟩ = some (Value.int .i64 n365)) ∧
  V.ptr (some (⟨K.gb, 0, none⟩ : Addr)) fun a366 =>
  ∃ A367, ∃ A367l, ∃ A367c, (∀ w364, S363 w364 → World.cell? w364 a366 = some (Value.slice A367 A367l A367c)) ∧
  V.sel (n365 == ((A367l : Nat) : Int))
  (∃ A368, ∃ A368l, ∃ A368c, (∀ w364, S363 w364 → World.cell? w364 ⟨s1, 0, none⟩ = some (Value.slice A368 A368l A368c)) ∧
  V.ptr (some (⟨K.gb, 0, none⟩ : Addr)) fun a369 =>
  ∃ A370, ∃ A370l, ∃ A370c, (∀ w364, S363 w364 → World.cell? w364 a369 = some (Value.slice A370 A370l A370c)) ∧
  V.ptr (some (⟨K.gb, 0, none⟩ : Addr)) fun a371 =>
  ∃ A372, ∃ A372l, ∃ A372c, (∀ w364, S363 w364 → World.cell? w364 a371 = some (Value.slice A372 A372l A372c)) ∧
  Calls Try.prog 24 #[(Value.slice A368 A368l A368c), (Value.slice A370 A370l A370c), (Value.int .i64 ((A372l : Nat) : Int))] (World.drew (V.setLoop w362 l300 Rc299 .exhausted none)) fun e374 w375 =>
  ∃ b373, e374 = Ending.returned (Value.bool b373) ∧
  S363 w375 ∧
  V.sel b373
  (∃ A376, ∃ A376l, ∃ A376c, (∀ w364, S363 w364 → World.cell? w364 ⟨s2, 0, none⟩ = some (Value.slice A376 A376l A376c)) ∧
  V.ptr (some (⟨K.gb, 0, none⟩ : Addr)) fun a377 =>
  ∃ A378, ∃ A378l, ∃ A378c, (∀ w364, S363 w364 → World.cell? w364 a377 = some (Value.slice A378 A378l A378c)) ∧
  ∃ n379, (∀ w364, S363 w364 → World.cell? w364 ⟨K.be, 0, none⟩ = some (Value.int .i64 n379)) ∧
  Calls Try.prog 24 #[(Value.slice A376 A376l A376c), (Value.slice A378 A378l A378c), (Value.int .i64 (if n379 > 1 then n379 else 1))] w375 fun e381 w382 =>
  ∃ b380, e381 = Ending.returned (Value.bool b380) ∧
  S363 w382 ∧
  V.sel b380
  (∃ A383, ∃ A383l, ∃ A383c, (∀ w364, S363 w364 → World.cell? w364 ⟨s3, 0, none⟩ = some (Value.slice A383 A383l A383c)) ∧
  V.ptr (some (⟨K.gb, 0, none⟩ : Addr)) fun a384 =>
  ∃ A385, ∃ A385l, ∃ A385c, (∀ w364, S363 w364 → World.cell? w364 a384 = some (Value.slice A385 A385l A385c)) ∧
  V.ptr (some (⟨K.gb, 0, none⟩ : Addr)) fun a386 =>
  ∃ A387, ∃ A387l, ∃ A387c, (∀ w364, S363 w364 → World.cell? w364 a386 = some (Value.slice A387 A387l A387c)) ∧
  Calls Try.prog 24 #[(Value.slice A383 A383l A383c), (Value.slice A385 A385l A385c), (Value.int .i64 ((A387l : Nat) : Int))] w382 fun e389 w390 =>
  ∃ b388, e389 = Ending.returned (Value.bool b388) ∧
  S363 w390 ∧
  V.sel b388
  (∃ p391, (∀ w364, S363 w364 → World.cell? w364 ⟨K.bw, 0, none⟩ = some (Value.pointer p391)) ∧
  V.ptr p391 fun a392 =>
  ∃ p393, (∀ w364, S363 w364 → World.cell? w364 (Addr.add (Addr.add a392 0) 1) = some (Value.pointer p393)) ∧
  ∃ p394, (∀ w364, S363 w364 → World.cell? w364 ⟨K.bw, 0, none⟩ = some (Value.pointer p394)) ∧
  V.ptr p394 fun a395 =>
  ∃ n396, ∃ A397, ∃ A397l, ∃ A397c, V.cellsC (fun a_ x_ => ∀ w364, S363 w364 → World.cell? w364 a_ = some x_) (Addr.add (Addr.add a395 4) 2) [(Value.int .i64 n396), (Value.slice A397 A397l A397c)] ∧
  Calls Try.prog 21 #[(Value.pointer p393), (Value.agg #[(Value.int .i64 n396), (Value.slice A397 A397l A397c)])] w390 fun e399 w400 =>
  ∃ b398, e399 = Ending.returned (Value.bool b398) ∧
  S363 w400 ∧
  ∃ w401, Sem.run Try.prog (Instr.storeAt 4 (Value.pointer (some ⟨K.br, 0, none⟩)) (Value.bool b398)) w400 = .ok () w401 ∧
  V.closeR (Array.size (World.heap w296) :: (Array.size (World.heap wB) :: (d2 :: (d1 :: [])))) w401 fun w402 =>
  ∃ b403, World.cell? w402 ⟨K.br, 0, none⟩ = some (Value.bool b403) ∧
  R (Ending.returned (Value.bool b403)) w402)
  (∃ w404, Sem.run Try.prog (Instr.storeAt 4 (Value.pointer (some ⟨K.br, 0, none⟩)) (Value.bool false)) w390 = .ok () w404 ∧
  V.closeR (Array.size (World.heap w296) :: (Array.size (World.heap wB) :: (d2 :: (d1 :: [])))) w404 fun w405 =>
  ∃ b406, World.cell? w405 ⟨K.br, 0, none⟩ = some (Value.bool b406) ∧
  R (Ending.returned (Value.bool b406)) w405))
  (∃ w407, Sem.run Try.prog (Instr.storeAt 4 (Value.pointer (some ⟨K.br, 0, none⟩)) (Value.bool false)) w382 = .ok () w407 ∧
  V.closeR (Array.size (World.heap w296) :: (Array.size (World.heap wB) :: (d2 :: (d1 :: [])))) w407 fun w408 =>
  ∃ b409, World.cell? w408 ⟨K.br, 0, none⟩ = some (Value.bool b409) ∧
  R (Ending.returned (Value.bool b409)) w408))
  (∃ w410, Sem.run Try.prog (Instr.storeAt 4 (Value.pointer (some ⟨K.br, 0, none⟩)) (Value.bool false)) w375 = .ok () w410 ∧
  V.closeR (Array.size (World.heap w296) :: (Array.size (World.heap wB) :: (d2 :: (d1 :: [])))) w410 fun w411 =>
  ∃ b412, World.cell? w411 ⟨K.br, 0, none⟩ = some (Value.bool b412) ∧
  R (Ending.returned (Value.bool b412)) w411))
  (∃ w413, Sem.run Try.prog (Instr.storeAt 4 (Value.pointer (some ⟨K.br, 0, none⟩)) (Value.bool false)) (World.drew (V.setLoop w362 l300 Rc299 .exhausted none)) = .ok () w413 ∧
  V.closeR (Array.size (World.heap w296) :: (Array.size (World.heap wB) :: (d2 :: (d1 :: [])))) w413 fun w414 =>
  ∃ b415, World.cell? w414 ⟨K.br, 0, none⟩ = some (Value.bool b415) ∧
  R (Ending.returned (Value.bool b415)) w414)) ∨
  (V.LoopSt w362 l300 Rc299 .done (some Code.ret) ∧
  V.closeR (Array.size (World.heap w296) :: (Array.size (World.heap wB) :: (d2 :: (d1 :: [])))) (V.setLoop w362 l300 Rc299 .exhausted (some Code.ret)) fun w416 =>
  ∃ b417, World.cell? w416 ⟨K.br, 0, none⟩ = some (Value.bool b417) ∧
  R (Ending.returned (Value.bool b417)) w416) ∨
  False))) ∨
  (V.LoopSt w294 l277 Rc276 .done (some Code.ret) ∧
  V.closeR (Array.size (World.heap wB) :: (d2 :: (d1 :: []))) (V.setLoop w294 l277 Rc276 .exhausted (some Code.ret)) fun w418 =>
  ∃ b419, World.cell? w418 ⟨K.br, 0, none⟩ = some (Value.bool b419) ∧
  R (Ending.returned (Value.bool b419)) w418) ∨
  False)) := by
  have hwl := hw.wlen
  have hwe := hw.wle
  have hpl := wlen_prs hw
  have hz := h.t.z
  obtain ⟨_, _, z3, z3c, z3t, z13, z23⟩ := ly.z
  have s3lt := (hz s3 (hZ1 _ z3)).2
  have sx : ∀ w', Ext [s3] wB w' → Sx K w' := fun w' e => h.s.ext e fun b hb hm => z3c (List.mem_singleton.1 hm ▸ hb)
  refine ptr_in ⟨_, #[], _, h.s.f.cell (i := 0) rfl, V.when_intro (by kernel_rfl) fun Rc l w278 hl h278 hy => ?_⟩
  obtain ⟨l0, m0, x278, z278⟩ := enter_new hl h278
  have s278 := x278.size
  refine (All_iter (A := K.CA) (b := K.cb) (c := K.cc) (xs := K.rows) rfl hw.rle).range (I := fun ps w' => Ext [s3] wB w' ∧ w278.heap.size ≤ w'.heap.size ∧ Mrk w' wB.heap.size ∧ ∃ A n c, BlkT w' s3 [.slice A n c] 62 ∧ OwnL PL w' wB.heap.size 64 A n c ps ∧ ∀ g ∈ ownF A, w278.heap.size ≤ g) (Q := fun _ _ => False)
    (fun y W R' h1 h2 => hy y.slot y.name W R' h1 ⟨h1, h2⟩) l0 ⟨Ext.up x278, Nat.le_refl _, m0, none, 0, 0, ly.p3.ext0 x278, OwnL.nil _ _ _, by simp [ownF]⟩ ?_ (fun _ _ _ _ h => h.elim) (fun ps w1 q => ⟨(sx w1 q.1).c, (sx w1 q.1).cr⟩) ?_ ?_ (fun _ _ _ h => h.elim)
  · rintro ps w1 w2 e ⟨q1, q2, q3, A, n, c, q4, q5, q6⟩
    exact ⟨q1.trans' e (fun b hb => .inr (by rw [List.mem_singleton.1 hb]; omega)), Nat.le_trans q2 e.size, q3.ext e (by simp; omega), A, n, c, q4.ext e (by simp; omega), q5.ext e (fun g hg => by have := q6 g hg; simp; omega), q6⟩
  · rintro ps y rest W R' hsp hW hS ⟨q1, q2, q3, A, n, c, q4, q5, q6⟩ k1 k2
    obtain ⟨hlt, -⟩ := want_at hw hsp
    generalize hWb : setLoop W l Rc .busy none = Wb at *
    refine ⟨A, n, c, q4.cell (i := 0) rfl, fun w284 h284 => ?_⟩
    obtain ⟨b19, x19, z19⟩ := box_new (cs := PL.enc y) h284
    have hnl := q5.len
    obtain ⟨A2, c2, w21, hr, own2, xx, hat⟩ := (q5.ext0 x19).more (P := Try.prog) (t := 62) (ty := 62) (x := y) u62 i64 rfl (by omega) b19 (by have := q1.size; omega) (by omega)
    have s19 := x19.size
    have s21 := xx.size
    have b21 := (q4.ext0 x19).ext xx (fun hm => by have := q6 _ hm; omega)
    obtain ⟨w22, hr22, b22, x22⟩ := store1 (P := Try.prog) (v := .slice A2 (n + 1) c2) i62s b21 (i := 0) (by simp) rfl rfl
    have s22 := x22.size
    have hA2 : ∀ g ∈ ownF A2, w278.heap.size ≤ g := fun g hg' => by
      rcases hat with h1 | h1
      · rw [h1] at hg'; exact q6 g hg'
      · rw [h1] at hg'; simp at hg'; omega
    have hl' : ∀ (b : Nat), b < w278.heap.size → b ∉ ownF A := fun b h2 hm => by have := q6 b hm; omega
    have hll : l < w278.heap.size := LoopSt.lt l0
    have hS2 := ((LoopSt.ext hS x19 (by simp)).ext xx (hl' _ hll)).ext x22 (by simp; omega)
    have f1 : Ext [s3] wB w22 := ((q1.trans (Ext.up x19)).trans' xx (fun b hb => .inr (by have := q6 b hb; omega))).trans' x22 (fun b hb => .inl hb)
    have f3 : Mrk w22 wB.heap.size := ((q3.ext x19 (by simp)).ext xx (hl' _ (by omega))).ext x22 (by simp; omega)
    have f7 := own2.ext x22 (fun g hg' => by have := hA2 g hg'; simp; omega)
    refine ⟨A2, n + 1, c2, w21, hr, w22, hr22, _, _, _, b22.cell (i := 0) rfl, ptr_in ⟨_, _, _, (sx w22 f1).g.cell (i := 0) rfl, sel_dec (fun hgt => by omega) fun _ => ⟨hS2, k1 w22 hS2 ⟨f1, by omega, f3, A2, n + 1, c2, b22, f7, hA2⟩⟩⟩⟩
  · rintro w294 hl294 ⟨q1, q2, q3, A, n, c, q4, q5, q6⟩
    have x := setLoop_ext w294 l Rc .exhausted none
    have f294 : Ext [s3] wB (setLoop w294 l Rc .exhausted none) := q1.trans' x (fun b hb => .inr (by rw [List.mem_singleton.1 hb]; omega))
    have own := q5.ext x (fun g hg => by have := q6 g hg; simp; omega)
    obtain ⟨A1, n1, c1, b1, o1, l1, zz1⟩ := ly.p1
    obtain ⟨A2, n2, c2, b2, o2, l2, zz2⟩ := ly.p2
    refine .inl ⟨hl294, loop5_c hw (h.turn f294 (fun b hb => .inr ?_) (fun b hb => .inl hb) h.zc h.cz) ⟨⟨A1, n1, c1, b1.ext f294 (by simpa using z13), o1.ext f294 (fun g hg => by simpa using (zz1 g hg).2), l1⟩, ⟨A2, n2, c2, b2.ext f294 (by simpa using z23), o2.ext f294 (fun g hg => by simpa using (zz2 g hg).2), l2⟩, ⟨A, n, c, q4.ext x (by simp; omega), own.cells, own.len⟩⟩ (fun d hd => ?_) ?_ k⟩
    · rw [List.mem_singleton.1 hb]
      exact ⟨hZ1 _ z3, z3c, z3t⟩
    · simp only [List.mem_cons] at hd
      rcases hd with rfl | hd
      · refine ⟨q3.ext x (by simp; omega), fun hmm => ?_, h.e.size⟩
        have := (hz _ (h.zc _ hmm)).2; omega
      · have := ly.m d (by simpa using hd)
        exact ⟨this.1.ext f294 (by simpa using this.2.2.2.2), this.2.2.1, this.2.2.2.1⟩
    · refine List.nodup_cons.2 ⟨fun hmm => ?_, ly.nd⟩
      have := (ly.m _ hmm).1.lt
      omega
end
end Go.Proofs.Ytcampkaenlohbaa
