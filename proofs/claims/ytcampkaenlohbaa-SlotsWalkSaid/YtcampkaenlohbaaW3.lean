/- SlotsWalk: the walk within a walk. -/
import Derived.Test.YtcampkaenlohbaaW2
set_option linter.unusedVariables false
set_option linter.unusedSimpArgs false
namespace Go.Proofs.Ytcampkaenlohbaa
open Go Go.V Go.B

theorem ptr_of {A : Option Addr} {ad : Addr} {K : Addr → Prop} (h : A = some ad) (k : K ad) : V.ptr A K := by rw [h]; exact ptr_in k
theorem Lx.ext0 {K : Wc} {w w' : World} {s1 s2 s3 : Nat} (h : Lx K w s1 s2 s3) (e : Ext [] w w') : Lx K w' s1 s2 s3 := by
  obtain ⟨A1, n1, c1, b1, o1, l1⟩ := h.p1
  obtain ⟨A2, n2, c2, b2, o2, l2⟩ := h.p2
  obtain ⟨A3, n3, c3, b3, o3, l3⟩ := h.p3
  exact ⟨⟨A1, n1, c1, b1.ext0 e, o1.ext0 e, l1⟩, ⟨A2, n2, c2, b2.ext0 e, o2.ext0 e, l2⟩, ⟨A3, n3, c3, b3.ext0 e, o3.ext0 e, l3⟩⟩
theorem _root_.Go.B.Ext.newer {w w1 w2 : World} {F : List Nat} (e : Ext [] w w1) (e' : Ext F w1 w2) (h : ∀ b ∈ F, w.heap.size ≤ b) : Ext [] w w2 := e.trans' e' fun b hb => .inr (h b hb)
theorem want_at {w0 : World} {K : Wc} (hw : Wf w0 K) {ps rest : List Pr} {y : Pr} (h : prs K.rows = ps ++ y :: rest) : ps.length < K.wn ∧ ∃ d : DR, (drs K.rows)[ps.length]? = some d ∧ y.slot = d.slot ∧ y.name = d.name := by
  have h1 : (prs K.rows)[ps.length]? = some y := by rw [h]; simp
  rw [← drs_pr, List.getElem?_map, Option.map_eq_some_iff] at h1
  obtain ⟨d, hd, e⟩ := h1
  have := (List.getElem?_eq_some_iff.1 hd).1
  have h2 := hw.wlen
  refine ⟨by omega, d, hd, ?_, ?_⟩
  · rw [← e]; rfl
  · rw [← e]; rfl
section
variable {w0 : World} {K : Wc}
set_option maxRecDepth 8000 in
theorem loop5_c {wD : World} {Z : List Nat} {a s1 s2 s3 d1 d2 d3 : Nat} (hw : Wf w0 K) (h : Wv w0 K wD Z a) (lx : Lx K wD s1 s2 s3) (hm : ∀ d ∈ [d3, d2, d1], Mrk wD d ∧ d ∉ Zc K ∧ w0.heap.size ≤ d) (hd : [d3, d2, d1].Nodup)
    {R : Ending → World → Prop} (k : ∀ w', Ext [] w0 w' → R (.returned (.bool true)) w') :
    ∀ w295, w295 = (World.alloc wD (.cells #[(Value.int .i64 0)] 3)) →
  ∃ w296, Sem.run Try.prog (Instr.storeAt 3 (Value.pointer (some ⟨Array.size (World.heap wD), 0, none⟩)) (Value.int .i64 0)) w295 = .ok () w296 ∧
  V.ptr (some (⟨K.fb, 0, none⟩ : Addr)) fun a297 =>
  ∃ f298, ∃ f298a, ∃ f298c, World.cell? w296 a297 = some (Value.func (.func f298) f298a f298c) ∧
  V.when (V.hasB Try.prog f298 && true) (∀ (Rc299 : Loop) (l300 : Nat) (w301 : World), l300 = Array.size (World.heap w296) + 1 → w301 = World.alloc (World.alloc w296 (.deferred (some []))) (.loop { Rc299 with state := .ready, pending := none }) →
  (∀ y181_304 y182_305 (W302 : World) (R303 : Ending → World → Prop), V.LoopSt W302 l300 Rc299 .ready none →
  (V.LoopSt W302 l300 Rc299 .ready none ∧
  ∃ n306, World.cell? (V.setLoop W302 l300 Rc299 .busy none) ⟨Array.size (World.heap wD), 0, none⟩ = some (Value.int .i64 n306) ∧
  V.ptr (some (⟨K.gb, 0, none⟩ : Addr)) fun a307 =>
  ∃ A308, ∃ A308l, ∃ A308c, World.cell? (V.setLoop W302 l300 Rc299 .busy none) a307 = some (Value.slice A308 A308l A308c) ∧
  V.sel (decide (n306 ≥ ((A308l : Nat) : Int)))
  (∃ w309, Sem.run Try.prog (Instr.storeAt 4 (Value.pointer (some ⟨K.br, 0, none⟩)) (Value.bool false)) (V.setLoop W302 l300 Rc299 .busy none) = .ok () w309 ∧
  V.LoopSt w309 l300 Rc299 .busy none ∧ R303 (Ending.returned (Value.bool false)) (V.setLoop w309 l300 Rc299 .done (some Code.ret)))
  (V.ptr (some (⟨K.gb, 0, none⟩ : Addr)) fun a310 =>
  ∃ A311, ∃ A311l, ∃ A311c, World.cell? (V.setLoop W302 l300 Rc299 .busy none) a310 = some (Value.slice A311 A311l A311c) ∧
  ∃ n312, World.cell? (V.setLoop W302 l300 Rc299 .busy none) ⟨Array.size (World.heap wD), 0, none⟩ = some (Value.int .i64 n312) ∧
  V.when (decide ((0 : Int) ≤ n312 ∧ (n312 : Int) < ((A311l : Nat) : Int))) (V.ptr A311 fun a313 =>
  ∃ n314, World.cell? (V.setLoop W302 l300 Rc299 .busy none) (Addr.add (Addr.add a313 ((Int.toNat n312) * 3)) 0) = some (Value.int .i64 n314) ∧
  V.sel (y181_304 != n314)
  (∃ w315, Sem.run Try.prog (Instr.storeAt 4 (Value.pointer (some ⟨K.br, 0, none⟩)) (Value.bool false)) (V.setLoop W302 l300 Rc299 .busy none) = .ok () w315 ∧
  V.LoopSt w315 l300 Rc299 .busy none ∧ R303 (Ending.returned (Value.bool false)) (V.setLoop w315 l300 Rc299 .done (some Code.ret)))
  (V.ptr (some (⟨K.gb, 0, none⟩ : Addr)) fun a316 =>
  ∃ A317, ∃ A317l, ∃ A317c, World.cell? (V.setLoop W302 l300 Rc299 .busy none) a316 = some (Value.slice A317 A317l A317c) ∧
  ∃ n318, World.cell? (V.setLoop W302 l300 Rc299 .busy none) ⟨Array.size (World.heap wD), 0, none⟩ = some (Value.int .i64 n318) ∧
  V.when (decide ((0 : Int) ≤ n318 ∧ (n318 : Int) < ((A317l : Nat) : Int))) (V.ptr A317 fun a319 =>
  ∃ s320, World.cell? (V.setLoop W302 l300 Rc299 .busy none) (Addr.add (Addr.add a319 ((Int.toNat n318) * 3)) 1) = some (Value.string s320) ∧
  V.sel (!(ByteArray.toList y182_305 == ByteArray.toList s320))
  (∃ w321, Sem.run Try.prog (Instr.storeAt 4 (Value.pointer (some ⟨K.br, 0, none⟩)) (Value.bool false)) (V.setLoop W302 l300 Rc299 .busy none) = .ok () w321 ∧
  V.LoopSt w321 l300 Rc299 .busy none ∧ R303 (Ending.returned (Value.bool false)) (V.setLoop w321 l300 Rc299 .done (some Code.ret)))
  (∀ w322, w322 = (World.alloc (V.setLoop W302 l300 Rc299 .busy none) (.cells #[(Value.int .i64 0)] 3)) →
  ∃ w323, Sem.run Try.prog (Instr.storeAt 3 (Value.pointer (some ⟨Array.size (World.heap (V.setLoop W302 l300 Rc299 .busy none)), 0, none⟩)) (Value.int .i64 0)) w322 = .ok () w323 ∧
  V.ptr (some (⟨K.fb, 0, none⟩ : Addr)) fun a324 =>
  ∃ f325, ∃ f325a, ∃ f325c, World.cell? w323 a324 = some (Value.func (.func f325) f325a f325c) ∧
  V.when (V.hasB Try.prog f325 && true) ((∃ r0, (World.heap w323)[l300]? = some (.loop r0)) ∧
  ∀ (Rc326 : Loop) (l327 : Nat) (w328 : World), l327 = Array.size (World.heap w323) → w328 = World.alloc w323 (.loop { Rc326 with state := .ready, pending := none }) →
  (∀ y206_331 y207_332 (W329 : World) (R330 : Ending → World → Prop), V.LoopSt W329 l327 Rc326 .ready none →
  (V.LoopSt W329 l327 Rc326 .ready none ∧
  ∃ n333, World.cell? (V.setLoop W329 l327 Rc326 .busy none) ⟨Array.size (World.heap (V.setLoop W302 l300 Rc299 .busy none)), 0, none⟩ = some (Value.int .i64 n333) ∧
  V.ptr (some (⟨K.gb, 0, none⟩ : Addr)) fun a334 =>
  ∃ A335, ∃ A335l, ∃ A335c, World.cell? (V.setLoop W329 l327 Rc326 .busy none) a334 = some (Value.slice A335 A335l A335c) ∧
  V.sel (decide (n333 ≥ ((A335l : Nat) : Int)))
  (∃ w336, Sem.run Try.prog (Instr.storeAt 4 (Value.pointer (some ⟨K.br, 0, none⟩)) (Value.bool false)) (V.setLoop W329 l327 Rc326 .busy none) = .ok () w336 ∧
  V.LoopSt w336 l327 Rc326 .busy none ∧ R330 (Ending.returned (Value.bool false)) (V.setLoop w336 l327 Rc326 .done (some Code.ret)))
  (V.ptr (some (⟨K.gb, 0, none⟩ : Addr)) fun a337 =>
  ∃ A338, ∃ A338l, ∃ A338c, World.cell? (V.setLoop W329 l327 Rc326 .busy none) a337 = some (Value.slice A338 A338l A338c) ∧
  ∃ n339, World.cell? (V.setLoop W329 l327 Rc326 .busy none) ⟨Array.size (World.heap (V.setLoop W302 l300 Rc299 .busy none)), 0, none⟩ = some (Value.int .i64 n339) ∧
  V.when (decide ((0 : Int) ≤ n339 ∧ (n339 : Int) < ((A338l : Nat) : Int))) (V.ptr A338 fun a340 =>
  ∃ n341, World.cell? (V.setLoop W329 l327 Rc326 .busy none) (Addr.add (Addr.add a340 ((Int.toNat n339) * 3)) 0) = some (Value.int .i64 n341) ∧
  V.sel (y206_331 != n341)
  (∃ w342, Sem.run Try.prog (Instr.storeAt 4 (Value.pointer (some ⟨K.br, 0, none⟩)) (Value.bool false)) (V.setLoop W329 l327 Rc326 .busy none) = .ok () w342 ∧
  V.LoopSt w342 l327 Rc326 .busy none ∧ R330 (Ending.returned (Value.bool false)) (V.setLoop w342 l327 Rc326 .done (some Code.ret)))
  (V.ptr (some (⟨K.gb, 0, none⟩ : Addr)) fun a343 =>
  ∃ A344, ∃ A344l, ∃ A344c, World.cell? (V.setLoop W329 l327 Rc326 .busy none) a343 = some (Value.slice A344 A344l A344c) ∧
  ∃ n345, World.cell? (V.setLoop W329 l327 Rc326 .busy none) ⟨Array.size (World.heap (V.setLoop W302 l300 Rc299 .busy none)), 0, none⟩ = some (Value.int .i64 n345) ∧
  V.when (decide ((0 : Int) ≤ n345 ∧ (n345 : Int) < ((A344l : Nat) : Int))) (V.ptr A344 fun a346 =>
  ∃ s347, World.cell? (V.setLoop W329 l327 Rc326 .busy none) (Addr.add (Addr.add a346 ((Int.toNat n345) * 3)) 1) = some (Value.string s347) ∧
  V.sel (!(ByteArray.toList y207_332 == ByteArray.toList s347))
  (∃ w348, Sem.run Try.prog (Instr.storeAt 4 (Value.pointer (some ⟨K.br, 0, none⟩)) (Value.bool false)) (V.setLoop W329 l327 Rc326 .busy none) = .ok () w348 ∧
  V.LoopSt w348 l327 Rc326 .busy none ∧ R330 (Ending.returned (Value.bool false)) (V.setLoop w348 l327 Rc326 .done (some Code.ret)))
  (∃ n349, World.cell? (V.setLoop W329 l327 Rc326 .busy none) ⟨Array.size (World.heap (V.setLoop W302 l300 Rc299 .busy none)), 0, none⟩ = some (Value.int .i64 n349) ∧
  ∃ w350, Sem.run Try.prog (Instr.storeAt 3 (Value.pointer (some ⟨Array.size (World.heap (V.setLoop W302 l300 Rc299 .busy none)), 0, none⟩)) (Value.int .i64 (IntKind.wrap .i64 (n349 + 1)))) (V.setLoop W329 l327 Rc326 .busy none) = .ok () w350 ∧
  ∃ n351, World.cell? w350 ⟨Array.size (World.heap (V.setLoop W302 l300 Rc299 .busy none)), 0, none⟩ = some (Value.int .i64 n351) ∧
  ∃ n352, World.cell? w350 ⟨Array.size (World.heap wD), 0, none⟩ = some (Value.int .i64 n352) ∧
  V.sel (decide (n351 > n352))
  (V.LoopSt w350 l327 Rc326 .busy none ∧ R330 (Ending.returned (Value.bool false)) (V.setLoop w350 l327 Rc326 .done (some (Code.exit 14))))
  (V.LoopSt w350 l327 Rc326 .busy none ∧ R330 (Ending.returned (Value.bool true)) (V.setLoop w350 l327 Rc326 .ready none)))))))) →
  V.Yield Try.prog l327 [(Value.int .i64 y206_331), (Value.string y207_332)] W329 R330) →
  Calls Try.prog f325 ⟨Array.toList f325a ++ [(Value.func (.yield l327) #[] #[])] ++ Array.toList f325c⟩ w328 fun e353 w355 => (∃ v354, e353 = Ending.returned v354) ∧
  ((V.LoopSt w355 l327 Rc326 .ready none ∧
  ∃ n356, World.cell? (V.setLoop w355 l327 Rc326 .exhausted none) ⟨Array.size (World.heap wD), 0, none⟩ = some (Value.int .i64 n356) ∧
  ∃ w357, Sem.run Try.prog (Instr.storeAt 3 (Value.pointer (some ⟨Array.size (World.heap wD), 0, none⟩)) (Value.int .i64 (IntKind.wrap .i64 (n356 + 1)))) (V.setLoop w355 l327 Rc326 .exhausted none) = .ok () w357 ∧
  V.LoopSt w357 l300 Rc299 .busy none ∧ R303 (Ending.returned (Value.bool true)) (V.setLoop w357 l300 Rc299 .ready none)) ∨
  (V.LoopSt w355 l327 Rc326 .done (some Code.ret) ∧
  V.LoopSt (V.setLoop w355 l327 Rc326 .exhausted (some Code.ret)) l300 Rc299 .busy none ∧ R303 (Ending.returned (Value.bool false)) (V.setLoop (V.setLoop w355 l327 Rc326 .exhausted (some Code.ret)) l300 Rc299 .done (some Code.ret))) ∨
  (V.LoopSt w355 l327 Rc326 .done (some (Code.exit 14)) ∧
  ∃ n358, World.cell? (V.setLoop w355 l327 Rc326 .exhausted (some (Code.exit 14))) ⟨Array.size (World.heap wD), 0, none⟩ = some (Value.int .i64 n358) ∧
  ∃ w359, Sem.run Try.prog (Instr.storeAt 3 (Value.pointer (some ⟨Array.size (World.heap wD), 0, none⟩)) (Value.int .i64 (IntKind.wrap .i64 (n358 + 1)))) (V.setLoop w355 l327 Rc326 .exhausted (some (Code.exit 14))) = .ok () w359 ∧
  V.LoopSt w359 l300 Rc299 .busy none ∧ R303 (Ending.returned (Value.bool true)) (V.setLoop w359 l300 Rc299 .ready none)) ∨
  False)))))))) →
  V.Yield Try.prog l300 [(Value.int .i64 y181_304), (Value.string y182_305)] W302 R303) →
  Calls Try.prog f298 ⟨Array.toList f298a ++ [(Value.func (.yield l300) #[] #[])] ++ Array.toList f298c⟩ w301 fun e360 w362 => (∃ v361, e360 = Ending.returned v361) ∧
  ((V.LoopSt w362 l300 Rc299 .ready none ∧
  ∃ S363 : World → Prop, S363 (World.drew (V.setLoop w362 l300 Rc299 .exhausted none)) ∧
  ∃ n365, (∀ w364, S363 w364 → World.cell? w364 ⟨Array.size (World.heap wD), 0, none⟩ = some (Value.int .i64 n365)) ∧
  V.ptr (some (⟨K.gb, 0, none⟩ : Addr)) fun a366 =>
  ∃ A367, ∃ A367l, ∃ A367c, (∀ w364, S363 w364 → World.cell? w364 a366 = some (Value.slice A367 A367l A367c)) ∧
  V.sel (n365 == ((A367l : Nat) : Int))
  (∃ A368, ∃ A368l, ∃ A368c, (∀ w364, S363 w364 → World.cell? w364 ⟨s1, 0, none⟩ = some (Value.slice A368 A368l A368c)) ∧
  V.ptr (some (⟨K.gb, 0, none⟩ : Addr)) fun a369 =>
  ∃ A370, ∃ A370l, ∃ A370c, (∀ w364, S363 w364 → World.cell? w364 a369 = some (Value.slice A370 A370l A370c)) ∧
  V.ptr (some (⟨K.gb, 0, none⟩ : Addr)) fun a371 =>
  ∃ A372, ∃ A372l, ∃ A372c, (∀ w364, S363 w364 → World.cell? w364 a371 = some (Value.slice A372 A372l A372c)) ∧
  Calls Try.prog 24 #[(Value.slice A368 A368l A368c), (Value.slice A370 A370l A370c), (Value.int .i64 ((A372l : Nat) : Int))] (World.drew (V.setLoop w362 l300 Rc299 .exhausted none)) fun e374 w375 =>
  ∃ b373, e374 = Ending.returned (Value.bool b373) ∧
  S363 w375 ∧
  V.sel b373
  (∃ A376, ∃ A376l, ∃ A376c, (∀ w364, S363 w364 → World.cell? w364 ⟨s2, 0, none⟩ = some (Value.slice A376 A376l A376c)) ∧
  V.ptr (some (⟨K.gb, 0, none⟩ : Addr)) fun a377 =>
  ∃ A378, ∃ A378l, ∃ A378c, (∀ w364, S363 w364 → World.cell? w364 a377 = some (Value.slice A378 A378l A378c)) ∧
  ∃ n379, (∀ w364, S363 w364 → World.cell? w364 ⟨K.be, 0, none⟩ = some (Value.int .i64 n379)) ∧
  Calls Try.prog 24 #[(Value.slice A376 A376l A376c), (Value.slice A378 A378l A378c), (Value.int .i64 (if n379 > 1 then n379 else 1))] w375 fun e381 w382 =>
  ∃ b380, e381 = Ending.returned (Value.bool b380) ∧
  S363 w382 ∧
  V.sel b380
  (∃ A383, ∃ A383l, ∃ A383c, (∀ w364, S363 w364 → World.cell? w364 ⟨s3, 0, none⟩ = some (Value.slice A383 A383l A383c)) ∧
  V.ptr (some (⟨K.gb, 0, none⟩ : Addr)) fun a384 =>
  ∃ A385, ∃ A385l, ∃ A385c, (∀ w364, S363 w364 → World.cell? w364 a384 = some (Value.slice A385 A385l A385c)) ∧
  V.ptr (some (⟨K.gb, 0, none⟩ : Addr)) fun a386 =>
  ∃ A387, ∃ A387l, ∃ A387c, (∀ w364, S363 w364 → World.cell? w364 a386 = some (Value.slice A387 A387l A387c)) ∧
  Calls Try.prog 24 #[(Value.slice A383 A383l A383c), (Value.slice A385 A385l A385c), (Value.int .i64 ((A387l : Nat) : Int))] w382 fun e389 w390 =>
  ∃ b388, e389 = Ending.returned (Value.bool b388) ∧
  S363 w390 ∧
  V.sel b388
  (∃ p391, (∀ w364, S363 w364 → World.cell? w364 ⟨K.bw, 0, none⟩ = some (Value.pointer p391)) ∧
  V.ptr p391 fun a392 =>
  ∃ p393, (∀ w364, S363 w364 → World.cell? w364 (Addr.add (Addr.add a392 0) 1) = some (Value.pointer p393)) ∧
  ∃ p394, (∀ w364, S363 w364 → World.cell? w364 ⟨K.bw, 0, none⟩ = some (Value.pointer p394)) ∧
  V.ptr p394 fun a395 =>
  ∃ n396, ∃ A397, ∃ A397l, ∃ A397c, V.cellsC (fun a_ x_ => ∀ w364, S363 w364 → World.cell? w364 a_ = some x_) (Addr.add (Addr.add a395 4) 2) [(Value.int .i64 n396), (Value.slice A397 A397l A397c)] ∧
  Calls Try.prog 21 #[(Value.pointer p393), (Value.agg #[(Value.int .i64 n396), (Value.slice A397 A397l A397c)])] w390 fun e399 w400 =>
  ∃ b398, e399 = Ending.returned (Value.bool b398) ∧
  S363 w400 ∧
  ∃ w401, Sem.run Try.prog (Instr.storeAt 4 (Value.pointer (some ⟨K.br, 0, none⟩)) (Value.bool b398)) w400 = .ok () w401 ∧
  V.closeR (Array.size (World.heap w296) :: (d3 :: (d2 :: (d1 :: [])))) w401 fun w402 =>
  ∃ b403, World.cell? w402 ⟨K.br, 0, none⟩ = some (Value.bool b403) ∧
  R (Ending.returned (Value.bool b403)) w402)
  (∃ w404, Sem.run Try.prog (Instr.storeAt 4 (Value.pointer (some ⟨K.br, 0, none⟩)) (Value.bool false)) w390 = .ok () w404 ∧
  V.closeR (Array.size (World.heap w296) :: (d3 :: (d2 :: (d1 :: [])))) w404 fun w405 =>
  ∃ b406, World.cell? w405 ⟨K.br, 0, none⟩ = some (Value.bool b406) ∧
  R (Ending.returned (Value.bool b406)) w405))
  (∃ w407, Sem.run Try.prog (Instr.storeAt 4 (Value.pointer (some ⟨K.br, 0, none⟩)) (Value.bool false)) w382 = .ok () w407 ∧
  V.closeR (Array.size (World.heap w296) :: (d3 :: (d2 :: (d1 :: [])))) w407 fun w408 =>
  ∃ b409, World.cell? w408 ⟨K.br, 0, none⟩ = some (Value.bool b409) ∧
  R (Ending.returned (Value.bool b409)) w408))
  (∃ w410, Sem.run Try.prog (Instr.storeAt 4 (Value.pointer (some ⟨K.br, 0, none⟩)) (Value.bool false)) w375 = .ok () w410 ∧
  V.closeR (Array.size (World.heap w296) :: (d3 :: (d2 :: (d1 :: [])))) w410 fun w411 =>
  ∃ b412, World.cell? w411 ⟨K.br, 0, none⟩ = some (Value.bool b412) ∧
  R (Ending.returned (Value.bool b412)) w411))
  (∃ w413, Sem.run Try.prog (Instr.storeAt 4 (Value.pointer (some ⟨K.br, 0, none⟩)) (Value.bool false)) (World.drew (V.setLoop w362 l300 Rc299 .exhausted none)) = .ok () w413 ∧
  V.closeR (Array.size (World.heap w296) :: (d3 :: (d2 :: (d1 :: [])))) w413 fun w414 =>
  ∃ b415, World.cell? w414 ⟨K.br, 0, none⟩ = some (Value.bool b415) ∧
  R (Ending.returned (Value.bool b415)) w414)) ∨
  (V.LoopSt w362 l300 Rc299 .done (some Code.ret) ∧
  V.closeR (Array.size (World.heap w296) :: (d3 :: (d2 :: (d1 :: [])))) (V.setLoop w362 l300 Rc299 .exhausted (some Code.ret)) fun w416 =>
  ∃ b417, World.cell? w416 ⟨K.br, 0, none⟩ = some (Value.bool b417) ∧
  R (Ending.returned (Value.bool b417)) w416) ∨
  False)) := by
  have hwl := hw.wlen
  have hwe := hw.wle
  have hpl := wlen_prs hw
  intro w295 h295
  obtain ⟨b295, x295, z295⟩ := box_new (cs := [.int .i64 0]) h295
  obtain ⟨w296, hr296, b296, x296⟩ := store1 (P := Try.prog) (v := .int .i64 0) i3s b295 (i := 0) (by simp) rfl rfl
  have s295 := x295.size
  have s296 := x296.size
  have e296 : Ext [] wD w296 := x295.newer x296 (fun b hb => by rw [List.mem_singleton.1 hb]; exact Nat.le_refl _)
  refine ⟨w296, hr296, ptr_in ⟨_, #[], _, (h.s.f.ext0 e296).cell (i := 0) rfl, V.when_intro (by kernel_rfl) fun Rc l w301 hl h301 hy => ?_⟩⟩
  obtain ⟨l0, m0, x301, z301⟩ := enter_new hl h301
  have s301 := x301.size
  have e301 := e296.trans x301
  refine (All_iter (A := K.CA) (b := K.cb) (c := K.cc) (xs := K.rows) rfl hw.rle).range (I := fun ps w' => Ext [] wD w' ∧ w301.heap.size ≤ w'.heap.size ∧ Mrk w' w296.heap.size ∧ BlkT w' wD.heap.size [.int .i64 (ps.length : Int)] 3) (Q := fun _ _ => False)
    (fun y W R' h1 h2 => hy y.slot y.name W R' h1 ⟨h1, h2⟩) l0 ⟨e301, Nat.le_refl _, m0, b296.ext0 x301⟩ ?_ (fun _ _ _ _ h => h.elim) (fun ps w1 q => ⟨h.s.c.ext0 q.1, h.s.cr.ext0 q.1⟩) ?_ ?_ (fun _ _ _ h => h.elim)
  · rintro ps w1 w2 e ⟨q1, q2, q3, q4⟩
    exact ⟨q1.newer e (fun b hb => by rw [List.mem_singleton.1 hb]; omega), Nat.le_trans q2 e.size, q3.ext e (by simp; omega), q4.ext e (by simp; omega)⟩
  · rintro ps y rest W R' hsp hW hS ⟨q1, q2, q3, q4⟩ k1 k2
    obtain ⟨hlt, d, hdd, hds, hdn⟩ := want_at hw hsp
    have hk0 : wD.heap.size < w301.heap.size := by omega
    have rg : ∀ w', Ext [] wD w' → World.cell? w' ⟨K.gb, 0, none⟩ = some (.slice K.WA K.wn K.wcap) := fun w' e => (h.s.g.ext0 e).cell (i := 0) rfl
    have row : ∀ (w' : World) (i : Nat), Ext [] wD w' → i < K.wn → ∃ d ad, (drs K.rows)[i]? = some d ∧ K.WA = some ad ∧ cellsC (fun a v => w'.cell? a = some v) (ad.add (Int.toNat (i : Int) * 3)) (DL.enc d) := fun w' i e hi => (h.s.wr.ext0 e).row hwl hi
    obtain ⟨d', ad, hd', hA, rd⟩ := row _ ps.length q1 hlt
    rw [hdd] at hd'
    cases hd'
    refine ⟨_, q4.cell (i := 0) rfl, ptr_in ⟨_, _, _, rg _ q1, sel_dec (fun hge => by omega) fun _ => ptr_in ⟨_, _, _, rg _ q1, _, q4.cell (i := 0) rfl, when_dec ⟨by omega, by omega⟩ (ptr_of hA ⟨_, rd 0 _ rfl, sel_false (by simp [hds]) (ptr_in ⟨_, _, _, rg _ q1, _, q4.cell (i := 0) rfl, when_dec ⟨by omega, by omega⟩ (ptr_of hA ⟨_, rd 1 _ rfl, sel_false (by rw [beqBytes, hdn, decide_eq_true rfl]; rfl) ?_⟩)⟩)⟩)⟩⟩⟩
    generalize hWb : setLoop W l Rc .busy none = Wb at *
    intro w322 h322
    obtain ⟨b322, x322, z322⟩ := box_new (cs := [.int .i64 0]) h322
    obtain ⟨w323, hr323, b323, x323⟩ := store1 (P := Try.prog) (v := .int .i64 0) i3s b322 (i := 0) (by simp) rfl rfl
    have s322 := x322.size
    have s323 := x323.size
    have e323 : Ext [] Wb w323 := x322.newer x323 (fun b hb => by rw [List.mem_singleton.1 hb]; exact Nat.le_refl _)
    refine ⟨w323, hr323, ptr_in ⟨_, #[], _, (h.s.f.ext0 (q1.trans e323)).cell (i := 0) rfl, V.when_intro (by kernel_rfl) ⟨⟨_, LoopSt.ext hS e323 (by simp)⟩, fun Rc' l' w328 hl' h328 hy' => ?_⟩⟩⟩
    obtain ⟨l0', x328, z328⟩ := inner_new hl' h328
    have s328 := x328.size
    have e328 := e323.trans x328
    have hl300 := LoopSt.lt hS
    -- what stands behind the inner walk
    have next : ∀ w355 : World, Ext [] Wb w355 → ∃ n356, World.cell? w355 ⟨wD.heap.size, 0, none⟩ = some (.int .i64 n356) ∧ ∃ w357, Sem.run Try.prog (Instr.storeAt 3 (.pointer (some ⟨wD.heap.size, 0, none⟩)) (.int .i64 (IntKind.wrap .i64 (n356 + 1)))) w355 = .ok () w357 ∧ V.LoopSt w357 l Rc .busy none ∧ R' (.returned (.bool true)) (V.setLoop w357 l Rc .ready none) := fun w355 e => by
      have b355 := q4.ext0 e
      refine ⟨_, b355.cell (i := 0) rfl, ?_⟩
      rw [up64 ps.length (by omega)]
      obtain ⟨w357, hr357, b357, x357⟩ := store1 (P := Try.prog) (v := .int .i64 ((ps.length + 1 : Nat) : Int)) i3s b355 (i := 0) (by simp) rfl rfl
      have s355 := e.size
      have s357 := x357.size
      have hS357 : LoopSt w357 l Rc .busy none := LoopSt.ext (LoopSt.ext hS e (by simp)) x357 (by simp; omega)
      refine ⟨w357, hr357, hS357, k1 w357 hS357 ⟨(q1.trans e).newer x357 (fun b hb => by rw [List.mem_singleton.1 hb]; exact Nat.le_refl _), by omega, (q3.ext e (by simp)).ext x357 (by simp; omega), ?_⟩⟩
      rw [List.length_append, List.length_singleton]
      exact b357
    refine (All_iter (A := K.CA) (b := K.cb) (c := K.cc) (xs := K.rows) rfl hw.rle).range (I := fun qs w' => Ext [] Wb w' ∧ w328.heap.size ≤ w'.heap.size ∧ BlkT w' Wb.heap.size [.int .i64 (qs.length : Int)] 3) (Q := fun p w' => p = .exit 14 ∧ Ext [] Wb w' ∧ w328.heap.size ≤ w'.heap.size)
      (fun y W R' h1 h2 => hy' y.slot y.name W R' h1 ⟨h1, h2⟩) l0' ⟨e328, Nat.le_refl _, b323.ext0 x328⟩ ?_ ?_ (fun qs w1 q => ⟨h.s.c.ext0 (q1.trans q.1), h.s.cr.ext0 (q1.trans q.1)⟩) ?_ ?_ ?_
    · rintro qs w1 w2 e ⟨p1, p2, p3⟩
      exact ⟨p1.newer e (fun b hb => by rw [List.mem_singleton.1 hb]; omega), Nat.le_trans p2 e.size, p3.ext e (by simp; omega)⟩
    · rintro p w1 w2 e ⟨p0, p1, p2⟩
      exact ⟨p0, p1.newer e (fun b hb => by rw [List.mem_singleton.1 hb]; omega), Nat.le_trans p2 e.size⟩
    · rintro qs y2 rest2 W2 R2 hsp2 hW2 hS2 ⟨p1, p2, p3⟩ k1' k2'
      obtain ⟨hlt2, e2, hee, hes, hen⟩ := want_at hw hsp2
      have g1 := q1.trans p1
      obtain ⟨e2', ad2, he', hA2, rd2⟩ := row _ qs.length g1 hlt2
      rw [hee] at he'
      cases he'
      refine ⟨_, p3.cell (i := 0) rfl, ptr_in ⟨_, _, _, rg _ g1, sel_dec (fun hge => by omega) fun _ => ptr_in ⟨_, _, _, rg _ g1, _, p3.cell (i := 0) rfl, when_dec ⟨by omega, by omega⟩ (ptr_of hA2 ⟨_, rd2 0 _ rfl, sel_false (by simp [hes]) (ptr_in ⟨_, _, _, rg _ g1, _, p3.cell (i := 0) rfl, when_dec ⟨by omega, by omega⟩ (ptr_of hA2 ⟨_, rd2 1 _ rfl, sel_false (by rw [beqBytes, hen, decide_eq_true rfl]; rfl) ⟨_, p3.cell (i := 0) rfl, ?_⟩⟩)⟩)⟩)⟩⟩⟩
      rw [up64 qs.length (by omega)]
      obtain ⟨w350, hr350, b350, x350⟩ := store1 (P := Try.prog) (v := .int .i64 ((qs.length + 1 : Nat) : Int)) i3s p3 (i := 0) (by simp) rfl rfl
      have hS350 := LoopSt.ext hS2 x350 (by simp; omega)
      have s350 := x350.size
      have g350 : Ext [] Wb w350 := p1.newer x350 (fun b hb => by rw [List.mem_singleton.1 hb]; exact Nat.le_refl _)
      refine ⟨w350, hr350, _, b350.cell (i := 0) rfl, _, (q4.ext0 g350).cell (i := 0) rfl, sel_dec (fun hgt => ⟨hS350, k2' w350 (.exit 14) hS350 ⟨rfl, g350, by omega⟩⟩) fun _ => ⟨hS350, k1' w350 hS350 ⟨g350, by omega, ?_⟩⟩⟩
      rw [List.length_append, List.length_singleton]
      exact b350
    · rintro w355 hl355 ⟨p1, p2, p3⟩
      have x := setLoop_ext w355 l' Rc' .exhausted none
      exact .inl ⟨hl355, next _ (p1.newer x (fun b hb => by rw [List.mem_singleton.1 hb]; omega))⟩
    · rintro w355 p hl355 ⟨rfl, p1, p2⟩
      have x := setLoop_ext w355 l' Rc' .exhausted (some (.exit 14))
      exact .inr (.inr (.inl ⟨hl355, next _ (p1.newer x (fun b hb => by rw [List.mem_singleton.1 hb]; omega))⟩))
  · rintro w362 hl362 ⟨q1, q2, q3, q4⟩
    have x := setLoop_ext w362 l Rc .exhausted none
    have f362 : Ext [] wD (setLoop w362 l Rc .exhausted none) := q1.newer x (fun b hb => by rw [List.mem_singleton.1 hb]; omega)
    have hz := h.t.z
    refine .inl ⟨hl362, fin_c hw (h.turn f362 (by simp) (fun b hb => .inl hb) h.zc h.cz) (lx.ext0 f362) ?_ ?_ ?_ k⟩
    · rw [← hpl]
      exact q4.ext x (by simp; omega)
    · intro d hdm
      simp only [List.mem_cons] at hdm
      rcases hdm with rfl | hdm
      · refine ⟨q3.ext x (by simp; omega), fun hmm => ?_, ?_⟩
        · have := (hz _ (h.zc _ hmm)).2; omega
        · have := h.e.size; omega
      · have := hm d (by simpa using hdm)
        exact ⟨this.1.ext f362 (by simp), this.2⟩
    · refine List.nodup_cons.2 ⟨fun hmm => ?_, hd⟩
      have := (hm _ hmm).1.lt
      omega
end
end Go.Proofs.Ytcampkaenlohbaa
