/- SlotsWalk: the steps that are left. -/
import Derived.Test.YtcampkaenlohbaaW4
set_option linter.unusedVariables false
set_option linter.unusedSimpArgs false
namespace Go.Proofs.Ytcampkaenlohbaa
open Go Go.V Go.B

theorem Fix.less {N : Nat} {Z Z' : List Nat} {w w' : World} (h : Fix N Z w w') (hz : ∀ b ∈ Z', b ∈ Z) : Fix N Z' w w' := by
  obtain ⟨X, e, h1, h2⟩ := h
  exact ⟨X, e, fun b hb => h1 b (hz b hb), h2⟩
theorem Fix.new {w0 w w' : World} {Z : List Nat} (e0 : Ext [] w0 w) (e : Ext [] w w') : Fix w0.heap.size Z w w' := ⟨[], e, by simp, by simp⟩
section
variable {w0 : World} {K : Wc}
set_option maxRecDepth 8000 in
theorem loop3_c {wA : World} {Z Z1 : List Nat} {a0 s1 s2 s3 d1 d2 : Nat} (hw : Wf w0 K) (h : Wv w0 K wA Z a0) (ly : Ly w0 K wA Z1 s1 s2 s3 d1 d2) (hZ1 : ∀ b ∈ Z1, b ∈ Z ∧ b ≠ K.ct)
    {R : Ending → World → Prop} (k : ∀ w', Ext [] w0 w' → R (.returned (.bool true)) w') :
    ∃ I237 : World → Prop, ∃ μ238 : World → Nat, I237 wA ∧
  ∀ (j239 : Nat → Value) (w240 : World), I237 w240 →
  (∃ n241, World.cell? w240 ⟨K.ct, 0, none⟩ = some (Value.int .i64 n241) ∧
  ∃ A242, ∃ A242l, ∃ A242c, World.cell? w240 ⟨K.ba, 0, none⟩ = some (Value.slice A242 A242l A242c) ∧
  V.sel (decide (n241 < ((A242l : Nat) : Int)))
  (∃ A243, ∃ A243l, ∃ A243c, World.cell? w240 ⟨K.ba, 0, none⟩ = some (Value.slice A243 A243l A243c) ∧
  ∃ n244, World.cell? w240 ⟨K.ct, 0, none⟩ = some (Value.int .i64 n244) ∧
  V.when (decide ((0 : Int) ≤ n244 ∧ (n244 : Int) < ((A243l : Nat) : Int))) (V.ptr A243 fun a245 =>
  ∃ n246, ∃ n247, ∃ n248, ∃ s249, ∃ n250, V.cellsC (fun a_ x_ => World.cell? w240 a_ = some x_) (Addr.add a245 ((Int.toNat n244) * 5)) [(Value.int .i64 n246), (Value.int .i64 n247), (Value.int .i64 n248), (Value.string s249), (Value.int .i64 n250)] ∧
  ∀ w251, w251 = (World.alloc w240 (.cells #[(Value.int .i64 0), (Value.int .i64 0), (Value.int .i64 0), (Value.string ByteArray.empty), (Value.int .i64 0)] 31)) →
  ∃ w252, Sem.run Try.prog (Instr.storeAt 31 (Value.pointer (some ⟨Array.size (World.heap w240), 0, none⟩)) (Value.agg #[(Value.int .i64 n246), (Value.int .i64 n247), (Value.int .i64 n248), (Value.string s249), (Value.int .i64 n250)])) w251 = .ok () w252 ∧
  ∃ w253, Sem.run Try.prog (Instr.storeAt 3 (Value.pointer (some (Addr.add ⟨Array.size (World.heap w240), 0, none⟩ 1))) (Value.int .i64 1)) w252 = .ok () w253 ∧
  ∃ n254, World.cell? w253 (Addr.add ⟨Array.size (World.heap w240), 0, none⟩ 0) = some (Value.int .i64 n254) ∧
  V.sel (decide (n254 ≥ 2))
  (∃ n255, World.cell? w253 (Addr.add ⟨Array.size (World.heap w240), 0, none⟩ 0) = some (Value.int .i64 n255) ∧
  V.sel (decide (n255 ≤ 4))
  (∃ p256, World.cell? w253 ⟨K.bw, 0, none⟩ = some (Value.pointer p256) ∧
  ∃ n257, ∃ n258, ∃ n259, ∃ s260, ∃ n261, V.cellsC (fun a_ x_ => World.cell? w253 a_ = some x_) ⟨Array.size (World.heap w240), 0, none⟩ [(Value.int .i64 n257), (Value.int .i64 n258), (Value.int .i64 n259), (Value.string s260), (Value.int .i64 n261)] ∧
  Calls Try.prog 20 #[(Value.pointer p256), (Value.agg #[(Value.int .i64 n257), (Value.int .i64 n258), (Value.int .i64 n259), (Value.string s260), (Value.int .i64 n261)])] w253 fun e263 w264 =>
  ∃ b262, e263 = Ending.returned (Value.bool b262) ∧
  V.sel (!b262)
  (∃ w265, Sem.run Try.prog (Instr.storeAt 4 (Value.pointer (some ⟨K.br, 0, none⟩)) (Value.bool false)) w264 = .ok () w265 ∧
  V.closeR (d2 :: (d1 :: [])) w265 fun w266 =>
  ∃ b267, World.cell? w266 ⟨K.br, 0, none⟩ = some (Value.bool b267) ∧
  R (Ending.returned (Value.bool b267)) w266)
  (∃ n268, World.cell? w264 ⟨K.ct, 0, none⟩ = some (Value.int .i64 n268) ∧
  ∃ w269, Sem.run Try.prog (Instr.storeAt 3 (Value.pointer (some ⟨K.ct, 0, none⟩)) (Value.int .i64 (IntKind.wrap .i64 (n268 + 1)))) w264 = .ok () w269 ∧
  I237 w269 ∧ μ238 w269 < μ238 w240))
  (∃ n270, World.cell? w253 ⟨K.ct, 0, none⟩ = some (Value.int .i64 n270) ∧
  ∃ w271, Sem.run Try.prog (Instr.storeAt 3 (Value.pointer (some ⟨K.ct, 0, none⟩)) (Value.int .i64 (IntKind.wrap .i64 (n270 + 1)))) w253 = .ok () w271 ∧
  I237 w271 ∧ μ238 w271 < μ238 w240))
  (∃ n272, World.cell? w253 ⟨K.ct, 0, none⟩ = some (Value.int .i64 n272) ∧
  ∃ w273, Sem.run Try.prog (Instr.storeAt 3 (Value.pointer (some ⟨K.ct, 0, none⟩)) (Value.int .i64 (IntKind.wrap .i64 (n272 + 1)))) w253 = .ok () w273 ∧
  I237 w273 ∧ μ238 w273 < μ238 w240)))
  (V.ptr (some (⟨K.fb, 0, none⟩ : Addr)) fun a274 =>
  ∃ f275, ∃ f275a, ∃ f275c, World.cell? w240 a274 = some (Value.func (.func f275) f275a f275c) ∧
  V.when (V.hasB Try.prog f275 && true) (∀ (Rc276 : Loop) (l277 : Nat) (w278 : World), l277 = Array.size (World.heap w240) + 1 → w278 = World.alloc (World.alloc w240 (.deferred (some []))) (.loop { Rc276 with state := .ready, pending := none }) →
  (∀ y167_281 y168_282 (W279 : World) (R280 : Ending → World → Prop), V.LoopSt W279 l277 Rc276 .ready none →
  (V.LoopSt W279 l277 Rc276 .ready none ∧
  ∃ A283, ∃ A283l, ∃ A283c, World.cell? (V.setLoop W279 l277 Rc276 .busy none) ⟨s3, 0, none⟩ = some (Value.slice A283 A283l A283c) ∧
  ∀ w284, w284 = (World.alloc (V.setLoop W279 l277 Rc276 .busy none) (.cells #[(Value.int .i64 y167_281), (Value.string y168_282)] 64)) →
  ∃ A285, ∃ A285l, ∃ A285c, ∃ w286, Sem.run Try.prog (Builtin.append_ #[62, 62] 62 #[(Value.slice A283 A283l A283c), (Value.slice (some ⟨Array.size (World.heap (V.setLoop W279 l277 Rc276 .busy none)), 0, none⟩) 1 1)]) w284 = .ok (Value.slice A285 A285l A285c) w286 ∧
  ∃ w287, Sem.run Try.prog (Instr.storeAt 62 (Value.pointer (some ⟨s3, 0, none⟩)) (Value.slice A285 A285l A285c)) w286 = .ok () w287 ∧
  ∃ A288, ∃ A288l, ∃ A288c, World.cell? w287 ⟨s3, 0, none⟩ = some (Value.slice A288 A288l A288c) ∧
  V.ptr (some (⟨K.gb, 0, none⟩ : Addr)) fun a289 =>
  ∃ A290, ∃ A290l, ∃ A290c, World.cell? w287 a289 = some (Value.slice A290 A290l A290c) ∧
  V.sel (decide (((A288l : Nat) : Int) > ((A290l : Nat) : Int)))
  (∃ w291, Sem.run Try.prog (Instr.storeAt 4 (Value.pointer (some ⟨K.br, 0, none⟩)) (Value.bool false)) w287 = .ok () w291 ∧
  V.LoopSt w291 l277 Rc276 .busy none ∧ R280 (Ending.returned (Value.bool false)) (V.setLoop w291 l277 Rc276 .done (some Code.ret)))
  (V.LoopSt w287 l277 Rc276 .busy none ∧ R280 (Ending.returned (Value.bool true)) (V.setLoop w287 l277 Rc276 .ready none))) →
  V.Yield Try.prog l277 [(Value.int .i64 y167_281), (Value.string y168_282)] W279 R280) →
  Calls Try.prog f275 ⟨Array.toList f275a ++ [(Value.func (.yield l277) #[] #[])] ++ Array.toList f275c⟩ w278 fun e292 w294 => (∃ v293, e292 = Ending.returned v293) ∧
  ((V.LoopSt w294 l277 Rc276 .ready none ∧
  ∀ w295, w295 = (World.alloc (V.setLoop w294 l277 Rc276 .exhausted none) (.cells #[(Value.int .i64 0)] 3)) →
  ∃ w296, Sem.run Try.prog (Instr.storeAt 3 (Value.pointer (some ⟨Array.size (World.heap (V.setLoop w294 l277 Rc276 .exhausted none)), 0, none⟩)) (Value.int .i64 0)) w295 = .ok () w296 ∧
  V.ptr (some (⟨K.fb, 0, none⟩ : Addr)) fun a297 =>
  ∃ f298, ∃ f298a, ∃ f298c, World.cell? w296 a297 = some (Value.func (.func f298) f298a f298c) ∧
  V.when (V.hasB Try.prog f298 && true) (∀ (Rc299 : Loop) (l300 : Nat) (w301 : World), l300 = Array.size (World.heap w296) + 1 → w301 = World.alloc (World.alloc w296 (.deferred (some []))) (.loop { Rc299 with state := .ready, pending := none }) →
  (∀ y181_304 y182_305 (W302 : World) (R303 : Ending → World → Prop), V.LoopSt W302 l300 Rc299 .ready none →
  (V.LoopSt W302 l300 Rc299 .ready none ∧
  ∃ n306, World.cell? (V.setLoop W302 l300 Rc299 .busy none) ⟨Array.size (World.heap (V.setLoop w294 l277 Rc276 .exhausted none)), 0, none⟩ = some (Value.int .i64 n306) ∧
  V.ptr (some (⟨K.gb, 0, none⟩ : Addr)) fun a307 =>
  ∃ A308, ∃ A308l, ∃ A308c, World.cell? (V.setLoop W302 l300 Rc299 .busy none) a307 = some (Value.slice A308 A308l A308c) ∧
  V.sel (decide (n306 ≥ ((A308l : Nat) : Int)))
  (∃ w309, Sem.run Try.prog (Instr.storeAt 4 (Value.pointer (some ⟨K.br, 0, none⟩)) (Value.bool false)) (V.setLoop W302 l300 Rc299 .busy none) = .ok () w309 ∧
  V.LoopSt w309 l300 Rc299 .busy none ∧ R303 (Ending.returned (Value.bool false)) (V.setLoop w309 l300 Rc299 .done (some Code.ret)))
  (V.ptr (some (⟨K.gb, 0, none⟩ : Addr)) fun a310 =>
  ∃ A311, ∃ A311l, ∃ A311c, World.cell? (V.setLoop W302 l300 Rc299 .busy none) a310 = some (Value.slice A311 A311l A311c) ∧
  ∃ n312, World.cell? (V.setLoop W302 l300 Rc299 .busy none) ⟨Array.size (World.heap (V.setLoop w294 l277 Rc276 .exhausted none)), 0, none⟩ = some (Value.int .i64 n312) ∧
  V.when (decide ((0 : Int) ≤ n312 ∧ (n312 : Int) < ((A311l : Nat) : Int))) (V.ptr A311 fun a313 =>
  ∃ n314, World.cell? (V.setLoop W302 l300 Rc299 .busy none) (Addr.add (Addr.add a313 ((Int.toNat n312) * 3)) 0) = some (Value.int .i64 n314) ∧
  V.sel (y181_304 != n314)
  (∃ w315, Sem.run Try.prog (Instr.storeAt 4 (Value.pointer (some ⟨K.br, 0, none⟩)) (Value.bool false)) (V.setLoop W302 l300 Rc299 .busy none) = .ok () w315 ∧
  V.LoopSt w315 l300 Rc299 .busy none ∧ R303 (Ending.returned (Value.bool false)) (V.setLoop w315 l300 Rc299 .done (some Code.ret)))
  (V.ptr (some (⟨K.gb, 0, none⟩ : Addr)) fun a316 =>
  ∃ A317, ∃ A317l, ∃ A317c, World.cell? (V.setLoop W302 l300 Rc299 .busy none) a316 = some (Value.slice A317 A317l A317c) ∧
  ∃ n318, World.cell? (V.setLoop W302 l300 Rc299 .busy none) ⟨Array.size (World.heap (V.setLoop w294 l277 Rc276 .exhausted none)), 0, none⟩ = some (Value.int .i64 n318) ∧
  V.when (decide ((0 : Int) ≤ n318 ∧ (n318 : Int) < ((A317l : Nat) : Int))) (V.ptr A317 fun a319 =>
  ∃ s320, World.cell? (V.setLoop W302 l300 Rc299 .busy none) (Addr.add (Addr.add a319 ((Int.toNat n318) * 3)) 1) = some (Value.string s320) ∧
  V.sel (!(ByteArray.toList y182_305 == ByteArray.toList s320))
  (∃ w321, Sem.run Try.prog (Instr.storeAt 4 (Value.pointer (some ⟨K.br, 0, none⟩)) (Value.bool false)) (V.setLoop W302 l300 Rc299 .busy none) = .ok () w321 ∧
  V.LoopSt w321 l300 Rc299 .busy none ∧ R303 (Ending.returned (Value.bool false)) (V.setLoop w321 l300 Rc299 .done (some Code.ret)))
  (∀ w322, w322 = (World.alloc (V.setLoop W302 l300 Rc299 .busy none) (.cells #[(Value.int .i64 0)] 3)) →
  ∃ w323, Sem.run Try.prog (Instr.storeAt 3 (Value.pointer (some ⟨Array.size (World.heap (V.setLoop W302 l300 Rc299 .busy none)), 0, none⟩)) (Value.int .i64 0)) w322 = .ok () w323 ∧
  V.ptr (some (⟨K.fb, 0, none⟩ : Addr)) fun a324 =>
  ∃ f325, ∃ f325a, ∃ f325c, World.cell? w323 a324 = some (Value.func (.func f325) f325a f325c) ∧
  V.when (V.hasB Try.prog f325 && true) ((∃ r0, (World.heap w323)[l300]? = some (.loop r0)) ∧
  ∀ (Rc326 : Loop) (l327 : Nat) (w328 : World), l327 = Array.size (World.heap w323) → w328 = World.alloc w323 (.loop { Rc326 with state := .ready, pending := none }) →
  (∀ y206_331 y207_332 (W329 : World) (R330 : Ending → World → Prop), V.LoopSt W329 l327 Rc326 .ready none →
  (V.LoopSt W329 l327 Rc326 .ready none ∧
  ∃ n333, World.cell? (V.setLoop W329 l327 Rc326 .busy none) ⟨Array.size (World.heap (V.setLoop W302 l300 Rc299 .busy none)), 0, none⟩ = some (Value.int .i64 n333) ∧
  V.ptr (some (⟨K.gb, 0, none⟩ : Addr)) fun a334 =>
  ∃ A335, ∃ A335l, ∃ A335c, World.cell? (V.setLoop W329 l327 Rc326 .busy none) a334 = some (Value.slice A335 A335l A335c) ∧
  V.sel (decide (n333 ≥ ((A335l : Nat) : Int)))
  (∃ w336, Sem.run Try.prog (Instr.storeAt 4 (Value.pointer (some ⟨K.br, 0, none⟩)) (Value.bool false)) (V.setLoop W329 l327 Rc326 .busy none) = .ok () w336 ∧
  V.LoopSt w336 l327 Rc326 .busy none ∧ R330 (Ending.returned (Value.bool false)) (V.setLoop w336 l327 Rc326 .done (some Code.ret)))
  (V.ptr (some (⟨K.gb, 0, none⟩ : Addr)) fun a337 =>
  ∃ A338, ∃ A338l, ∃ A338c, World.cell? (V.setLoop W329 l327 Rc326 .busy none) a337 = some (Value.slice A338 A338l A338c) ∧
  ∃ n339, World.cell? (V.setLoop W329 l327 Rc326 .busy none) ⟨Array.size (World.heap (V.setLoop W302 l300 Rc299 .busy none)), 0, none⟩ = some (Value.int .i64 n339) ∧
  V.when (decide ((0 : Int) ≤ n339 ∧ (n339 : Int) < ((A338l : Nat) : Int))) (V.ptr A338 fun a340 =>
  ∃ n341, World.cell? (V.setLoop W329 l327 Rc326 .busy none) (Addr.add (Addr.add a340 ((Int.toNat n339) * 3)) 0) = some (Value.int .i64 n341) ∧
  V.sel (y206_331 != n341)
  (∃ w342, Sem.run Try.prog (Instr.storeAt 4 (Value.pointer (some ⟨K.br, 0, none⟩)) (Value.bool false)) (V.setLoop W329 l327 Rc326 .busy none) = .ok () w342 ∧
  V.LoopSt w342 l327 Rc326 .busy none ∧ R330 (Ending.returned (Value.bool false)) (V.setLoop w342 l327 Rc326 .done (some Code.ret)))
  (V.ptr (some (⟨K.gb, 0, none⟩ : Addr)) fun a343 =>
  ∃ A344, ∃ A344l, ∃ A344c, World.cell? (V.setLoop W329 l327 Rc326 .busy none) a343 = some (Value.slice A344 A344l A344c) ∧
  ∃ n345, World.cell? (V.setLoop W329 l327 Rc326 .busy none) ⟨Array.size (World.heap (V.setLoop W302 l300 Rc299 .busy none)), 0, none⟩ = some (Value.int .i64 n345) ∧
  V.when (decide ((0 : Int) ≤ n345 ∧ (n345 : Int) < ((A344l : Nat) : Int))) (V.ptr A344 fun a346 =>
  ∃ s347, World.cell? (V.setLoop W329 l327 Rc326 .busy none) (Addr.add (Addr.add a346 ((Int.toNat n345) * 3)) 1) = some (Value.string s347) ∧
  V.sel (!(ByteArray.toList y207_332 == ByteArray.toList s347))
  (∃ w348, Sem.run Try.prog (Instr.storeAt 4 (Value.pointer (some ⟨K.br, 0, none⟩)) (Value.bool false)) (V.setLoop W329 l327 Rc326 .busy none) = .ok () w348 ∧
  V.LoopSt w348 l327 Rc326 .busy none ∧ R330 (Ending.returned (Value.bool false)) (V.setLoop w348 l327 Rc326 .done (some Code.ret)))
  (∃ n349, World.cell? (V.setLoop W329 l327 Rc326 .busy none) ⟨Array.size (World.heap (V.setLoop W302 l300 Rc299 .busy none)), 0, none⟩ = some (Value.int .i64 n349) ∧
  ∃ w350, Sem.run Try.prog (Instr.storeAt 3 (Value.pointer (some ⟨Array.size (World.heap (V.setLoop W302 l300 Rc299 .busy none)), 0, none⟩)) (Value.int .i64 (IntKind.wrap .i64 (n349 + 1)))) (V.setLoop W329 l327 Rc326 .busy none) = .ok () w350 ∧
  ∃ n351, World.cell? w350 ⟨Array.size (World.heap (V.setLoop W302 l300 Rc299 .busy none)), 0, none⟩ = some (Value.int .i64 n351) ∧
  ∃ n352, World.cell? w350 ⟨Array.size (World.heap (V.setLoop w294 l277 Rc276 .exhausted none)), 0, none⟩ = some (Value.int .i64 n352) ∧
  V.sel (decide (n351 > n352))
  (V.LoopSt w350 l327 Rc326 .busy none ∧ R330 (Ending.returned (Value.bool false)) (V.setLoop w350 l327 Rc326 .done (some (Code.exit 14))))
  (V.LoopSt w350 l327 Rc326 .busy none ∧ R330 (Ending.returned (Value.bool true)) (V.setLoop w350 l327 Rc326 .ready none)))))))) →
  V.Yield Try.prog l327 [(Value.int .i64 y206_331), (Value.string y207_332)] W329 R330) →
  Calls Try.prog f325 ⟨Array.toList f325a ++ [(Value.func (.yield l327) #[] #[])] ++ Array.toList f325c⟩ w328 fun e353 w355 => (∃ v354, e353 = Ending.returned v354) ∧
  ((V.LoopSt w355 l327 Rc326 .ready none ∧
  ∃ n356, World.cell? (V.setLoop w355 l327 Rc326 .exhausted none) ⟨Array.size (World.heap (V.setLoop w294 l277 Rc276 .exhausted none)), 0, none⟩ = some (Value.int .i64 n356) ∧
  ∃ w357, Sem.run Try.prog (Instr.storeAt 3 (Value.pointer (some ⟨Array.size (World.heap (V.setLoop w294 l277 Rc276 .exhausted none)), 0, none⟩)) (Value.int .i64 (IntKind.wrap .i64 (n356 + 1)))) (V.setLoop w355 l327 Rc326 .exhausted none) = .ok () w357 ∧
  V.LoopSt w357 l300 Rc299 .busy none ∧ R303 (Ending.returned (Value.bool true)) (V.setLoop w357 l300 Rc299 .ready none)) ∨
  (V.LoopSt w355 l327 Rc326 .done (some Code.ret) ∧
  V.LoopSt (V.setLoop w355 l327 Rc326 .exhausted (some Code.ret)) l300 Rc299 .busy none ∧ R303 (Ending.returned (Value.bool false)) (V.setLoop (V.setLoop w355 l327 Rc326 .exhausted (some Code.ret)) l300 Rc299 .done (some Code.ret))) ∨
  (V.LoopSt w355 l327 Rc326 .done (some (Code.exit 14)) ∧
  ∃ n358, World.cell? (V.setLoop w355 l327 Rc326 .exhausted (some (Code.exit 14))) ⟨Array.size (World.heap (V.setLoop w294 l277 Rc276 .exhausted none)), 0, none⟩ = some (Value.int .i64 n358) ∧
  ∃ w359, Sem.run Try.prog (Instr.storeAt 3 (Value.pointer (some ⟨Array.size (World.heap (V.setLoop w294 l277 Rc276 .exhausted none)), 0, none⟩)) (Value.int .i64 (IntKind.wrap .i64 (n358 + 1)))) (V.setLoop w355 l327 Rc326 .exhausted (some (Code.exit 14))) = .ok () w359 ∧
  V.LoopSt w359 l300 Rc299 .busy none ∧ R303 (Ending.returned (Value.bool true)) (V.setLoop w359 l300 Rc299 .ready none)) ∨
  False)))))))) →
  V.Yield Try.prog l300 [(Value.int .i64 y181_304), (Value.string y182_305)] W302 R303) →
  Calls Try.prog f298 ⟨Array.toList f298a ++ [(Value.func (.yield l300) #[] #[])] ++ Array.toList f298c⟩ w301 fun e360 w362 => (∃ v361, e360 = Ending.returned v361) ∧
  ((V.LoopSt w362 l300 Rc299 .ready none ∧
  ∃ S363 : World → Prop, S363 (World.drew (V.setLoop w362 l300 Rc299 .exhausted none)) ∧
  ∃ n365, (∀ w364, S363 w364 → World.cell? w364 ⟨Array.size (World.heap (V.setLoop w294 l277 Rc276 .exhausted none)), 0, none⟩ = some (Value.int .i64 n365)) ∧
  V.ptr (some (⟨K.gb, 0, none⟩ : Addr)) fun a366 =>
  ∃ A367, ∃ A367l, ∃ A367c, (∀ w364, S363 w364 → World.cell? w364 a366 = some (Value.slice A367 A367l A367c)) ∧
  V.sel (n365 == ((A367l : Nat) : Int))
  (∃ A368, ∃ A368l, ∃ A368c, (∀ w364, S363 w364 → World.cell? w364 ⟨s1, 0, none⟩ = some (Value.slice A368 A368l A368c)) ∧
  V.ptr (some (⟨K.gb, 0, none⟩ : Addr)) fun a369 =>
  ∃ A370, ∃ A370l, ∃ A370c, (∀ w364, S363 w364 → World.cell? w364 a369 = some (Value.slice A370 A370l A370c)) ∧
  V.ptr (some (⟨K.gb, 0, none⟩ : Addr)) fun a371 =>
  ∃ A372, ∃ A372l, ∃ A372c, (∀ w364, S363 w364 → World.cell? w364 a371 = some (Value.slice A372 A372l A372c)) ∧
  Calls Try.prog 24 #[(Value.slice A368 A368l A368c), (Value.slice A370 A370l A370c), (Value.int .i64 ((A372l : Nat) : Int))] (World.drew (V.setLoop w362 l300 Rc299 .exhausted none)) fun e374 w375 =>
  ∃ b373, e374 = Ending.returned (Value.bool b373) ∧
  S363 w375 ∧
  V.sel b373
  (∃ A376, ∃ A376l, ∃ A376c, (∀ w364, S363 w364 → World.cell? w364 ⟨s2, 0, none⟩ = some (Value.slice A376 A376l A376c)) ∧
  V.ptr (some (⟨K.gb, 0, none⟩ : Addr)) fun a377 =>
  ∃ A378, ∃ A378l, ∃ A378c, (∀ w364, S363 w364 → World.cell? w364 a377 = some (Value.slice A378 A378l A378c)) ∧
  ∃ n379, (∀ w364, S363 w364 → World.cell? w364 ⟨K.be, 0, none⟩ = some (Value.int .i64 n379)) ∧
  Calls Try.prog 24 #[(Value.slice A376 A376l A376c), (Value.slice A378 A378l A378c), (Value.int .i64 (if n379 > 1 then n379 else 1))] w375 fun e381 w382 =>
  ∃ b380, e381 = Ending.returned (Value.bool b380) ∧
  S363 w382 ∧
  V.sel b380
  (∃ A383, ∃ A383l, ∃ A383c, (∀ w364, S363 w364 → World.cell? w364 ⟨s3, 0, none⟩ = some (Value.slice A383 A383l A383c)) ∧
  V.ptr (some (⟨K.gb, 0, none⟩ : Addr)) fun a384 =>
  ∃ A385, ∃ A385l, ∃ A385c, (∀ w364, S363 w364 → World.cell? w364 a384 = some (Value.slice A385 A385l A385c)) ∧
  V.ptr (some (⟨K.gb, 0, none⟩ : Addr)) fun a386 =>
  ∃ A387, ∃ A387l, ∃ A387c, (∀ w364, S363 w364 → World.cell? w364 a386 = some (Value.slice A387 A387l A387c)) ∧
  Calls Try.prog 24 #[(Value.slice A383 A383l A383c), (Value.slice A385 A385l A385c), (Value.int .i64 ((A387l : Nat) : Int))] w382 fun e389 w390 =>
  ∃ b388, e389 = Ending.returned (Value.bool b388) ∧
  S363 w390 ∧
  V.sel b388
  (∃ p391, (∀ w364, S363 w364 → World.cell? w364 ⟨K.bw, 0, none⟩ = some (Value.pointer p391)) ∧
  V.ptr p391 fun a392 =>
  ∃ p393, (∀ w364, S363 w364 → World.cell? w364 (Addr.add (Addr.add a392 0) 1) = some (Value.pointer p393)) ∧
  ∃ p394, (∀ w364, S363 w364 → World.cell? w364 ⟨K.bw, 0, none⟩ = some (Value.pointer p394)) ∧
  V.ptr p394 fun a395 =>
  ∃ n396, ∃ A397, ∃ A397l, ∃ A397c, V.cellsC (fun a_ x_ => ∀ w364, S363 w364 → World.cell? w364 a_ = some x_) (Addr.add (Addr.add a395 4) 2) [(Value.int .i64 n396), (Value.slice A397 A397l A397c)] ∧
  Calls Try.prog 21 #[(Value.pointer p393), (Value.agg #[(Value.int .i64 n396), (Value.slice A397 A397l A397c)])] w390 fun e399 w400 =>
  ∃ b398, e399 = Ending.returned (Value.bool b398) ∧
  S363 w400 ∧
  ∃ w401, Sem.run Try.prog (Instr.storeAt 4 (Value.pointer (some ⟨K.br, 0, none⟩)) (Value.bool b398)) w400 = .ok () w401 ∧
  V.closeR (Array.size (World.heap w296) :: (Array.size (World.heap w240) :: (d2 :: (d1 :: [])))) w401 fun w402 =>
  ∃ b403, World.cell? w402 ⟨K.br, 0, none⟩ = some (Value.bool b403) ∧
  R (Ending.returned (Value.bool b403)) w402)
  (∃ w404, Sem.run Try.prog (Instr.storeAt 4 (Value.pointer (some ⟨K.br, 0, none⟩)) (Value.bool false)) w390 = .ok () w404 ∧
  V.closeR (Array.size (World.heap w296) :: (Array.size (World.heap w240) :: (d2 :: (d1 :: [])))) w404 fun w405 =>
  ∃ b406, World.cell? w405 ⟨K.br, 0, none⟩ = some (Value.bool b406) ∧
  R (Ending.returned (Value.bool b406)) w405))
  (∃ w407, Sem.run Try.prog (Instr.storeAt 4 (Value.pointer (some ⟨K.br, 0, none⟩)) (Value.bool false)) w382 = .ok () w407 ∧
  V.closeR (Array.size (World.heap w296) :: (Array.size (World.heap w240) :: (d2 :: (d1 :: [])))) w407 fun w408 =>
  ∃ b409, World.cell? w408 ⟨K.br, 0, none⟩ = some (Value.bool b409) ∧
  R (Ending.returned (Value.bool b409)) w408))
  (∃ w410, Sem.run Try.prog (Instr.storeAt 4 (Value.pointer (some ⟨K.br, 0, none⟩)) (Value.bool false)) w375 = .ok () w410 ∧
  V.closeR (Array.size (World.heap w296) :: (Array.size (World.heap w240) :: (d2 :: (d1 :: [])))) w410 fun w411 =>
  ∃ b412, World.cell? w411 ⟨K.br, 0, none⟩ = some (Value.bool b412) ∧
  R (Ending.returned (Value.bool b412)) w411))
  (∃ w413, Sem.run Try.prog (Instr.storeAt 4 (Value.pointer (some ⟨K.br, 0, none⟩)) (Value.bool false)) (World.drew (V.setLoop w362 l300 Rc299 .exhausted none)) = .ok () w413 ∧
  V.closeR (Array.size (World.heap w296) :: (Array.size (World.heap w240) :: (d2 :: (d1 :: [])))) w413 fun w414 =>
  ∃ b415, World.cell? w414 ⟨K.br, 0, none⟩ = some (Value.bool b415) ∧
  R (Ending.returned (Value.bool b415)) w414)) ∨
  (V.LoopSt w362 l300 Rc299 .done (some Code.ret) ∧
  V.closeR (Array.size (World.heap w296) :: (Array.size (World.heap w240) :: (d2 :: (d1 :: [])))) (V.setLoop w362 l300 Rc299 .exhausted (some Code.ret)) fun w416 =>
  ∃ b417, World.cell? w416 ⟨K.br, 0, none⟩ = some (Value.bool b417) ∧
  R (Ending.returned (Value.bool b417)) w416) ∨
  False))) ∨
  (V.LoopSt w294 l277 Rc276 .done (some Code.ret) ∧
  V.closeR (Array.size (World.heap w240) :: (d2 :: (d1 :: []))) (V.setLoop w294 l277 Rc276 .exhausted (some Code.ret)) fun w418 =>
  ∃ b419, World.cell? w418 ⟨K.br, 0, none⟩ = some (Value.bool b419) ∧
  R (Ending.returned (Value.bool b419)) w418) ∨
  False)))) := by
  have hn2 := hw.ops.2.2
  refine ⟨fun w' => ∃ a, Wv w0 K w' Z a ∧ Fix w0.heap.size Z1 wA w', muC K, ⟨a0, h, Fix.refl _ _ _⟩, ?_⟩
  rintro _ w240 ⟨a, hv, fx⟩
  have hct := hv.ct.cell (i := 0) rfl
  have ho := hw.ops.ext0 hv.e
  refine ⟨_, hct, _, _, _, hv.s.a.cell (i := 0) rfl, sel_dec (fun hlt => ?_) (fun hge => loop4_c hw hv (ly.fix fx) (fun b hb => (hZ1 b hb).1) k)⟩
  obtain ⟨o, ad, hoo, hA, ro⟩ := ho.read (a := a) (by omega)
  refine ⟨_, _, _, hv.s.a.cell (i := 0) rfl, _, hct, when_dec ⟨by omega, by omega⟩ (ptr_of hA ⟨_, _, _, _, _, ro, fun w251 h251 => ?_⟩)⟩
  obtain ⟨w252, hr252, b252, e252⟩ := op_box (o := o) h251
  obtain ⟨w253, hr253, b253, x253⟩ := store1a (P := Try.prog) (v := .int .i64 1) i3s b252 (i := 1) (by simp [Op.cells]) rfl rfl
  have e253 : Ext [] w240 w253 := e252.newer x253 (fun b hb => by rw [List.mem_singleton.1 hb]; exact Nat.le_refl _)
  have b253 : BlkT w253 w240.heap.size ({ o with at_ := 1 } : Op).cells 31 := b253
  have hv253 := hv.turn e253 (by simp) (fun b hb => .inl hb) hv.zc hv.cz
  have f253 : Fix w0.heap.size Z1 wA w253 := fx.trans (Fix.new hv.e e253)
  have inc : ∀ w264, Wv w0 K w264 Z a → Fix w0.heap.size Z1 wA w264 → ∃ n268, World.cell? w264 ⟨K.ct, 0, none⟩ = some (.int .i64 n268) ∧ ∃ w269, Sem.run Try.prog (Instr.storeAt 3 (.pointer (some ⟨K.ct, 0, none⟩)) (.int .i64 (IntKind.wrap .i64 (n268 + 1)))) w264 = .ok () w269 ∧ (∃ a, Wv w0 K w269 Z a ∧ Fix w0.heap.size Z1 wA w269) ∧ muC K w269 < muC K w240 := fun w264 hv264 f264 => by
    refine ⟨_, hv264.ct.cell (i := 0) rfl, ?_⟩
    rw [up64 a (by omega)]
    obtain ⟨w269, hr269, b269, x269⟩ := store1 (P := Try.prog) (v := .int .i64 ((a + 1 : Nat) : Int)) i3s hv264.ct (i := 0) (by simp) rfl rfl
    have hz := hv264.t.z
    refine ⟨w269, hr269, ⟨a + 1, hv264.inc hw (by omega) x269 b269, f264.trans (Fix.of x269 (fun b hb hm => (hZ1 b hb).2 (List.mem_singleton.1 hm)) fun b hb => ?_)⟩, ?_⟩
    · rw [List.mem_singleton.1 hb]; exact (hz _ hv264.cz).1
    · rw [muC_at hv.ct, muC_at (a := a + 1) b269]; omega
  exact ⟨w252, hr252, w253, hr253, _, cadd b253 (i := 0) rfl, sel_dec (fun h2 => ⟨_, cadd b253 (i := 0) rfl, sel_dec (fun h4 => ⟨_, hv253.s.bx.cell (i := 0) rfl, _, _, _, _, _, cadd0 b253, hv253.step { o with at_ := 1 } fun w264 f264 hv264 => ⟨_, rfl, sel_false rfl (inc w264 hv264 (f253.trans (f264.less fun b hb => (hZ1 b hb).1)))⟩⟩) (fun _ => inc w253 hv253 f253)⟩) (fun _ => inc w253 hv253 f253)⟩
end
end Go.Proofs.Ytcampkaenlohbaa
