/- Whatever names and detour come in, berthlaw05.SlotsBlind returns true and leaves what came in as it was; no condition. -/
import Derived.Test.YtcampkaenlohbaaK21
import Derived.Test.YtcampkaenlohbaaRows
set_option linter.unusedVariables false
set_option linter.unusedSimpArgs false
namespace Go.Proofs.Ytcampkaenlohbaa
open Go Go.V Go.B
open Go.ChangeShapes Go.WideShapes Go.ChangeAt Go.RowKit

theorem own : ownKnob Try.prog.godebug = none := by kernel_rfl
theorem laidOut : laidOutB Try.prog = true := by kernel_rfl
/-- Two tables of the call's own. -/
structure Two (w0 w : World) (pa : Nat) (fa : List Nat) (sa : TS) (pb : Nat) (fb : List Nat) (sb : TS) : Prop where
  e : Ext [] w0 w
  a : At w 0 pa fa sa
  b : At w 0 pb fb sb
  ha : ∀ g ∈ fa, w0.heap.size ≤ g
  hb : ∀ g ∈ fb, w0.heap.size ≤ g
  dis : ∀ g ∈ fa, g ∉ fb
namespace Two
variable {w0 w w' : World} {pa pb : Nat} {fa fb : List Nat} {sa sb : TS}
theorem step (h : Two w0 w pa fa sa pb fb sb) (e : Ext [] w w') : Two w0 w' pa fa sa pb fb sb := ⟨h.e.trans e, h.a.ext0 e, h.b.ext0 e, h.ha, h.hb, h.dis⟩
theorem turnA {fa' : List Nat} {sa' : TS} (h : Two w0 w pa fa sa pb fb sb) (q : At w' 0 pa fa' sa') (e : Ext fa w w') (g : Grow w fa fa') : Two w0 w' pa fa' sa' pb fb sb :=
  ⟨h.e.old h.ha e, q, h.b.ext e (fun x hx hm => h.dis x hm hx), Grow.old h.e h.ha g, h.hb, g.apart h.b.lt h.dis⟩
theorem turnB {fb' : List Nat} {sb' : TS} (h : Two w0 w pa fa sa pb fb sb) (q : At w' 0 pb fb' sb') (e : Ext fb w w') (g : Grow w fb fb') : Two w0 w' pa fa sa pb fb' sb' :=
  ⟨h.e.old h.hb e, h.a.ext e h.dis, q, h.ha, Grow.old h.e h.hb g, fun x hx hm => g.apart h.a.lt (fun y hy hy' => h.dis y hy' hy) x hm hx⟩
end Two
theorem tbl_small {s : TS} (h : s.ok) {l : List ByteArray} (hx : ∀ n, (tell s n).isSome = true → n ∈ l) : s.m.length ≤ l.length := by
  rw [← names_len h]
  exact nodup_le (names_nodup h) fun n hn => hx n ((mem_names h n).1 hn)
theorem text_at {w : World} {A : Option Addr} {xs : List ByteArray} {n : Nat} (h : Cells w A (SL.flat xs)) (hl : xs.length = n) {a : Nat} (ha : a < n) : ∃ x ad, xs[a]? = some x ∧ A = some ad ∧ w.cell? (Addr.add ad (Int.toNat (a : Int) * 1)) = some (.string x) := by
  obtain ⟨x, ad, hx, hA, rd⟩ := h.row hl ha
  have := rd 0 _ rfl
  rw [Addr.add_zero'] at this
  exact ⟨x, ad, hx, hA, this⟩
set_option maxRecDepth 4000 in
theorem blind_tail {w0 w : World} {pa pb : Nat} {fa fb : List Nat} {sa sb : TS} (h : Two w0 w pa fa sa pb fb sb) (sa0 : sa = ⟨600, [], [], 0⟩) (sb0 : sb = ⟨600, [], [], 0⟩) {NA DA : Option Addr} {nn dn : Nat} {xs ds : List ByteArray} (hx : Cells w0 NA (SL.flat xs)) (hxl : xs.length = nn) (hxn : nn ≤ 250) (hy : Cells w0 DA (SL.flat ds)) (hyl : ds.length = dn) (hyn : dn ≤ 250)
    {R : Ending → World → Prop} (k : ∀ w', Ext [] w0 w' → R (.returned (.bool true)) w') :
    ∃ I392 : Int → World → Prop, ∃ μ393 : Int → World → Nat, I392 0 w ∧
  ∀ t71_394 (j395 : Nat → Value) (w396 : World), I392 t71_394 w396 →
  (V.sel (decide (t71_394 < ((nn : Nat) : Int)))
  (V.when (decide ((0 : Int) ≤ t71_394 ∧ (t71_394 : Int) < ((nn : Nat) : Int))) (V.ptr NA fun a397 =>
  ∃ s398, World.cell? w396 (Addr.add a397 ((Int.toNat t71_394) * 1)) = some (Value.string s398) ∧
  Calls Try.prog 11 #[(Value.pointer (some (⟨pa, 0, none⟩ : Addr))), (Value.string s398), (Value.int .i64 t71_394)] w396 fun e401 w402 =>
  ∃ n399, ∃ n400, e401 = Ending.returned (Value.tuple #[(Value.int .i64 n399), (Value.int .i64 n400)]) ∧
  I392 (IntKind.wrap .i64 (t71_394 + 1)) w402 ∧ μ393 (IntKind.wrap .i64 (t71_394 + 1)) w402 < μ393 t71_394 w396))
  (∃ I403 : Int → World → Prop, ∃ μ404 : Int → World → Nat, I403 0 w396 ∧
  ∀ t83_405 (j406 : Nat → Value) (w407 : World), I403 t83_405 w407 →
  (V.sel (decide (t83_405 < ((dn : Nat) : Int)))
  (V.when (decide ((0 : Int) ≤ t83_405 ∧ (t83_405 : Int) < ((dn : Nat) : Int))) (V.ptr DA fun a408 =>
  ∃ s409, World.cell? w407 (Addr.add a408 ((Int.toNat t83_405) * 1)) = some (Value.string s409) ∧
  Calls Try.prog 11 #[(Value.pointer (some (⟨pb, 0, none⟩ : Addr))), (Value.string s409), (Value.int .i64 (-1))] w407 fun e412 w413 =>
  ∃ n410, ∃ n411, e412 = Ending.returned (Value.tuple #[(Value.int .i64 n410), (Value.int .i64 n411)]) ∧
  I403 (IntKind.wrap .i64 (t83_405 + 1)) w413 ∧ μ404 (IntKind.wrap .i64 (t83_405 + 1)) w413 < μ404 t83_405 w407))
  (∃ I414 : Int → World → Prop, ∃ μ415 : Int → World → Nat, I414 0 w407 ∧
  ∀ t93_416 (j417 : Nat → Value) (w418 : World), I414 t93_416 w418 →
  (V.sel (decide (t93_416 < ((nn : Nat) : Int)))
  (V.when (decide ((0 : Int) ≤ (IntKind.wrap .i64 ((IntKind.wrap .i64 (((nn : Nat) : Int) - 1)) - t93_416)) ∧ ((IntKind.wrap .i64 ((IntKind.wrap .i64 (((nn : Nat) : Int) - 1)) - t93_416)) : Int) < ((nn : Nat) : Int))) (V.ptr NA fun a419 =>
  ∃ s420, World.cell? w418 (Addr.add a419 ((Int.toNat (IntKind.wrap .i64 ((IntKind.wrap .i64 (((nn : Nat) : Int) - 1)) - t93_416))) * 1)) = some (Value.string s420) ∧
  Calls Try.prog 11 #[(Value.pointer (some (⟨pb, 0, none⟩ : Addr))), (Value.string s420), (Value.int .i64 (-2))] w418 fun e423 w424 =>
  ∃ n421, ∃ n422, e423 = Ending.returned (Value.tuple #[(Value.int .i64 n421), (Value.int .i64 n422)]) ∧
  I414 (IntKind.wrap .i64 (t93_416 + 1)) w424 ∧ μ415 (IntKind.wrap .i64 (t93_416 + 1)) w424 < μ415 t93_416 w418))
  (∃ I425 : Int → World → Prop, ∃ μ426 : Int → World → Nat, I425 0 w418 ∧
  ∀ t109_427 (j428 : Nat → Value) (w429 : World), I425 t109_427 w429 →
  (V.sel (decide (t109_427 < ((dn : Nat) : Int)))
  (V.when (decide ((0 : Int) ≤ t109_427 ∧ (t109_427 : Int) < ((dn : Nat) : Int))) (V.ptr DA fun a430 =>
  ∃ s431, World.cell? w429 (Addr.add a430 ((Int.toNat t109_427) * 1)) = some (Value.string s431) ∧
  Calls Try.prog 13 #[(Value.pointer (some (⟨pb, 0, none⟩ : Addr))), (Value.string s431)] w429 fun e434 w435 =>
  ∃ n432, ∃ n433, e434 = Ending.returned (Value.tuple #[(Value.int .i64 n432), (Value.int .i64 n433)]) ∧
  I425 (IntKind.wrap .i64 (t109_427 + 1)) w435 ∧ μ426 (IntKind.wrap .i64 (t109_427 + 1)) w435 < μ426 t109_427 w429))
  (∃ I436 : Int → World → Prop, ∃ μ437 : Int → World → Nat, I436 0 w429 ∧
  ∀ t119_438 (j439 : Nat → Value) (w440 : World), I436 t119_438 w440 →
  (V.sel (decide (t119_438 < ((nn : Nat) : Int)))
  (V.when (decide ((0 : Int) ≤ t119_438 ∧ (t119_438 : Int) < ((nn : Nat) : Int))) (V.ptr NA fun a441 =>
  ∃ s442, World.cell? w440 (Addr.add a441 ((Int.toNat t119_438) * 1)) = some (Value.string s442) ∧
  Calls Try.prog 15 #[(Value.pointer (some (⟨pa, 0, none⟩ : Addr))), (Value.string s442)] w440 fun e446 w447 =>
  ∃ n443, ∃ n444, ∃ b445, e446 = Ending.returned (Value.tuple #[(Value.int .i64 n443), (Value.int .i64 n444), (Value.bool b445)]) ∧
  V.sel (decide (((ByteArray.size s442 : Nat) : Int) ≥ 1))
  (V.sel (!(b445 == (decide (((ByteArray.size s442 : Nat) : Int) ≤ 63))))
  (R (Ending.returned (Value.bool false)) w447)
  (V.sel (!b445)
  (I436 (IntKind.wrap .i64 (t119_438 + 1)) w447 ∧ μ437 (IntKind.wrap .i64 (t119_438 + 1)) w447 < μ437 t119_438 w440)
  (V.sel (decide (n444 > t119_438))
  (R (Ending.returned (Value.bool false)) w447)
  (Calls Try.prog 15 #[(Value.pointer (some (⟨pb, 0, none⟩ : Addr))), (Value.string s442)] w447 fun e451 w452 =>
  ∃ n448, ∃ n449, ∃ b450, e451 = Ending.returned (Value.tuple #[(Value.int .i64 n448), (Value.int .i64 n449), (Value.bool b450)]) ∧
  V.sel (!b450)
  (Calls Try.prog 11 #[(Value.pointer (some (⟨pb, 0, none⟩ : Addr))), (Value.string s442), (Value.int .i64 (-3))] w452 fun e455 w456 =>
  ∃ n453, ∃ n454, e455 = Ending.returned (Value.tuple #[(Value.int .i64 n453), (Value.int .i64 n454)]) ∧
  Calls Try.prog 12 #[(Value.pointer (some (⟨pb, 0, none⟩ : Addr))), (Value.string s442), (Value.int .i64 n444)] w456 fun e458 w459 =>
  ∃ n457, e458 = Ending.returned (Value.int .i64 n457) ∧
  V.sel (n457 != 0)
  (R (Ending.returned (Value.bool false)) w459)
  (I436 (IntKind.wrap .i64 (t119_438 + 1)) w459 ∧ μ437 (IntKind.wrap .i64 (t119_438 + 1)) w459 < μ437 t119_438 w440))
  (Calls Try.prog 12 #[(Value.pointer (some (⟨pb, 0, none⟩ : Addr))), (Value.string s442), (Value.int .i64 n444)] w452 fun e461 w462 =>
  ∃ n460, e461 = Ending.returned (Value.int .i64 n460) ∧
  V.sel (n460 != 0)
  (R (Ending.returned (Value.bool false)) w462)
  (I436 (IntKind.wrap .i64 (t119_438 + 1)) w462 ∧ μ437 (IntKind.wrap .i64 (t119_438 + 1)) w462 < μ437 t119_438 w440))))))
  (V.sel (!(b445 == false))
  (R (Ending.returned (Value.bool false)) w447)
  (V.sel (!b445)
  (I436 (IntKind.wrap .i64 (t119_438 + 1)) w447 ∧ μ437 (IntKind.wrap .i64 (t119_438 + 1)) w447 < μ437 t119_438 w440)
  (V.sel (decide (n444 > t119_438))
  (R (Ending.returned (Value.bool false)) w447)
  (Calls Try.prog 15 #[(Value.pointer (some (⟨pb, 0, none⟩ : Addr))), (Value.string s442)] w447 fun e466 w467 =>
  ∃ n463, ∃ n464, ∃ b465, e466 = Ending.returned (Value.tuple #[(Value.int .i64 n463), (Value.int .i64 n464), (Value.bool b465)]) ∧
  V.sel (!b465)
  (Calls Try.prog 11 #[(Value.pointer (some (⟨pb, 0, none⟩ : Addr))), (Value.string s442), (Value.int .i64 (-3))] w467 fun e470 w471 =>
  ∃ n468, ∃ n469, e470 = Ending.returned (Value.tuple #[(Value.int .i64 n468), (Value.int .i64 n469)]) ∧
  Calls Try.prog 12 #[(Value.pointer (some (⟨pb, 0, none⟩ : Addr))), (Value.string s442), (Value.int .i64 n444)] w471 fun e473 w474 =>
  ∃ n472, e473 = Ending.returned (Value.int .i64 n472) ∧
  V.sel (n472 != 0)
  (R (Ending.returned (Value.bool false)) w474)
  (I436 (IntKind.wrap .i64 (t119_438 + 1)) w474 ∧ μ437 (IntKind.wrap .i64 (t119_438 + 1)) w474 < μ437 t119_438 w440))
  (Calls Try.prog 12 #[(Value.pointer (some (⟨pb, 0, none⟩ : Addr))), (Value.string s442), (Value.int .i64 n444)] w467 fun e476 w477 =>
  ∃ n475, e476 = Ending.returned (Value.int .i64 n475) ∧
  V.sel (n475 != 0)
  (R (Ending.returned (Value.bool false)) w477)
  (I436 (IntKind.wrap .i64 (t119_438 + 1)) w477 ∧ μ437 (IntKind.wrap .i64 (t119_438 + 1)) w477 < μ437 t119_438 w440))))))))
  (Calls Try.prog 17 #[(Value.pointer (some (⟨pa, 0, none⟩ : Addr)))] w440 fun e479 w480 =>
  ∃ A478, ∃ A478l, ∃ A478c, e479 = Ending.returned (Value.slice A478 A478l A478c) ∧
  Calls Try.prog 17 #[(Value.pointer (some (⟨pb, 0, none⟩ : Addr)))] w480 fun e482 w483 =>
  ∃ A481, ∃ A481l, ∃ A481c, e482 = Ending.returned (Value.slice A481 A481l A481c) ∧
  Calls Try.prog 16 #[(Value.slice A478 A478l A478c), (Value.slice A481 A481l A481c)] w483 fun e485 w486 =>
  ∃ b484, e485 = Ending.returned (Value.bool b484) ∧
  V.sel (!b484)
  (R (Ending.returned (Value.bool false)) w486)
  (Calls Try.prog 14 #[(Value.pointer (some (⟨pa, 0, none⟩ : Addr)))] w486 fun e488 w489 =>
  ∃ n487, e488 = Ending.returned (Value.int .i64 n487) ∧
  Calls Try.prog 14 #[(Value.pointer (some (⟨pb, 0, none⟩ : Addr)))] w489 fun e491 w492 =>
  ∃ n490, e491 = Ending.returned (Value.int .i64 n490) ∧
  V.sel (n487 != n490)
  (R (Ending.returned (Value.bool false)) w492)
  (Calls Try.prog 17 #[(Value.pointer (some (⟨pa, 0, none⟩ : Addr)))] w492 fun e494 w495 =>
  ∃ A493, ∃ A493l, ∃ A493c, e494 = Ending.returned (Value.slice A493 A493l A493c) ∧
  ∃ I496 : Int → World → Prop, ∃ μ497 : Int → World → Nat, I496 0 w495 ∧
  ∀ t180_498 (j499 : Nat → Value) (w500 : World), I496 t180_498 w500 →
  (V.sel (decide (t180_498 < ((A493l : Nat) : Int)))
  (V.when (decide ((0 : Int) ≤ t180_498 ∧ (t180_498 : Int) < ((A493l : Nat) : Int))) (V.ptr A493 fun a501 =>
  ∃ s502, World.cell? w500 (Addr.add a501 ((Int.toNat t180_498) * 1)) = some (Value.string s502) ∧
  Calls Try.prog 15 #[(Value.pointer (some (⟨pa, 0, none⟩ : Addr))), (Value.string s502)] w500 fun e506 w507 =>
  ∃ n503, ∃ n504, ∃ b505, e506 = Ending.returned (Value.tuple #[(Value.int .i64 n503), (Value.int .i64 n504), (Value.bool b505)]) ∧
  Calls Try.prog 15 #[(Value.pointer (some (⟨pb, 0, none⟩ : Addr))), (Value.string s502)] w507 fun e511 w512 =>
  ∃ n508, ∃ n509, ∃ b510, e511 = Ending.returned (Value.tuple #[(Value.int .i64 n508), (Value.int .i64 n509), (Value.bool b510)]) ∧
  Calls Try.prog 18 #[(Value.pointer (some (⟨pb, 0, none⟩ : Addr))), (Value.int .i64 n508)] w512 fun e516 w517 =>
  ∃ s513, ∃ n514, ∃ b515, e516 = Ending.returned (Value.tuple #[(Value.string s513), (Value.int .i64 n514), (Value.bool b515)]) ∧
  V.sel (!b505)
  (R (Ending.returned (Value.bool false)) w517)
  (V.sel (!b510)
  (R (Ending.returned (Value.bool false)) w517)
  (V.sel (!b515)
  (R (Ending.returned (Value.bool false)) w517)
  (V.sel (n504 != n509)
  (R (Ending.returned (Value.bool false)) w517)
  (V.sel (!(ByteArray.toList s513 == ByteArray.toList s502))
  (R (Ending.returned (Value.bool false)) w517)
  (V.sel (n514 != n504)
  (R (Ending.returned (Value.bool false)) w517)
  (I496 (IntKind.wrap .i64 (t180_498 + 1)) w517 ∧ μ497 (IntKind.wrap .i64 (t180_498 + 1)) w517 < μ497 t180_498 w500))))))))
  (R (Ending.returned (Value.bool true)) w500)))))))))))))) := by
  have t0 : ∀ n, tell ⟨600, [], [], 0⟩ n = none := fun n => by
    unfold tell
    have : findV ⟨600, [], [], 0⟩ n = (0, 0, false) := by
      unfold findV
      rw [if_neg]
      unfold lookV
      split
      · decide
      · simp [mget]
    rw [this]; rfl
  -- the first table
  refine ⟨fun t w' => ∃ a : Nat, t = a ∧ a ≤ nn ∧ ∃ fa sa, Two w0 w' pa fa sa pb fb sb ∧ sa.most = 600 ∧ (∀ n v, tell sa n = some v → n ∈ xs ∧ v < (a : Int)) ∧ (∀ (i : Nat) n, i < a → xs[i]? = some n → ¬ badN n → ∃ v, tell sa n = some v ∧ v ≤ (i : Int)), fun t _ => nn - t.toNat, ⟨0, rfl, by omega, fa, sa, h, by rw [sa0], fun n v e => (by rw [sa0, t0] at e; cases e), fun i n hi => by omega⟩, ?_⟩
  rintro _ _ w1 ⟨a, rfl, ha, fa1, sa1, h1, hm1, p1, q1⟩
  refine sel_dec (fun hlt => ?_) (fun hge => ?_)
  · obtain ⟨x, ad, hxx, rfl, hc⟩ := text_at (hx.ext0 h1.e) hxl (a := a) (by omega)
    refine when_dec ⟨by omega, by omega⟩ (ptr_in ⟨x, hc, Put_c h1.a x (a : Int) fun w2 fa2 q2 e2 g2 => ⟨_, _, rfl, ?_⟩⟩)
    have h2 := h1.turnA q2 e2 g2
    have hok := h1.a.inv
    have hok2 := q2.inv
    have hsm : sa1.m.length ≤ 250 := by
      have := tbl_small hok (l := xs) fun n hn => by
        cases e : tell sa1 n with
        | none => rw [e] at hn; cases hn
        | some v => exact (p1 n v e).1
      omega
    rw [up64 a (by omega)]
    refine ⟨⟨a + 1, rfl, by omega, fa2, _, h2, by rw [putV_most]; exact hm1, fun n v e => ?_, fun i n hi hxi hgood => ?_⟩, by simp only [Int.toNat_natCast]; omega⟩
    · rw [tell_put hok hok2] at e
      split at e
      · rename_i hc
        cases e
        exact ⟨hc.1 ▸ List.mem_of_getElem? hxx, by omega⟩
      · have := p1 n v e
        exact ⟨this.1, by omega⟩
    · rw [tell_put hok hok2]
      by_cases hc : n = x ∧ ¬ badN x ∧ tell sa1 x = none ∧ sa1.m.length < sa1.most
      · rw [if_pos hc]
        refine ⟨_, rfl, ?_⟩
        rcases Nat.lt_or_ge i a with h3 | h3
        · obtain ⟨v, hv, _⟩ := q1 i n h3 hxi hgood
          rw [hc.1, hc.2.2.1] at hv; cases hv
        · omega
      · rw [if_neg hc]
        rcases Nat.lt_or_ge i a with h3 | h3
        · exact q1 i n h3 hxi hgood
        · have : i = a := by omega
          subst this
          rw [hxx] at hxi
          cases hxi
          cases ht : tell sa1 x with
          | none => exact absurd ⟨rfl, hgood, ht, by omega⟩ hc
          | some v => exact ⟨v, rfl, by have := (p1 x v ht).2; omega⟩
  have ha : a = nn := by omega
  subst ha
  -- the detour in
  refine ⟨fun t w' => ∃ j : Nat, t = j ∧ j ≤ dn ∧ ∃ fb sb, Two w0 w' pa fa1 sa1 pb fb sb ∧ sb.most = 600 ∧ (∀ n, (tell sb n).isSome = true → n ∈ ds), fun t _ => dn - t.toNat, ⟨0, rfl, by omega, fb, sb, h1, by rw [sb0], fun n e => (by rw [sb0, t0] at e; cases e)⟩, ?_⟩
  rintro _ _ w2 ⟨j, rfl, hj, fb2, sb2, h2, hm2, p2⟩
  refine sel_dec (fun hlt => ?_) (fun hge => ?_)
  · obtain ⟨x, ad, hxx, rfl, hc⟩ := text_at (hy.ext0 h2.e) hyl (a := j) (by omega)
    refine when_dec ⟨by omega, by omega⟩ (ptr_in ⟨x, hc, Put_c h2.b x (-1) fun w3 fb3 q3 e3 g3 => ⟨_, _, rfl, ?_⟩⟩)
    rw [up64 j (by omega)]
    refine ⟨⟨j + 1, rfl, by omega, fb3, _, h2.turnB q3 e3 g3, by rw [putV_most]; exact hm2, fun n e => ?_⟩, by simp only [Int.toNat_natCast]; omega⟩
    rw [tell_put h2.b.inv q3.inv] at e
    split at e
    · rename_i hc; rw [hc.1]; exact List.mem_of_getElem? hxx
    · exact p2 n e
  -- the names, from the last on
  refine ⟨fun t w' => ∃ j : Nat, t = j ∧ j ≤ a ∧ ∃ fb sb, Two w0 w' pa fa1 sa1 pb fb sb ∧ sb.most = 600 ∧ (∀ n, (tell sb n).isSome = true → n ∈ ds ∨ n ∈ xs), fun t _ => a - t.toNat, ⟨0, rfl, by omega, fb2, sb2, h2, hm2, fun n e => .inl (p2 n e)⟩, ?_⟩
  rintro _ _ w3 ⟨i, rfl, hi, fb3, sb3, h3, hm3, p3⟩
  refine sel_dec (fun hlt => ?_) (fun hge => ?_)
  · have hidx : IntKind.wrap .i64 (IntKind.wrap .i64 ((a : Int) - 1) - (i : Int)) = ((a - 1 - i : Nat) : Int) := by rw [w64 (x := (a : Int) - 1) (by omega) (by omega), w64 (by omega) (by omega)]; omega
    rw [hidx]
    obtain ⟨x, ad, hxx, rfl, hc⟩ := text_at (hx.ext0 h3.e) hxl (a := a - 1 - i) (by omega)
    refine when_dec ⟨by omega, by omega⟩ (ptr_in ⟨x, hc, Put_c h3.b x (-2) fun w4 fb4 q4 e4 g4 => ⟨_, _, rfl, ?_⟩⟩)
    rw [up64 i (by omega)]
    refine ⟨⟨i + 1, rfl, by omega, fb4, _, h3.turnB q4 e4 g4, by rw [putV_most]; exact hm3, fun n e => ?_⟩, by simp only [Int.toNat_natCast]; omega⟩
    rw [tell_put h3.b.inv q4.inv] at e
    split at e
    · rename_i hc; rw [hc.1]; exact .inr (List.mem_of_getElem? hxx)
    · exact p3 n e
  -- the detour out
  refine ⟨fun t w' => ∃ j : Nat, t = j ∧ j ≤ dn ∧ ∃ fb sb, Two w0 w' pa fa1 sa1 pb fb sb ∧ sb.most = 600 ∧ (∀ n, (tell sb n).isSome = true → (n ∈ ds ∨ n ∈ xs) ∧ n ∉ ds.take j), fun t _ => dn - t.toNat, ⟨0, rfl, by omega, fb3, sb3, h3, hm3, fun n e => ⟨p3 n e, by simp⟩⟩, ?_⟩
  rintro _ _ w4 ⟨j2, rfl, hj2, fb4, sb4, h4, hm4, p4⟩
  refine sel_dec (fun hlt => ?_) (fun hge => ?_)
  · obtain ⟨x, ad, hxx, rfl, hc⟩ := text_at (hy.ext0 h4.e) hyl (a := j2) (by omega)
    refine when_dec ⟨by omega, by omega⟩ (ptr_in ⟨x, hc, Drop_c h4.b x fun w5 q5 e5 => ⟨_, _, rfl, ?_⟩⟩)
    rw [up64 j2 (by omega)]
    refine ⟨⟨j2 + 1, rfl, by omega, fb4, _, h4.turnB q5 e5 (Grow.refl _ _), by rw [dropV_most]; exact hm4, fun n e => ?_⟩, by simp only [Int.toNat_natCast]; omega⟩
    rw [tell_drop h4.b.inv q5.inv] at e
    split at e
    · cases e
    · rename_i hne
      have := p4 n e
      refine ⟨this.1, ?_⟩
      rw [snoc_at hxx, List.mem_append]
      rintro (h | h)
      · exact this.2 h
      · exact hne (by simpa using h)
  have hj2 : j2 = dn := by omega
  subst hj2
  rw [List.take_of_length_le (by omega)] at p4
  have p4' : ∀ n, (tell sb4 n).isSome = true → n ∈ xs := fun n e => (p4 n e).1.resolve_left (p4 n e).2
  have oka := h4.a.inv
  -- name by name
  refine ⟨fun t w' => ∃ j : Nat, t = j ∧ j ≤ a ∧ ∃ fb sb, Two w0 w' pa fa1 sa1 pb fb sb ∧ sb.most = 600 ∧ (∀ n, (tell sb n).isSome = true → n ∈ xs) ∧ (∀ (i : Nat) n, i < j → xs[i]? = some n → ¬ badN n → tell sb n = tell sa1 n), fun t _ => a - t.toNat, ⟨0, rfl, by omega, fb4, sb4, h4, hm4, p4', fun i n hi => by omega⟩, ?_⟩
  rintro _ _ w5 ⟨m, rfl, hm, fb5, sb5, h5, hm5, p5, q5⟩
  have okb := h5.b.inv
  refine sel_dec (fun hlt => ?_) (fun hge => ?_)
  · obtain ⟨x, ad, hxx, rfl, hc⟩ := text_at (hx.ext0 h5.e) hxl (a := m) (by omega)
    refine when_dec ⟨by omega, by omega⟩ (ptr_in ⟨x, hc, Find_c h5.a x fun w6 e6 => ⟨_, _, _, rfl, ?_⟩⟩)
    have h6 := h5.step e6
    have fA := tell_found oka x
    -- what a turn of the second table must come to
    have fin : ∀ {w' fb' sb'}, Two w0 w' pa fa1 sa1 pb fb' sb' → sb'.most = 600 → (∀ n, (tell sb' n).isSome = true → n ∈ xs) → (∀ (i : Nat) n, i < m + 1 → xs[i]? = some n → ¬ badN n → tell sb' n = tell sa1 n) →
        (∃ j : Nat, IntKind.wrap .i64 ((m : Int) + 1) = j ∧ j ≤ a ∧ ∃ fb sb, Two w0 w' pa fa1 sa1 pb fb sb ∧ sb.most = 600 ∧ (∀ n, (tell sb n).isSome = true → n ∈ xs) ∧ (∀ (i : Nat) n, i < j → xs[i]? = some n → ¬ badN n → tell sb n = tell sa1 n)) ∧ a - (IntKind.wrap .i64 ((m : Int) + 1)).toNat < a - (m : Int).toNat := fun g1 g2 g3 g4 => by
      rw [up64 m (by omega)]
      exact ⟨⟨m + 1, rfl, by omega, _, _, g1, g2, g3, g4⟩, by simp only [Int.toNat_natCast]; omega⟩
    have skip : badN x → (∃ j : Nat, IntKind.wrap .i64 ((m : Int) + 1) = j ∧ j ≤ a ∧ ∃ fb sb, Two w0 w6 pa fa1 sa1 pb fb sb ∧ sb.most = 600 ∧ (∀ n, (tell sb n).isSome = true → n ∈ xs) ∧ (∀ (i : Nat) n, i < j → xs[i]? = some n → ¬ badN n → tell sb n = tell sa1 n)) ∧ a - (IntKind.wrap .i64 ((m : Int) + 1)).toNat < a - (m : Int).toNat := fun hbad =>
      fin h6 hm5 p5 fun i n hi hxi hgood => by
        rcases Nat.lt_or_ge i m with h3 | h3
        · exact q5 i n h3 hxi hgood
        · have : i = m := by omega
          subst this
          rw [hxx] at hxi
          cases hxi
          exact absurd hbad hgood
    by_cases hbad : badN x
    · have ht : tell sa1 x = none := by
        cases e : tell sa1 x with
        | none => rfl
        | some v => exact absurd hbad (tell_good oka e)
      have hf : (findV sa1 x).2.2 = false := by rw [fA.1, ht]; rfl
      rw [hf]
      refine sel_dec (fun hsz => ?_) (fun hsz => sel_false rfl (sel_true rfl (skip hbad)))
      have : ¬ ((x.size : Nat) : Int) ≤ 63 := by unfold badN at hbad; omega
      exact sel_false (by simp [this]) (sel_true rfl (skip hbad))
    · obtain ⟨v, ht, hv⟩ := q1 m x (by omega) hxx hbad
      have hf : (findV sa1 x).2.2 = true := by rw [fA.1, ht]; rfl
      have hfv := fA.2 v ht
      rw [hf]
      have hg1 : ((x.size : Nat) : Int) ≥ 1 := by unfold badN at hbad; omega
      have hg2 : ((x.size : Nat) : Int) ≤ 63 := by unfold badN at hbad; omega
      refine sel_true (by simpa using hg1) (sel_false (by simp [hg2]) (sel_false rfl (sel_false (by rw [hfv]; simpa using hv) ?_)))
      have fB := tell_found okb x
      -- Set, behind which x has its value
      have setC : ∀ {w7 fb7 sb7}, Two w0 w7 pa fa1 sa1 pb fb7 sb7 → sb7.most = 600 → (∀ n, (tell sb7 n).isSome = true → n ∈ xs) → (∀ n, n ≠ x → tell sb7 n = tell sb5 n) → (tell sb7 x).isSome = true →
          Calls Try.prog 12 #[.pointer (some ⟨pb, 0, none⟩), .string x, .int .i64 (findV sa1 x).2.1] w7 fun e80 w81 => ∃ n79, e80 = .returned (.int .i64 n79) ∧ V.sel (n79 != 0) (R (.returned (.bool false)) w81)
            ((∃ j : Nat, IntKind.wrap .i64 ((m : Int) + 1) = j ∧ j ≤ a ∧ ∃ fb sb, Two w0 w81 pa fa1 sa1 pb fb sb ∧ sb.most = 600 ∧ (∀ n, (tell sb n).isSome = true → n ∈ xs) ∧ (∀ (i : Nat) n, i < j → xs[i]? = some n → ¬ badN n → tell sb n = tell sa1 n)) ∧ a - (IntKind.wrap .i64 ((m : Int) + 1)).toNat < a - (m : Int).toNat) := fun h7 hm7 p7 r7 s7 => by
        refine Set_c h7.b x _ fun w8 q8 e8 => ⟨_, rfl, ?_⟩
        have hl := look_tell h7.b.inv x
        rw [if_neg hbad, s7] at hl
        have h8 := h7.turnB q8 e8 (Grow.refl _ _)
        have ts : ∀ n, tell (setV _ x (findV sa1 x).2.1) n = _ := fun n => tell_set h7.b.inv q8.inv n
        refine sel_false (by rw [hl]; rfl) (fin h8 (by rw [setV_most]; exact hm7) (fun n hn => ?_) fun i n hi hxi hgood => ?_)
        · rw [ts] at hn
          split at hn
          · rename_i hc; rw [hc.1]; exact List.mem_of_getElem? hxx
          · exact p7 n hn
        · rw [ts]
          by_cases e : n = x
          · subst e
            rw [if_pos ⟨rfl, s7⟩, hfv, ht]
          · rw [if_neg (fun h => e h.1), r7 n e]
            rcases Nat.lt_or_ge i m with h3 | h3
            · exact q5 i n h3 hxi hgood
            · have : i = m := by omega
              subst this
              rw [hxx] at hxi
              cases hxi
              exact absurd rfl e
      refine Find_c h6.b x fun w7 e7 => ⟨_, _, _, rfl, ?_⟩
      have h7 := h6.step e7
      rw [fB.1]
      cases htb : tell sb5 x with
      | some u =>
        exact sel_false rfl (setC h7 hm5 p5 (fun _ _ => rfl) (by rw [htb]; rfl))
      | none =>
        refine sel_true rfl (Put_c h7.b x (-3) fun w8 fb8 q8 e8 g8 => ⟨_, _, rfl, ?_⟩)
        have h8 := h7.turnB q8 e8 g8
        have tp : ∀ n, tell (putV sb5 x (-3)).1 n = _ := fun n => tell_put okb q8.inv n
        have hsm : sb5.m.length < sb5.most := by
          have := tbl_small okb p5
          omega
        refine setC h8 (by rw [putV_most]; exact hm5) (fun n hn => ?_) (fun n hne => by rw [tp, if_neg (fun h => hne h.1)]) (by rw [tp, if_pos ⟨rfl, hbad, htb, hsm⟩]; rfl)
        rw [tp] at hn
        split at hn
        · rename_i hc; rw [hc.1]; exact List.mem_of_getElem? hxx
        · exact p5 n hn
  have hm : m = a := by omega
  subst hm
  -- both tell the same
  have same : ∀ n, tell sb5 n = tell sa1 n := fun n => by
    have go : n ∈ xs → ¬ badN n → tell sb5 n = tell sa1 n := fun hn hg => by
      obtain ⟨i, hi⟩ := List.mem_iff_getElem?.1 hn
      exact q5 i n (by have := (List.getElem?_eq_some_iff.1 hi).1; omega) hi hg
    cases e : tell sb5 n with
    | some v => rw [← e]; exact go (p5 n (by rw [e]; rfl)) (tell_good okb e)
    | none =>
      cases e2 : tell sa1 n with
      | none => rfl
      | some v =>
        have := go (p1 n v e2).1 (tell_good oka e2)
        rw [e, e2] at this; exact this
  have hperm := same_names oka okb (fun n => by rw [same n])
  have hnl : (srt (names sa1.rows)).length ≤ 250 := by
    have := tbl_small oka (l := xs) fun n hn => by
      cases e : tell sa1 n with
      | none => rw [e] at hn; cases hn
      | some v => exact (p1 n v e).1
    simp only [srt, List.length_map, List.length_mergeSort]
    rw [names_len oka]; omega
  refine Names_c (p := some pa) (f := fa1) (s := sa1) h5.a fun A1 n1 c1 w6 e6 own6 => ⟨_, _, _, rfl, ?_⟩
  have h6 := h5.step e6
  refine Names_c (p := some pb) (f := fb5) (s := sb5) h6.b fun A2 n2 c2 w7 e7 own7 => ⟨_, _, _, rfl, ?_⟩
  have h7 := h6.step e7
  have l6 := own6.len
  refine textsAre_c (own6.ext0 e7).cells own6.len own7.cells own7.len (by omega) (fun _ w8 e8 => ⟨_, rfl, sel_false rfl ?_⟩) (fun hne => absurd (srt_perm hperm) hne)
  have h8 := h7.step e8
  refine Len_c h8.a ⟨_, rfl, Len_c h8.b ⟨_, rfl, sel_false ?_ ?_⟩⟩
  · have := hperm.length_eq
    rw [names_len oka, names_len okb] at this
    rw [this]; simp
  refine Names_c (p := some pa) (f := fa1) (s := sa1) h8.a fun A3 n3 c3 w9 e9 own9 => ⟨_, _, _, rfl, ?_⟩
  have h9 := h8.step e9
  have l9 := own9.len
  refine ⟨fun t w' => ∃ j : Nat, t = j ∧ j ≤ n3 ∧ Ext [] w9 w', fun t _ => n3 - t.toNat, ⟨0, rfl, by omega, Ext.refl _ _⟩, ?_⟩
  rintro _ _ w10 ⟨q, rfl, hq, e10⟩
  have h10 := h9.step e10
  refine sel_dec (fun hlt => ?_) (fun hge => k w10 h10.e)
  obtain ⟨x, ad, hxx, hA3, hc⟩ := text_at (own9.ext0 e10).cells l9 (a := q) (by omega)
  subst hA3
  have hmem : x ∈ names sa1.rows := by
    have h1 : x ∈ srt (names sa1.rows) := List.mem_of_getElem? hxx
    unfold srt at h1
    obtain ⟨b, hb, rfl⟩ := List.mem_map.1 h1
    rw [List.mem_mergeSort] at hb
    obtain ⟨y, hy, rfl⟩ := List.mem_map.1 hb
    exact hy
  have hta := (mem_names oka x).1 hmem
  obtain ⟨v, hv⟩ := Option.isSome_iff_exists.1 hta
  have fA := tell_found oka x
  refine when_dec ⟨by omega, by omega⟩ (ptr_in ⟨x, hc, Find_c h10.a x fun w11 e11 => ⟨_, _, _, rfl, Find_c (h10.step e11).b x fun w12 e12 => ⟨_, _, _, rfl, ?_⟩⟩⟩)
  have h12 := (h10.step e11).step e12
  refine At_c h12.b _ fun w13 e13 => ⟨_, _, _, rfl, ?_⟩
  rcases find_tell (ds := drs sb5.rows) ⟨okb, List.Perm.refl _⟩ x with ⟨ev, _⟩ | ⟨i, b, y, ev, hy', hyh, hyn, _, _⟩
  · have := (tell_found okb x).1
    rw [ev, same x, hv] at this
    cases this
  · have hvb : y.v = v := by
      have := (tell_found okb x).2 v (by rw [same x]; exact hv)
      rw [ev] at this; exact this
    have hat : atV sb5 (i : Int) = y := by
      unfold atV
      rw [if_neg (by omega), Int.toNat_natCast, List.getD_eq_getElem?_getD, hy']
      rfl
    rw [fA.1, hta, fA.2 v hv, ev]
    simp only []
    rw [hat, hyh, hyn, hvb]
    refine sel_false rfl (sel_false rfl (sel_false rfl (sel_false (by simp) (sel_false (by simp) (sel_false (by simp) ?_)))))
    rw [up64 q (by omega)]
    exact ⟨⟨q + 1, rfl, by omega, ((e10.trans e11).trans e12).trans e13⟩, by simp only [Int.toNat_natCast]; omega⟩
theorem new600 {w : World} {R : Ending → World → Prop} (k : ∀ p f w', Ext [] w w' → At w' w.heap.size p f ⟨600, [], [], 0⟩ → (∀ b ∈ f, w.heap.size ≤ b) → R (.returned (.tuple #[.pointer (some ⟨p, 0, none⟩), .int .i64 0])) w') : Calls Try.prog 10 #[.int .i64 600] w R :=
  New_c 600 (fun h => by omega) fun p f w' _ _ e q hf => k p f w' e q hf
/-- Lists of texts that come in. -/
structure TextsAt (w : World) (A : Option Addr) (n c : Nat) (xs : List ByteArray) : Prop where
  cells : Cells w A (SL.flat xs)
  len : xs.length = n
  cap : n ≤ c
theorem slotsBlind_c {w : World} {A A' : Option Addr} {n c n' c' : Nat} {xs ds : List ByteArray} (hx : TextsAt w A n c xs) (hy : TextsAt w A' n' c' ds) {R : Ending → World → Prop} (k : ∀ w', Ext [] w w' → R (.returned (.bool true)) w') : Calls Try.prog 5 #[.slice A n c, .slice A' n' c'] w R := by
  have hxc := hx.cap
  have hyc := hy.cap
  apply berthlaw05_SlotsBlind_nf
  simp only [Nat.sub_zero, cut0]
  refine fixed_c fun w4 e4 => ⟨_, rfl, sel_false rfl (new600 fun pa fa w9 e9 q9 hf9 => ⟨_, _, rfl, new600 fun pb fb w13 e13 q13 hf13 => ⟨_, _, rfl, sel_false rfl (sel_false rfl (sel_false rfl (sel_false rfl ?_)))⟩⟩)⟩
  have h0 : Two w4 w13 pa fa ⟨600, [], [], 0⟩ pb fb ⟨600, [], [], 0⟩ := ⟨e9.trans e13, (q9.ext0 e13).weaken (Nat.zero_le _), q13.weaken (Nat.zero_le _), hf9, fun g hg => by have := hf13 g hg; have := e9.size; omega, fun g hg hm => by have := q9.lt g hg; have := hf13 g hm; omega⟩
  have kk : ∀ w', Ext [] w4 w' → R (.returned (.bool true)) w' := fun w' e => k w' (e4.trans e)
  have hx4 := hx.cells.ext0 e4
  have hy4 := hy.cells.ext0 e4
  have cutx : Cells w4 A (SL.flat (xs.take 250)) := by
    have := hx4.take (250 * SL.sz)
    rw [SL.flat_take] at this; exact this
  have cuty : Cells w4 A' (SL.flat (ds.take 250)) := by
    have := hy4.take (250 * SL.sz)
    rw [SL.flat_take] at this; exact this
  have hxl := hx.len
  have hyl := hy.len
  refine sel_dec (fun h1 => when_dec ⟨by omega, by omega⟩ (sel_dec (fun h2 => when_dec ⟨by omega, by omega⟩ ?_) (fun h2 => ?_))) (fun h1 => sel_dec (fun h2 => when_dec ⟨by omega, by omega⟩ ?_) (fun h2 => ?_))
  · exact blind_tail h0 rfl rfl cutx (by simp; omega) (by omega) cuty (by simp; omega) (by omega) kk
  · exact blind_tail h0 rfl rfl cutx (by simp; omega) (by omega) hy4 hyl (by omega) kk
  · exact blind_tail h0 rfl rfl hx4 hxl (by omega) cuty (by simp; omega) (by omega) kk
  · exact blind_tail h0 rfl rfl hx4 hxl (by omega) hy4 hyl (by omega) kk
section
variable {H : Type} {enc : TypeId × Value → H} {w : World}
set_option maxRecDepth 8000 in
theorem open_texts {base : Nat} {v : Value} {d : DataW H} {p : List MemPlace} (hok : Value.okWide Try.prog w .any base 41 v) (h : DataW.Trod enc Try.prog w 0 (fun _ => true) true 41 v d p)
    (hw : ∀ n ∈ d.weights Try.prog 41, n ≤ reachBytes) : ∃ A n c xs, v = .slice A n c ∧ TextsAt w A n c xs := by
  obtain ⟨a, l, c, rfl⟩ := Go.WideShapes.okWide_slice Try.underlying41 hok
  obtain ⟨fuel, hf⟩ := h
  have hf' : DataW.trod enc Try.prog w 0 (fun _ => true) true fuel 41 [.slice a l c] = some (d, p) := hf
  obtain ⟨A, n, c', xs, hv, hc, hlen, _, _⟩ := open_flat SL (P := Try.prog) (t := 41) (e := 9) (Q := fun _ => True) Try.underlying41 (by kernel_rfl) (by decide) (fun _ _ _ h hw => by
    obtain ⟨s, hs, -⟩ := DataW.trod_string Try.underlying9 h
    exact ⟨s, hs, trivial⟩) hf' hw
  have hlc : l ≤ c := by
    rcases DataW.trod_slice Try.underlying41 hf' with ⟨hcs, _⟩ | ⟨a', len, cap, _, _, _, _, hcs, _, _, hl, _⟩
    · simp at hcs; omega
    · simp at hcs; omega
  simp only [Value.slice.injEq] at hv
  obtain ⟨rfl, rfl, rfl⟩ := hv
  exact ⟨a, l, c, xs, rfl, hc, hlen, hlc⟩
end
set_option maxRecDepth 8000 in
theorem slotsBlind_lifted (os : Os) (started : os.Started) (H : Type) (enc : TypeId × Value → H) :
    ReturnsInHanded {} Try.checked os 5 .any (Rows.slotsBlindSpec.pre6 enc Try.prog Try.f5 Rows.slotsBlindRow.domain false) (Rows.slotsBlindSpec.post enc Try.prog Try.f5 false true false false) :=
  lift2 (C := Try.checked) (T := 41) (U := 41) (tb := 4) own (by kernel_rfl) Try.func5 (by kernel_rfl) (by kernel_rfl) Try.underlying4 rfl (fun _ _ _ => rfl) laidOut (by kernel_rfl) (of_decide_eq_true (by kernel_rfl)) (by kernel_rfl) (of_decide_eq_true (by kernel_rfl)) os started H enc
    (fun W base v v' d d' p p' hok h hw hok' h' hw' => by
      obtain ⟨A, n, c, xs, rfl, hx⟩ := open_texts hok h hw
      obtain ⟨A', n', c', ds, rfl, hy⟩ := open_texts hok' h' hw'
      exact slotsBlind_c hx hy fun w' e => ⟨rfl, e.below⟩)
    (ChangeSpec.witness6 (enc := enc) (C := Try.checked) false ⟨#[], #[.slice none 0 0, .slice none 0 0], []⟩ 8 (by kernel_rfl) (by kernel_rfl) (by kernel_rfl) (by kernel_rfl))
theorem slotsBlind_holds : Rows.SlotsBlindSaid :=
  OpenClaim.holds_of_wide 5 Try.f5 rfl rfl rfl rfl rfl rfl rfl ⟨rfl, rfl, rfl, rfl, rfl⟩ rfl rfl rfl rfl rfl (by kernel_rfl) Try.func5 (by kernel_rfl)
    (of_decide_eq_true (by kernel_rfl)) (by unfold Func.isWrapper; first | (rw [if_pos (by decide +kernel)]; kernel_rfl) | (rw [if_neg (by decide +kernel)]; exact ⟨rfl, rfl⟩))
    (fun os started H enc _ => slotsBlind_lifted os started H enc)
end Go.Proofs.Ytcampkaenlohbaa
