/- Whatever scripts come in, berthlaw08.OrderedBlind returns true and leaves what came in as it was. -/
import Derived.Test.YtjlkdadafddodaaO15
import Derived.Test.YtjlkdadafddodaaRows
set_option linter.unusedVariables false
set_option linter.unusedSimpArgs false
namespace Go.Proofs.Ytjlkdadafddodaa
open Go Go.V Go.B
open Go.ChangeShapes Go.WideShapes Go.ChangeAt Go.RowKit

theorem wrap_q (x : Int) : ∃ q : Int, IntKind.wrap .i64 x = x + 18446744073709551616 * q := by
  have e : IntKind.wrap .i64 x = x % 18446744073709551616 ∨ IntKind.wrap .i64 x = x % 18446744073709551616 - 18446744073709551616 := by
    unfold IntKind.wrap
    simp only [IntKind.bits, IntKind.signed, Bool.true_and]
    split
    · right; rfl
    · left; rfl
  rcases e with e | e
  · exact ⟨-(x / 18446744073709551616), by omega⟩
  · exact ⟨-(x / 18446744073709551616) - 1, by omega⟩
/-- The lowest bit turned: another number. -/
theorem flip_ne (n : Int) : IntKind.wrap .i64 ((BitVec.toNat (BitVec.ofInt 64 n ^^^ BitVec.ofInt 64 1) : Nat) : Int) ≠ n := by
  intro h
  obtain ⟨q, hq⟩ := wrap_q ((BitVec.toNat (BitVec.ofInt 64 n ^^^ BitVec.ofInt 64 1) : Nat) : Int)
  rw [hq] at h
  have hlt : (BitVec.ofInt 64 n ^^^ BitVec.ofInt 64 1).toNat < 18446744073709551616 := (BitVec.ofInt 64 n ^^^ BitVec.ofInt 64 1).isLt
  have e1 : (BitVec.ofInt 64 n).toNat = (n % 18446744073709551616).toNat := by rw [BitVec.toNat_ofInt]; rfl
  generalize hv : BitVec.ofInt 64 n ^^^ BitVec.ofInt 64 1 = v at *
  have e2 : (BitVec.ofInt 64 n).toNat = v.toNat := by omega
  have e3 : BitVec.ofInt 64 n = v := BitVec.eq_of_toNat_eq e2
  rw [← e3] at hv
  have := congrArg (fun b : BitVec 64 => b.getLsbD 0) hv
  simp at this
theorem cols_iff {x : Ix} (kx : IxOk x) (k : ByteArray) : x.cols k ≠ none ↔ ∃ i, x.val k i ≠ none := by
  unfold Ix.val
  cases hc : x.cols k with
  | none => simp
  | some C =>
    simp only [ne_eq, reduceCtorEq, not_false_eq_true, Option.bind_some, true_iff]
    obtain ⟨⟨kk, vv⟩, tl', hof⟩ : ∃ p tl', C.of = p :: tl' := by
      cases hq : C.of with
      | nil => exact absurd hq (kx.ok k C hc).2.2
      | cons p tl' => exact ⟨p, tl', rfl⟩
    exact ⟨kk, by rw [hof]; simp [mget]⟩
theorem val_bar {x : Ix} (kx : IxOk x) {k : ByteArray} {i n : Int} (h : x.val k i = some n) : barV x.N k i = 0 := by
  unfold Ix.val at h
  cases hc : x.cols k with
  | none => rw [hc] at h; cases h
  | some C =>
    rw [hc] at h
    obtain ⟨j, rfl, hj⟩ := (kx.ok k C hc).1.keys i n h
    have hk : k ≠ ByteArray.empty := fun e => by rw [e, kx.key] at hc; cases hc
    unfold barV
    rw [if_neg hk, if_neg (by omega)]
theorem del_none {y y' : Ix} (ky : IxOk y) {key : ByteArray} {slot : Int} (hv : ∀ k i, y'.val k i = if delE y key slot = 0 ∧ k = key ∧ i = slot then none else y.val k i) : y'.val key slot = none := by
  rw [hv]
  split
  · rfl
  · rename_i hh
    cases hq : y.val key slot with
    | none => rfl
    | some n =>
      have hb := val_bar ky hq
      exact absurd ⟨by unfold delE; rw [if_neg (by simp [hb]), hq]; rfl, rfl, rfl⟩ hh
theorem del_zero {y : Ix} (ky : IxOk y) {key : ByteArray} {slot n : Int} (h : y.val key slot = some n) : delE y key slot = 0 := by
  unfold delE
  rw [if_neg (by simp [val_bar ky h]), h]; rfl
/-- The second index on its way. -/
structure YS (w9 w' : World) (cy yq : Nat) (F : List Nat) (y : Ix) : Prop where
  ext : Ext [] w9 w'
  at_ : IxAt w' F cy y
  ok : IxOk y
  N : y.N = 200
  q : y.q = yq
  rng : Rng y
  fresh : ∀ b ∈ F, w9.heap.size ≤ b
theorem YS.ext0 {w9 w' w'' : World} {cy yq : Nat} {F : List Nat} {y : Ix} (h : YS w9 w' cy yq F y) (e : Ext [] w' w'') : YS w9 w'' cy yq F y := ⟨h.ext.trans e, h.at_.ext0 e, h.ok, h.N, h.q, h.rng, h.fresh⟩
theorem YS.cnt {w9 w' : World} {cy cy' yq : Nat} {F : List Nat} {y : Ix} (h : YS w9 w' cy yq F y) (hc : cy ≤ cy') : YS w9 w' cy' yq F y := ⟨h.ext, h.at_.cnt hc, h.ok, h.N, h.q, h.rng, h.fresh⟩
theorem YS.chg {w9 w' w'' : World} {cy cy' yq : Nat} {F F' : List Nat} {y y' : Ix} (h : YS w9 w' cy yq F y) (c : Chg w' w'' F F' cy' y y') (r : Rng y') : YS w9 w'' cy' yq F' y' := ⟨h.ext.old h.fresh c.ext, c.at_, c.ok, c.N.trans h.N, c.q.trans h.q, r, Grow.old h.ext h.fresh c.grow⟩
set_option maxRecDepth 8000 in
set_option maxHeartbeats 2000000 in
theorem blind_end {w9 wT : World} {cy yq : Nat} {F Fx : List Nat} {x y : Ix} {cx : Nat} (S : YS w9 wT cy yq F y) (hcy : cy + 10 ≤ 7999999999000) (ax : IxAt w9 Fx cx x) (kx : IxOk x) (hcx : cx ≤ 8000000000000) (same : ∀ k i, x.val k i = y.val k i) {A : Option Addr} {m : Nat} {ops : List Op} (ho : OpsAt w9 A m ops) {R : Ending → World → Prop} (k : ∀ w', Ext [] w9 w' → R (.returned (.bool true)) w') :
    ∃ I170 : Int → World → Prop, ∃ μ171 : Int → World → Nat, I170 0 wT ∧
  ∀ t184_172 (j173 : Nat → Value) (w174 : World), I170 t184_172 w174 →
  (V.sel (decide (t184_172 < ((m : Nat) : Int)))
  (V.when (decide ((0 : Int) ≤ t184_172 ∧ (t184_172 : Int) < ((m : Nat) : Int))) (V.ptr A fun a175 =>
  ∃ n176, ∃ n177, ∃ n178, ∃ s179, ∃ n180, ∃ n181, ∃ n182, ∃ A183, ∃ A183l, ∃ A183c, V.cellsC (fun a_ x_ => World.cell? w174 a_ = some x_) (Addr.add a175 ((Int.toNat t184_172) * 8)) [(Value.int .i64 n176), (Value.int .i64 n177), (Value.int .i64 n178), (Value.string s179), (Value.int .i64 n180), (Value.int .i64 n181), (Value.int .i64 n182), (Value.slice A183 A183l A183c)] ∧
  ∀ w184, w184 = (World.alloc w174 (.cells #[(Value.int .i64 0), (Value.int .i64 0), (Value.int .i64 0), (Value.string ByteArray.empty), (Value.int .i64 0), (Value.int .i64 0), (Value.int .i64 0), (Value.slice none 0 0)] 50)) →
  ∃ w185, Sem.run Try.prog (Instr.storeAt 50 (Value.pointer (some ⟨Array.size (World.heap w174), 0, none⟩)) (Value.agg #[(Value.int .i64 n176), (Value.int .i64 n177), (Value.int .i64 n178), (Value.string s179), (Value.int .i64 n180), (Value.int .i64 n181), (Value.int .i64 n182), (Value.slice A183 A183l A183c)])) w184 = .ok () w185 ∧
  ∃ s186, World.cell? w185 (Addr.add ⟨Array.size (World.heap w174), 0, none⟩ 3) = some (Value.string s186) ∧
  ∃ n187, World.cell? w185 (Addr.add ⟨Array.size (World.heap w174), 0, none⟩ 4) = some (Value.int .i64 n187) ∧
  Calls Try.prog 19 #[(Value.pointer (some (⟨yq, 0, none⟩ : Addr))), (Value.string s186), (Value.int .i64 n187)] w185 fun e190 w191 =>
  ∃ n188, ∃ b189, e190 = Ending.returned (Value.tuple #[(Value.int .i64 n188), (Value.bool b189)]) ∧
  V.sel b189
  (∃ s192, World.cell? w191 (Addr.add ⟨Array.size (World.heap w174), 0, none⟩ 3) = some (Value.string s192) ∧
  ∃ n193, World.cell? w191 (Addr.add ⟨Array.size (World.heap w174), 0, none⟩ 4) = some (Value.int .i64 n193) ∧
  Calls Try.prog 34 #[(Value.pointer (some (⟨yq, 0, none⟩ : Addr))), (Value.string s192), (Value.int .i64 n193)] w191 fun e195 w196 =>
  ∃ n194, e195 = Ending.returned (Value.int .i64 n194) ∧
  Calls Try.prog 36 #[(Value.pointer (some (⟨x.q, 0, none⟩ : Addr))), (Value.pointer (some (⟨yq, 0, none⟩ : Addr)))] w196 fun e198 w199 =>
  ∃ b197, e198 = Ending.returned (Value.bool b197) ∧
  ∃ s200, World.cell? w199 (Addr.add ⟨Array.size (World.heap w174), 0, none⟩ 3) = some (Value.string s200) ∧
  ∃ n201, World.cell? w199 (Addr.add ⟨Array.size (World.heap w174), 0, none⟩ 4) = some (Value.int .i64 n201) ∧
  Calls Try.prog 35 #[(Value.pointer (some (⟨yq, 0, none⟩ : Addr))), (Value.string s200), (Value.int .i64 n201), (Value.int .i64 (IntKind.wrap .i64 ((BitVec.toNat (BitVec.ofInt 64 n188 ^^^ BitVec.ofInt 64 1) : Nat) : Int)))] w199 fun e203 w204 =>
  ∃ n202, e203 = Ending.returned (Value.int .i64 n202) ∧
  V.sel (!b197)
  (Calls Try.prog 36 #[(Value.pointer (some (⟨x.q, 0, none⟩ : Addr))), (Value.pointer (some (⟨yq, 0, none⟩ : Addr)))] w204 fun e206 w207 =>
  ∃ b205, e206 = Ending.returned (Value.bool b205) ∧
  R (Ending.returned (Value.bool (!b205))) w207)
  (R (Ending.returned (Value.bool false)) w204))
  (I170 (IntKind.wrap .i64 (t184_172 + 1)) w191 ∧ μ171 (IntKind.wrap .i64 (t184_172 + 1)) w191 < μ171 t184_172 w174)))
  (R (Ending.returned (Value.bool true)) w174)) := by
  have hsz := ho.sz
  refine ⟨fun t w' => ∃ a : Nat, t = a ∧ a ≤ m ∧ Ext [] wT w', fun t _ => m - t.toNat, ⟨0, rfl, by omega, Ext.refl _ _⟩, ?_⟩
  rintro _ _ w174 ⟨a, rfl, ha, e174⟩
  have S174 := S.ext0 e174
  refine sel_dec (fun hlt => ?_) (fun hge => k w174 S174.ext)
  have hlt : a < m := by omega
  obtain ⟨o, ad, hoa, rfl, rd⟩ := (ho.ext0 S174.ext).read (a := a) (by omega)
  refine when_dec ⟨by omega, by omega⟩ (ptr_in ⟨_, _, _, _, _, _, _, _, _, _, rd, fun w184 h184 => ?_⟩)
  obtain ⟨w185, hr185, b185, e185⟩ := op_box (o := o) h184
  have S185 := S174.ext0 e185
  have q185 := S185.q
  refine ⟨w185, hr185, _, cadd b185 rfl, _, cadd b185 rfl, ?_⟩
  rw [← q185]
  refine Get_c (x := y) (.inr ⟨F, cy, rfl, S185.at_⟩) o.key o.slot fun w191 e191 => ⟨_, _, rfl, ?_⟩
  have S191 := S185.ext0 e191
  have b191 := b185.ext0 e191
  cases hv : y.val o.key o.slot with
  | none =>
    refine sel_false rfl ?_
    rw [up64 a (by omega)]
    exact ⟨⟨a + 1, rfl, by omega, (e174.trans e185).trans e191⟩, by simp only [Int.toNat_natCast]; omega⟩
  | some n =>
    refine sel_true rfl ⟨_, cadd b191 rfl, _, cadd b191 rfl, Del_c S191.at_ S191.ok (by omega) o.key o.slot fun w196 F1 y1 c1 u1 => ⟨_, rfl, ?_⟩⟩
    have S196 := S191.chg c1 (S191.rng.del u1)
    have b196 : BlkT w196 w174.heap.size o.cells 50 := by
      refine b191.ext c1.ext fun hm => ?_
      have h1 := S174.at_.lt _ hm
      omega
    rw [← c1.q]
    have n1 := del_none S191.ok u1
    refine Same_c (ax.ext0 S196.ext) kx (by omega) S196.at_ S196.ok (by omega) fun t1 w199 ht1 e199 => ⟨_, rfl, ?_⟩
    have S199 := S196.ext0 e199
    have b199 := b196.ext0 e199
    have t1f : t1 = false := by
      cases t1 with
      | false => rfl
      | true =>
        have := ht1.1 rfl o.key o.slot
        rw [same, hv, n1] at this; cases this
    subst t1f
    refine ⟨_, cadd b199 rfl, _, cadd b199 rfl, Put_c S199.at_ S199.ok (by omega) o.key o.slot _ fun w204 F2 y2 c2 u2 => ⟨_, rfl, sel_true rfl ?_⟩⟩
    have p2 : putE y1 o.key o.slot = 0 := by
      have hb := val_bar S191.ok hv
      unfold putE
      rw [c1.N, if_neg (by simp [hb]), n1]; rfl
    have v2 : y2.val o.key o.slot = some (IntKind.wrap .i64 ((BitVec.toNat (BitVec.ofInt 64 n ^^^ BitVec.ofInt 64 1) : Nat) : Int)) := by rw [u2, if_pos ⟨p2, rfl, rfl⟩]; rfl
    have e204 : Ext [] w9 w204 := S199.ext.old S199.fresh c2.ext
    rw [← c2.q]
    refine Same_c (ax.ext0 e204) kx (by omega) c2.at_ c2.ok (by omega) fun t2 w207 ht2 e207 => ⟨_, rfl, ?_⟩
    have t2f : t2 = false := by
      cases t2 with
      | false => rfl
      | true =>
        have := ht2.1 rfl o.key o.slot
        rw [same, hv, v2] at this
        exact absurd (Option.some.inj this).symm (flip_ne n)
    subst t2f
    exact k w207 (e204.trans e207)
theorem find_same {x y : Ix} (h : ∀ k i, x.val k i = y.val k i) (key : ByteArray) (c n : Int) (i : Nat) : findP x key c n i ↔ findP y key c n i := by
  unfold findP; simp only [h]
theorem among_same {x y : Ix} (h : ∀ k i, x.val k i = y.val k i) (key : ByteArray) (ns : List Int) (i : Nat) : amongP x key ns i ↔ amongP y key ns i := by
  unfold amongP; simp only [h]
def otherKey : ByteArray := ⟨#[111, 116, 104, 101, 114, 32, 107, 101, 121]⟩
set_option maxRecDepth 8000 in
set_option maxHeartbeats 4000000 in
theorem orderedBlind_c {W : World} {A B : Option Addr} {m c d c2 : Nat} {ops dops : List Op} (ho : OpsAt W A m ops) (hd : OpsAt W B d dops) {R : Ending → World → Prop} (k : ∀ w', Ext [] W w' → R (.returned (.bool true)) w') :
    Calls Try.prog 6 #[.slice A m c, .slice B d c2] W R := by
  apply berthlaw08_OrderedBlind_nf
  have hsz := ho.sz
  have hdz := hd.sz
  refine fixed_c fun w5 e5 => ⟨_, rfl, sel_false rfl ?_⟩
  refine played_c2 (ho.ext0 e5) fun w9 Fx x e9 ax kx Nx rx sx fx => ⟨_, _, rfl, ?_⟩
  have E9 := e5.trans e9
  have ho9 := ho.ext0 E9
  have hd9 := hd.ext0 E9
  refine played_c2 hd9 fun w13 F y e13 ay ky Ny ry sy fy => ⟨_, _, rfl, sel_false rfl (sel_false rfl ?_)⟩
  obtain ⟨yq, hyq⟩ : ∃ yq, y.q = yq := ⟨_, rfl⟩
  have S13 : YS w9 w13 (2 * d) yq F y := ⟨e13, ay, ky, Ny, hyq, ry, fy⟩
  rw [hyq]
  have kk : ∀ w', Ext [] w9 w' → R (.returned (.bool true)) w' := fun w' e => k w' (E9.trans e)
  have hol := ho.len
  have hdl := hd.len
  -- what the detour put is taken out again
  refine ⟨fun t w' => ∃ (a : Nat) (F : List Nat) (y : Ix), t = a ∧ a ≤ d ∧ YS w9 w' (2 * d) yq F y ∧ ∀ k i n, y.val k i = some n → ∃ o ∈ dops.drop a, o.kind = 2 ∧ o.key = k ∧ o.slot = i, fun t _ => d - t.toNat, ⟨0, F, y, rfl, by omega, S13, sy⟩, ?_⟩
  rintro _ _ w18 ⟨a, F1, y1, rfl, ha, S18, left⟩
  refine sel_dec (fun hlt => ?_) (fun hge => ?_)
  · have hlt : a < d := by omega
    obtain ⟨o, ad, hoa, rfl, rd⟩ := (hd9.ext0 S18.ext).read (a := a) (by omega)
    have hdrop : dops.drop a = o :: dops.drop (a + 1) := by
      obtain ⟨h1, e1⟩ := List.getElem?_eq_some_iff.1 hoa
      rw [← e1, ← List.drop_eq_getElem_cons h1]
    refine when_dec ⟨by omega, by omega⟩ (ptr_in ⟨_, _, _, _, _, _, _, _, _, _, rd, fun w28 h28 => ?_⟩)
    obtain ⟨w29, hr29, b29, e29⟩ := op_box (o := o) h28
    have S29 := S18.ext0 e29
    have fin : ∀ w2 F2 y2, YS w9 w2 (2 * d) yq F2 y2 → (∀ k i n, y2.val k i = some n → ∃ o ∈ dops.drop (a + 1), o.kind = 2 ∧ o.key = k ∧ o.slot = i) →
        (∃ (a' : Nat) (F : List Nat) (y : Ix), IntKind.wrap .i64 ((a : Int) + 1) = a' ∧ a' ≤ d ∧ YS w9 w2 (2 * d) yq F y ∧ ∀ k i n, y.val k i = some n → ∃ o ∈ dops.drop a', o.kind = 2 ∧ o.key = k ∧ o.slot = i) ∧ d - (IntKind.wrap .i64 ((a : Int) + 1)).toNat < d - (a : Int).toNat := fun w2 F2 y2 g1 g2 => by
      rw [up64 a (by omega)]
      exact ⟨⟨a + 1, F2, y2, rfl, by omega, g1, g2⟩, by simp only [Int.toNat_natCast]; omega⟩
    have q29 := S29.q
    refine ⟨w29, hr29, _, cadd b29 rfl, sel_intro (fun h2 => ⟨_, cadd b29 rfl, _, cadd b29 rfl, ?_⟩) (fun h2 => fin w29 F1 y1 S29 fun k i n hv => ?_)⟩
    · have hDel := Del_c (R := fun e34 w35 => ∃ n33, e34 = Ending.returned (Value.int .i64 n33) ∧ ((∃ (a' : Nat) (F : List Nat) (y : Ix), IntKind.wrap .i64 ((a : Int) + 1) = a' ∧ a' ≤ d ∧ YS w9 w35 (2 * d) yq F y ∧ ∀ k i n, y.val k i = some n → ∃ o ∈ dops.drop a', o.kind = 2 ∧ o.key = k ∧ o.slot = i) ∧ d - (IntKind.wrap .i64 ((a : Int) + 1)).toNat < d - (a : Int).toNat)) S29.at_ S29.ok (by omega) o.key o.slot fun w35 F2 y2 c2' u2 => ⟨_, rfl, fin w35 F2 y2 (S29.chg c2' (S29.rng.del u2)) fun k i n hv => ?_⟩
      · rw [q29] at hDel; exact hDel
      · have hnn := del_none S29.ok u2
        have hv0 := hv
        rw [u2] at hv
        split at hv
        · cases hv
        · obtain ⟨o', ho', h1, h2', h3⟩ := left k i n hv
          rw [hdrop] at ho'
          rcases List.mem_cons.1 ho' with rfl | ho'
          · rw [← h2', ← h3, hnn] at hv0; cases hv0
          · exact ⟨o', ho', h1, h2', h3⟩
    · obtain ⟨o', ho', h1, h2', h3⟩ := left k i n hv
      rw [hdrop] at ho'
      rcases List.mem_cons.1 ho' with rfl | ho'
      · rw [h1] at h2; simp at h2
      · exact ⟨o', ho', h1, h2', h3⟩
  have : a = d := by omega
  subst this
  have none18 : ∀ k i, y1.val k i = none := fun k i => by
    cases hv : y1.val k i with
    | none => rfl
    | some n =>
      obtain ⟨o', ho', _⟩ := left k i n hv
      rw [List.drop_eq_nil_of_le (by omega)] at ho'
      cases ho'
  have q18 := S18.q
  rw [← q18]
  refine Keys_c S18.at_ (by omega) fun KA n kc xs w38 e38 own38 hk38 hn38 => ⟨_, _, _, rfl, ?_⟩
  have hn0 : n = 0 := by
    have hl := own38.len
    have : xs = [] := by
      rw [List.eq_nil_iff_forall_not_mem]
      intro kx' hm
      obtain ⟨i, hi⟩ := (cols_iff S18.ok kx').1 ((hk38.mem kx').1 hm)
      exact hi (none18 kx' i)
    rw [this] at hl; simpa using hl.symm
  subst hn0
  have S38 := S18.ext0 e38
  refine sel_false rfl ?_
  rw [q18]
  -- the script's entries are put back, from behind
  refine ⟨fun t w' => ∃ (b : Nat) (F : List Nat) (y : Ix), t = b ∧ b ≤ m ∧ YS w9 w' (2 * a + 2 * b) yq F y ∧ (∀ k i n, y.val k i = some n → x.val k i = some n) ∧ ∀ o ∈ ops.drop (m - b), ∀ n, x.val o.key o.slot = some n → y.val o.key o.slot = some n, fun t _ => m - t.toNat, ⟨0, F1, y1, rfl, by omega, S38, fun k i n hv => (by rw [none18] at hv; cases hv), fun o ho' => (by rw [List.drop_eq_nil_of_le (by omega)] at ho'; cases ho')⟩, ?_⟩
  rintro _ _ w43 ⟨b, F2, y2, rfl, hb, S43, sub, done⟩
  refine sel_dec (fun hlt => ?_) (fun hge => ?_)
  · have hlt : b < m := by omega
    have ew : IntKind.wrap .i64 (IntKind.wrap .i64 ((m : Int) - 1) - (b : Int)) = ((m - 1 - b : Nat) : Int) := by
      have q1 : IntKind.wrap .i64 ((m : Int) - 1) = ((m - 1 : Nat) : Int) := by rw [w64 (by omega) (by omega)]; omega
      rw [q1, w64 (by omega) (by omega)]; omega
    rw [ew]
    obtain ⟨o, ad, hoa, rfl, rd⟩ := (ho9.ext0 S43.ext).read (a := m - 1 - b) (by omega)
    have hdrop : ops.drop (m - (b + 1)) = o :: ops.drop (m - b) := by
      obtain ⟨h1, e1⟩ := List.getElem?_eq_some_iff.1 hoa
      have : m - (b + 1) = m - 1 - b := by omega
      rw [this, ← e1, show m - b = m - 1 - b + 1 by omega, ← List.drop_eq_getElem_cons h1]
    refine when_dec ⟨by omega, by omega⟩ (ptr_in ⟨_, _, _, _, _, _, _, _, _, _, rd, fun w53 h53 => ?_⟩)
    obtain ⟨w54, hr54, b54, e54⟩ := op_box (o := o) h53
    have S54 := S43.ext0 e54
    have fin : ∀ w2 F3 y3, YS w9 w2 (2 * a + 2 * (b + 1)) yq F3 y3 → (∀ k i n, y3.val k i = some n → x.val k i = some n) → (∀ k i n, y2.val k i = some n → y3.val k i = some n) → (∀ n, x.val o.key o.slot = some n → y3.val o.key o.slot = some n) →
        (∃ (b' : Nat) (F : List Nat) (y : Ix), IntKind.wrap .i64 ((b : Int) + 1) = b' ∧ b' ≤ m ∧ YS w9 w2 (2 * a + 2 * b') yq F y ∧ (∀ k i n, y.val k i = some n → x.val k i = some n) ∧ ∀ o ∈ ops.drop (m - b'), ∀ n, x.val o.key o.slot = some n → y.val o.key o.slot = some n) ∧ m - (IntKind.wrap .i64 ((b : Int) + 1)).toNat < m - (b : Int).toNat := fun w2 F3 y3 g1 g2 g3 g4 => by
      rw [up64 b (by omega)]
      refine ⟨⟨b + 1, F3, y3, rfl, by omega, g1, g2, fun o' ho' n hx => ?_⟩, by simp only [Int.toNat_natCast]; omega⟩
      rw [hdrop] at ho'
      rcases List.mem_cons.1 ho' with rfl | ho'
      · exact g4 n hx
      · exact g3 _ _ n (done o' ho' n hx)
    have gx54 : IxR w54 (some ⟨x.q, 0, none⟩) x := .inr ⟨Fx, _, rfl, ax.ext0 S54.ext⟩
    refine ⟨w54, hr54, _, cadd b54 rfl, _, cadd b54 rfl, Get_c gx54 o.key o.slot fun w60 e60 => ⟨_, _, rfl, ?_⟩⟩
    have S60 := S54.ext0 e60
    have b60 := b54.ext0 e60
    cases hv : x.val o.key o.slot with
    | none => exact sel_true rfl (fin w60 F2 y2 (S60.cnt (by omega)) sub (fun _ _ _ h => h) fun n h => by rw [hv] at h; cases h)
    | some n =>
      refine sel_false rfl ⟨_, cadd b60 rfl, _, cadd b60 rfl, ?_⟩
      have q60 := S60.q
      rw [← q60]
      refine Get_c (x := y2) (.inr ⟨F2, _, rfl, S60.at_⟩) o.key o.slot fun w66 e66 => ⟨_, _, rfl, ?_⟩
      have S66 := S60.ext0 e66
      have b66 := b60.ext0 e66
      cases hv2 : y2.val o.key o.slot with
      | some n2 =>
        refine sel_false rfl ?_
        rw [q60]
        exact fin w66 F2 y2 (S66.cnt (by omega)) sub (fun _ _ _ h => h) fun n' h => by
          have := sub _ _ _ hv2
          rw [h] at this
          rw [hv2, Option.some.inj this]
      | none =>
        refine sel_true rfl ⟨_, cadd b66 rfl, _, cadd b66 rfl, ?_⟩
        refine Put_c S66.at_ S66.ok (by omega) o.key o.slot _ fun w71 F3 y3 c3 u3 => ⟨_, rfl, ?_⟩
        have p3 : putE y2 o.key o.slot = 0 := by
          have hb' := val_bar kx hv
          rw [Nx] at hb'
          unfold putE
          rw [S66.N, if_neg (by simp [hb']), hv2]; rfl
        rw [p3]
        refine sel_false rfl ?_
        have hr := rx _ _ _ hv
        rw [q60]
        refine fin w71 F3 y3 ((S66.chg c3 (S66.rng.put hr.1 hr.2 u3)).cnt (by omega)) (fun k i n' h => ?_) (fun k i n' h => ?_) fun n' h => ?_
        · rw [u3] at h
          split at h
          · rename_i hh
            rw [hh.2.1, hh.2.2, hv]; exact h
          · exact sub k i n' h
        · rw [u3, if_neg (fun hh => by rw [hh.2.1, hh.2.2, hv2] at h; cases h)]; exact h
        · rw [u3, if_pos ⟨p3, rfl, rfl⟩]
          rw [hv] at h; exact h
  have : b = m := by omega
  subst this
  have same : ∀ k i, x.val k i = y2.val k i := fun k i => by
    cases hv : x.val k i with
    | none =>
      cases hv2 : y2.val k i with
      | none => rfl
      | some n => rw [sub _ _ _ hv2] at hv; cases hv
    | some n =>
      obtain ⟨o, ho', _, h2, h3⟩ := sx k i n hv
      rw [← h2, ← h3] at hv ⊢
      exact (done o (by rw [Nat.sub_self]; exact ho') n hv).symm
  have q43 := S43.q
  rw [← q43]
  refine Same_c (ax.ext0 S43.ext) kx (by omega) S43.at_ S43.ok (by omega) fun t1 w74 ht1 e74 => ⟨_, rfl, ?_⟩
  obtain rfl : t1 = true := ht1.2 same
  have S74 := S43.ext0 e74
  refine sel_false rfl (Same_c S74.at_ S74.ok (by omega) (ax.ext0 S74.ext) kx (by omega) fun t2 w77 ht2 e77 => ⟨_, rfl, ?_⟩)
  obtain rfl : t2 = true := ht2.2 fun k i => (same k i).symm
  have S77 := S74.ext0 e77
  refine sel_false rfl (Keys_c (ax.ext0 S77.ext) (by omega) fun KA1 n1 kc1 xs1 w80 e80 own80 hk80 hn80 => ⟨_, _, _, rfl, ?_⟩)
  have S80 := S77.ext0 e80
  refine Keys_c S80.at_ (by omega) fun KA2 n2 kc2 xs2 w83 e83 own83 hk83 hn83 => ⟨_, _, _, rfl, ?_⟩
  have S83 := S80.ext0 e83
  have hxs : xs1 = xs2 := strict_eq hk80.strict hk83.strict fun a => by
    rw [hk80.mem, hk83.mem, cols_iff kx, cols_iff S43.ok]
    simp only [same]
  refine textsAre_c (own80.cells.ext0 e83) own80.len own83.cells own83.len (by omega) hxs fun w86 e86 => ⟨_, rfl, sel_false rfl ?_⟩
  have S86 := S83.ext0 e86
  have gx86 := (ax.ext0 S86.ext).g kx (by omega) rx
  have gy86 := S86.at_.g S86.ok (by omega) S86.rng
  -- both answer alike
  refine ⟨fun t w' => ∃ a : Nat, t = a ∧ a ≤ b ∧ Ext [] w86 w', fun t _ => b - t.toNat, ⟨0, rfl, by omega, Ext.refl _ _⟩, ?_⟩
  rintro _ _ w91 ⟨i, rfl, hi, e91⟩
  have S91 := S86.ext0 e91
  refine sel_dec (fun hlt => ?_) (fun hge => ?_)
  · have hlt : i < b := by omega
    obtain ⟨o, ad, hoa, rfl, rd⟩ := (ho9.ext0 S91.ext).read (a := i) (by omega)
    have hin := ho.in_ o (List.mem_of_getElem? hoa)
    refine when_dec ⟨by omega, by omega⟩ (ptr_in ⟨_, _, _, _, _, _, _, _, _, _, rd, fun w101 h101 => ?_⟩)
    obtain ⟨w102, hr102, b102, e102⟩ := op_box (o := o) h101
    have f102 := e91.trans e102
    have dd : Ext [] w102 w102.drew := (Ext.refl _ _).drew
    have c3 : ∀ w', Ext [] w102 w' → w'.cell? (Addr.add ⟨w91.heap.size, 0, none⟩ 3) = some (.string o.key) := fun w' e => cadd (b102.ext0 e) rfl
    have c5 : ∀ w', Ext [] w102 w' → w'.cell? (Addr.add ⟨w91.heap.size, 0, none⟩ 5) = some (.int .i64 o.n) := fun w' e => cadd (b102.ext0 e) rfl
    refine ⟨w102, hr102, fun t w' => t = false ∧ Ext [] w102 w', ⟨fun w' => Ext [] w102 w', dd, _, c3, _, c5, _, c3, _, c5, ?_⟩, ?_⟩
    · refine Find_c' (w := w102.drew) ((gx86.ext0 f102).ext0 dd) o.key 4 o.n hin.n0 hin.n1 fun p1 b1 w112 S1 g1 _ _ H1 => ⟨_, rfl, dd.trans g1, ?_⟩
      have f112 := dd.trans g1
      refine Find_c' ((gy86.ext0 f102).ext0 f112) o.key 4 o.n hin.n0 hin.n1 fun p2 b2 w115 S2 g2 _ _ H2 => ⟨_, rfl, f112.trans g2, ?_⟩
      have f115 := f112.trans g2
      refine Equal_h (H1.ext0 g2) H2 (find_same same o.key 4 o.n) ⟨_, rfl, f115, sel_false rfl ⟨_, c3, _, c5, _, c3, _, c5, ?_⟩⟩
      have ints1 : ∀ {w : World} {g : Nat}, BlkT w g [.int .i64 o.n] 3 → Ints w .i64 (some ⟨g, 0, none⟩) 1 [o.n] := fun h => Ints.of_blk (xs := [o.n]) h.blk (by intro j hj; simp at hj; subst hj; rfl)
      refine ⟨fun w123 h123 => ⟨?_, ?_, fun w134 h134 => ⟨?_, ?_⟩, trivial⟩, fun w144 h144 => ⟨?_, fun w145 h145 => ⟨?_, ?_⟩⟩, trivial⟩
      · obtain ⟨b123, x123, _⟩ := box_new (cs := [.int .i64 o.n]) h123
        exact f115.trans x123
      · obtain ⟨b123, x123, _⟩ := box_new (cs := [.int .i64 o.n]) h123
        have f123 := f115.trans x123
        refine Among_c' ((gx86.ext0 f102).ext0 f123) o.key (ints1 b123) (fun ad e => by cases e; exact b123.lt) (by simp) fun p3 b3 w126 S3 g3 _ _ H3 => ⟨_, rfl, f123.trans g3, fun w127 h127 => ?_⟩
        obtain ⟨b127, x127, _⟩ := box_new (cs := [.int .i64 o.n]) h127
        have f127 := (f123.trans g3).trans x127
        refine ⟨f127, Among_c' ((gy86.ext0 f102).ext0 f127) o.key (ints1 b127) (fun ad e => by cases e; exact b127.lt) (by simp) fun p4 b4 w130 S4 g4 _ _ H4 => ⟨_, rfl, f127.trans g4, ?_⟩⟩
        exact Equal_h ((H3.ext0 x127).ext0 g4) H4 (among_same same o.key [o.n]) ⟨_, rfl, f127.trans g4, rfl, f127.trans g4⟩
      · obtain ⟨b123, x123, _⟩ := box_new (cs := [.int .i64 o.n]) h123
        obtain ⟨b134, x134, _⟩ := box_new (cs := [.int .i64 o.n]) h134
        exact (f115.trans x123).trans x134
      · obtain ⟨b123, x123, _⟩ := box_new (cs := [.int .i64 o.n]) h123
        obtain ⟨b134, x134, _⟩ := box_new (cs := [.int .i64 o.n]) h134
        have b123' := b123.ext0 x134
        have f134 := (f115.trans x123).trans x134
        refine Among_c' ((gx86.ext0 f102).ext0 f134) o.key (ints1 b123') (fun ad e => by cases e; exact b123'.lt) (by simp) fun p3 b3 w137 S3 g3 _ _ H3 => ⟨_, rfl, f134.trans g3, ?_⟩
        have f137 := f134.trans g3
        have b134' := b134.ext0 g3
        refine Among_c' ((gy86.ext0 f102).ext0 f137) o.key (ints1 b134') (fun ad e => by cases e; exact b134'.lt) (by simp) fun p4 b4 w140 S4 g4 _ _ H4 => ⟨_, rfl, f137.trans g4, ?_⟩
        exact Equal_h (H3.ext0 g4) H4 (among_same same o.key [o.n]) ⟨_, rfl, f137.trans g4, rfl, f137.trans g4⟩
      · obtain ⟨b144, x144, _⟩ := box_new (cs := [.int .i64 o.n]) h144
        exact f115.trans x144
      · obtain ⟨b144, x144, _⟩ := box_new (cs := [.int .i64 o.n]) h144
        obtain ⟨b145, x145, _⟩ := box_new (cs := [.int .i64 o.n]) h145
        exact (f115.trans x144).trans x145
      · obtain ⟨b144, x144, _⟩ := box_new (cs := [.int .i64 o.n]) h144
        obtain ⟨b145, x145, _⟩ := box_new (cs := [.int .i64 o.n]) h145
        have f145 := (f115.trans x144).trans x145
        refine Among_c' ((gx86.ext0 f102).ext0 f145) o.key (ints1 b145) (fun ad e => by cases e; exact b145.lt) (by simp) fun p3 b3 w148 S3 g3 _ _ H3 => ⟨_, rfl, f145.trans g3, ?_⟩
        have f148 := f145.trans g3
        have b144' := (b144.ext0 x145).ext0 g3
        refine Among_c' ((gy86.ext0 f102).ext0 f148) o.key (ints1 b144') (fun ad e => by cases e; exact b144'.lt) (by simp) fun p4 b4 w151 S4 g4 _ _ H4 => ⟨_, rfl, f148.trans g4, ?_⟩
        exact Equal_h (H3.ext0 g4) H4 (among_same same o.key [o.n]) ⟨_, rfl, f148.trans g4, rfl, f148.trans g4⟩
    · rintro _ _ w157 ⟨rfl, f157⟩
      refine sel_false rfl ?_
      rw [up64 i (by omega)]
      exact ⟨⟨i + 1, rfl, by omega, f102.trans f157⟩, by simp only [Int.toNat_natCast]; omega⟩
  -- one entry more, and it isn't the same
  refine Put_c S91.at_ S91.ok (by omega) otherKey 7 1 fun w160 F3 y3 c3 u3 => ⟨_, rfl, ?_⟩
  have S160 := S91.chg c3 (S91.rng.put (by omega) (by omega) u3)
  have q160 : y3.q = y2.q := c3.q
  refine sel_intro (fun h0 => ?_) (fun h0 => ?_)
  · have h0 : putE y2 otherKey 7 = 0 := eq_of_beq h0
    have hb0 : barV y2.N otherKey 7 = 0 := by
      unfold putE at h0
      by_cases hbb : barV y2.N otherKey 7 = 0
      · exact hbb
      · rw [if_pos hbb] at h0; exact absurd h0 hbb
    have hy0 : y2.val otherKey 7 = none := by
      unfold putE at h0
      rw [if_neg (by simp [hb0])] at h0
      cases hq : y2.val otherKey 7 with
      | none => rfl
      | some n => rw [hq] at h0; cases h0
    have hy3 : y3.val otherKey 7 = some 1 := by rw [u3, if_pos ⟨h0, rfl, rfl⟩]
    rw [← q160]
    refine Same_c (ax.ext0 S160.ext) kx (by omega) S160.at_ S160.ok (by omega) fun t3 w163 ht3 e163 => ⟨_, rfl, ?_⟩
    have t3f : t3 = false := by
      cases t3 with
      | false => rfl
      | true =>
        have := ht3.1 rfl otherKey 7
        rw [same, hy0, hy3] at this; cases this
    subst t3f
    have S163 := S160.ext0 e163
    refine sel_false rfl (Del_c S163.at_ S163.ok (by omega) otherKey 7 fun w166 F4 y4 c4 u4 => ⟨_, rfl, ?_⟩)
    have d4 := del_zero S163.ok hy3
    rw [d4]
    refine sel_false rfl ?_
    have S166 := S163.chg c4 (S163.rng.del u4)
    have same4 : ∀ k i, x.val k i = y4.val k i := fun k i => by
      rw [u4, same]
      by_cases hh : k = otherKey ∧ i = 7
      · rw [if_pos ⟨d4, hh⟩, hh.1, hh.2, hy0]
      · rw [if_neg (fun h => hh h.2), u3, if_neg (fun h => hh h.2)]
    rw [← c4.q]
    refine Same_c (ax.ext0 S166.ext) kx (by omega) S166.at_ S166.ok (by omega) fun t4 w169 ht4 e169 => ⟨_, rfl, ?_⟩
    obtain rfl : t4 = true := ht4.2 same4
    refine sel_false rfl ?_
    have S169 := S166.ext0 e169
    rw [S169.q]
    exact blind_end S169 (by omega) ax kx (by omega) same4 ho9 kk
  · have h0 : putE y2 otherKey 7 ≠ 0 := fun e => by rw [e] at h0; cases h0
    have same3 : ∀ k i, x.val k i = y3.val k i := fun k i => by rw [u3, if_neg (fun h => h0 h.1), same]
    rw [← q160, S160.q]
    exact blind_end S160 (by omega) ax kx (by omega) same3 ho9 kk
set_option maxRecDepth 100000 in
theorem orderedBlind_lifted (os : Os) (started : os.Started) (H : Type) (enc : TypeId × Value → H) :
    ReturnsInHanded {} Try.checked os 6 .any (Rows.orderedBlindSpec.pre6 enc Try.prog Try.f6 Rows.orderedBlindRow.domain false) (Rows.orderedBlindSpec.post enc Try.prog Try.f6 false true false false) :=
  lift2 (C := Try.checked) (T := 22) (U := 22) (tb := 4) own (by kernel_rfl) Try.func6 (by kernel_rfl) (by kernel_rfl) Try.underlying4 rfl (fun _ _ _ => rfl) laidOut (by kernel_rfl) (of_decide_eq_true (by kernel_rfl)) (by kernel_rfl) (of_decide_eq_true (by kernel_rfl)) os started H enc
    (fun W base v v' d d' p p' hok h hw hok' h' hw' => by
      obtain ⟨A, n, c, ops, rfl, ho⟩ := open_ops hok h hw
      obtain ⟨B, m, c2, dops, rfl, hq⟩ := open_ops hok' h' hw'
      exact orderedBlind_c ho hq fun w' e => ⟨rfl, e.below⟩)
    (ChangeSpec.witness6 (enc := enc) (C := Try.checked) false ⟨#[], #[.slice none 0 0, .slice none 0 0], []⟩ 8 (by kernel_rfl) (by kernel_rfl) (by kernel_rfl) (by kernel_rfl))
theorem orderedBlind_holds : Rows.OrderedBlindSaid :=
  OpenClaim.holds_of_wide 6 Try.f6 rfl rfl rfl rfl rfl rfl rfl ⟨rfl, rfl, rfl, rfl, rfl⟩ rfl rfl rfl rfl rfl (by kernel_rfl) Try.func6 (by kernel_rfl)
    (of_decide_eq_true (by kernel_rfl)) (by unfold Func.isWrapper; first | (rw [if_pos (by decide +kernel)]; kernel_rfl) | (rw [if_neg (by decide +kernel)]; exact ⟨rfl, rfl⟩))
    (fun os started H enc _ => orderedBlind_lifted os started H enc)
end Go.Proofs.Ytjlkdadafddodaa
